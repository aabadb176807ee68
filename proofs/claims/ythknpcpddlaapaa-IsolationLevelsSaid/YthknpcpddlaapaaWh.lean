/- Histories and their anomalies (part Wh) -/
import Derived.Test.YthknpcpddlaapaaWg
set_option linter.all false
namespace Go.Proofs.Ythknpcpddlaapaa
open Go.Am
attribute [local simp, local push_cast] num boo str ints rEv aEv rTk aTk rEg aEg aH vEv vecI aDone boos_ren boos_closed d5_take d5_drop d5_len rEg_snoc aG gC_len gC_take gC_drop gC_closed gC_ren cellO_closed cellO_ren
set_option linter.unusedVariables false
set_option maxRecDepth 100000
set_option maxHeartbeats 4000000
/-! Serial orders. -/
theorem c_idxB (l : List Bool) (b : Bool) (hl : l.length ≤ 1000) : ACall Try.prog 65 [.vs 1000 l.length, boo b] [(1000, .var (boos l))] (num (fidx (fun y => b == y) l)) [(1000, .var (boos l))] := by
  refine enterq mixed ttok Try.func65 Try.ntmps65 Try.results65 ?_
  generalize hr : num (fidx (fun y => b == y) l) = R
  simp -implicitDefEqProofs only [argT, ↓steps, push_cast, simprocAttr, tte]
  refine loop_gen mixed ttok (fun n : Nat => (⟨[(8, .d (.lit (.int .i64 n))), (7, .d (.lit (.int .i64 l.length))), (0, .vs 1000 l.length), (1, boo b)], [(1000, .var (boos l))]⟩ : SL)) (fun n => l.length - n) (fun n => n ≤ l.length ∧ ∀ i, i < n → (b == l.getD i default) = false) 0 ⟨Nat.zero_le _, fun i h => absurd h (Nat.not_lt_zero _)⟩ ?_ ?_
  · exact Weak.keepL (by simp [ends]) (by simp [ends]) (by simp [ends])
  intro I hI n ⟨hn, hi⟩
  simp -implicitDefEqProofs only [↓steps, push_cast, simprocAttr, tte]
  refine bcase_intro (fun h => ?_) fun h => ?_
  · simp only [decide_eq_true_eq] at h
    have h' : n < l.length := by omega
    have hw := wrap_succ h' (by omega)
    have hat : (boos l)[n]? = some (.d (.lit (.bool (l.getD n false)))) := boos_at h'
    simp -implicitDefEqProofs only [hat, ↓steps, push_cast, simprocAttr, tte]
    refine ⟨⟨by omega, h⟩, ?_⟩
    refine bcase_intro (fun g => ?_) fun g => ?_
    · exact ret_dO trivial (by rw [← hr, fidx_at (fun y => b == y) l n h' hi g]; rfl) (by simp [ends]) (by simp [ends])
    · exact gen_again hI (n + 1) ⟨by omega, fun i h2 => if h3 : i = n then by rw [h3]; exact g else hi i (by omega)⟩ (by show l.length - (n + 1) < l.length - n; omega) (Weak.keepL (by simp [hw, ends]) (by simp [ends]) (by simp [ends]))
  · simp only [decide_eq_false_iff_not] at h
    obtain rfl : n = l.length := by omega
    exact ret_dO trivial (by rw [← hr, fidx_none _ l hi]; rfl) (by simp [ends]) (by simp [ends])
theorem c_conB (l : List Bool) (b : Bool) (hl : l.length ≤ 1000) : ACall Try.prog 40 [.vs 1000 l.length, boo b] [(1000, .var (boos l))] (boo (l.contains b)) [(1000, .var (boos l))] := by
  refine enterq mixed ttok Try.func40 Try.ntmps40 Try.results40 ?_
  generalize hr : boo (l.contains b) = R
  simp -implicitDefEqProofs only [argT, ↓steps, push_cast, simprocAttr, tte]
  refine callx_ofV [(1000, 1000)] (view_raw _ _) (c_idxB l b hl) (by simp [boos_closed, ends, bs]) (by simp [ends, bs]) (by simp [boos_closed, ends]) (by simp [idsOk, lookO, updO, ren1]) ?_
  simp -implicitDefEqProofs only [↓steps, push_cast, simprocAttr, tte]
  exact ret_dO trivial (by rw [← hr, fidx_any, List.contains_eq_any_beq]; rfl) (by simp [ends]) (by simp [ends])
def okT (dep : Gr) (L : List Bool) (t k : Nat) : Bool := L.getD t false && (List.range k).all fun s => !(L.getD s false && dep s t)
def okF (dep : Gr) (L : List Bool) (t : Nat) : Bool := L.getD t false && (List.range 5).all fun s => !(L.getD s false && dep s t)
def firstM (dep : Gr) (L : List Bool) : Int := match (List.range 5).find? (okF dep L) with | some t => t | none => -1
theorem find_range (p : Nat → Bool) : ∀ n k, (∀ j, j < k → p j = false) → k ≤ n → (List.range n).find? p = ((List.range n).drop k).find? p := by
  intro n k h hk
  conv => lhs; rw [← List.take_append_drop k (List.range n), List.find?_append]
  have : ((List.range n).take k).find? p = none := List.find?_eq_none.2 fun y hy => by
    have hy := List.mem_take_iff_getElem.1 hy
    obtain ⟨i, hi, rfl⟩ := hy
    simp only [List.getElem_range]
    rw [h i (by omega)]; decide
  rw [this]; rfl
theorem find_hit (p : Nat → Bool) {n k : Nat} (h : ∀ j, j < k → p j = false) (hk : k < n) (hp : p k = true) : (List.range n).find? p = some k := by
  rw [find_range p n k h (by omega), List.drop_eq_getElem_cons (by simp; omega), List.find?_cons_of_pos (by simpa using hp)]
  simp
theorem find_miss (p : Nat → Bool) {n : Nat} (h : ∀ j, j < n → p j = false) : (List.range n).find? p = none :=
  List.find?_eq_none.2 fun y hy => by rw [h y (List.mem_range.1 hy)]; decide
theorem c_first (p a : Gr) (L : List Bool) (hL : L.length = 5) : ACall Try.prog 41 [aG p a, .agg (boos L)] [] (num (firstM (fun x y => p x y || a x y) L)) [] := by
  refine enterq mixed ttok Try.func41 Try.ntmps41 Try.results41 ?_
  generalize hdep : (fun x y => p x y || a x y) = dep
  generalize hr : num (firstM dep L) = R
  have hbl : (boos L).length = 5 := by rw [boos_length, hL]
  have hbt : List.take 5 (boos L) = boos L := List.take_of_length_le (by omega)
  have hpk : ∀ t : Nat, t < 5 → pickAt (boos L) ((t : Int)).toNat = .d (.lit (.bool (L.getD t false))) := fun t ht => by rw [Int.toNat_natCast, boos_pick (by omega)]
  simp -implicitDefEqProofs only [argT, hbt, ↓steps, push_cast, simprocAttr, tte]
  refine ⟨by omega, ?_⟩
  refine loop_gen mixed ttok (fun t : Nat => (⟨[(10, .d (.lit (.int .i64 t))), (9, .agg (boos L)), (3, .ptr 3 0), (2, .ptr 2 0)], [(2, .var (gC p a)), (3, .var (boos L))]⟩ : SL)) (fun t => 5 - t)
    (fun t => t ≤ 5 ∧ ∀ j, j < t → okF dep L j = false) 0 ⟨Nat.zero_le _, fun j h => absurd h (Nat.not_lt_zero _)⟩ ?_ ?_
  · exact Weak.keepL (by simp [ends]) (by simp [ends]) (by simp [ends])
  intro I hI t ⟨ht, hno⟩
  have hwt : IntKind.i64.wrap ((t : Int) + 1) = ((t + 1 : Nat) : Int) := by rw [wrap_eq (by omega) (by omega)]; rfl
  by_cases h5 : t < 5
  · have hp1 := hpk t h5
    simp -implicitDefEqProofs only [↓hp1, hbt, ↓steps, push_cast, simprocAttr, tte]
    refine bcase_intro (fun _ => ?_) fun q => absurd q (by simp; omega)
    refine ⟨⟨⟨by omega, by omega⟩, hbl⟩, by omega, ?_⟩
    refine loop_gen mixed ttok (fun s : Nat => (⟨[(15, .d (.lit (.int .i64 s))), (14, .agg (boos L)), (6, boo (okT dep L t s)), (5, num t), (10, .d (.lit (.int .i64 t))), (9, .agg (boos L)), (3, .ptr 3 0), (2, .ptr 2 0)], [(2, .var (gC p a)), (3, .var (boos L))]⟩ : SL)) (fun s => 5 - s)
      (fun s => s ≤ 5) 0 (Nat.zero_le _) ?_ ?_
    · have e0 : okT dep L t 0 = L.getD t false := by unfold okT; simp
      exact Weak.keepL (by simp [e0, ends]) (by simp [ends]) (by simp [ends])
    intro J hJ s hs
    have hws : IntKind.i64.wrap ((s : Int) + 1) = ((s + 1 : Nat) : Int) := by rw [wrap_eq (by omega) (by omega)]; rfl
    by_cases hs5 : s < 5
    · have hp2 := hpk s hs5
      have hsucc : okT dep L t (s + 1) = (okT dep L t s && !(L.getD s false && dep s t)) := by unfold okT; rw [all_range_succ, Bool.and_assoc]
      simp -implicitDefEqProofs only [↓hp2, hbt, ↓steps, push_cast, simprocAttr, tte]
      generalize okT dep L t s = V at hsucc ⊢
      refine bcase_intro (fun _ => ?_) fun q => absurd q (by simp; omega)
      refine ⟨⟨⟨by omega, by omega⟩, hbl⟩, ?_⟩
      refine bcase_intro (fun b1 => ?_) fun b1 => ?_
      · refine bcase_intro (fun b2 => ?_) fun b2 => ?_
        · have hc := c_depends p a hs5 h5
          refine callq [[], [], []] [] (hc) ?_ (hz := by simp only [frzAL, frzA, frz_gC, frz_boos, List.cons_append, List.nil_append, List.append_nil]; exact rfl) (hgs := by simp [rowsOf_length] <;> omega) (hargs := by simp [ends, bs]) (hcl := by simp [ends, bs])
          simp -implicitDefEqProofs only [↓steps, push_cast, simprocAttr, tte]
          have hb : (p s t || a s t) = dep s t := by rw [← hdep]
          rw [hb]
          rw [b1, b2, Bool.true_and, Bool.true_and] at hsucc
          exact gen_again hJ (s + 1) hs5 (by show 5 - (s + 1) < 5 - s; omega) (Weak.keepL (by simp [hws, hsucc, ends]) (by simp [ends]) (by simp [ends]))
        · rw [b1, b2, Bool.true_and, Bool.false_and] at hsucc
          exact gen_again hJ (s + 1) hs5 (by show 5 - (s + 1) < 5 - s; omega) (Weak.keepL (by simp [hws, hsucc, ends]) (by simp [ends]) (by simp [ends]))
      · rw [b1, Bool.false_and] at hsucc
        exact gen_again hJ (s + 1) hs5 (by show 5 - (s + 1) < 5 - s; omega) (Weak.keepL (by simp [hws, hsucc, ends]) (by simp [ends]) (by simp [ends]))
    · obtain rfl : s = 5 := by omega
      have hok : okT dep L t 5 = okF dep L t := rfl
      rw [hok]
      simp -implicitDefEqProofs only [↓steps, push_cast, simprocAttr, tte]
      refine bcase_intro (fun b => ?_) fun b => ?_
      · exact ret_d trivial (by rw [← hr, firstM, find_hit (okF dep L) hno h5 b]; rfl) (by simp [ends])
      · refine gen_again hI (t + 1) ⟨h5, fun j hj => ?_⟩ (by show 5 - (t + 1) < 5 - t; omega) (Weak.keepL (by simp [hwt, ends]) (by simp [ends]) (by simp [ends]))
        by_cases hjt : j = t
        · rw [hjt]; exact b
        · exact hno j (by omega)
  · obtain rfl : t = 5 := by omega
    simp -implicitDefEqProofs only [↓steps, push_cast, simprocAttr, tte]
    exact ret_d trivial (by rw [← hr, firstM, find_miss (okF dep L) hno]; rfl) (by simp [ends])
end Go.Proofs.Ythknpcpddlaapaa
namespace Go.Proofs.Ythknpcpddlaapaa
open Go.Am
attribute [local simp, local push_cast] num boo str ints rEv aEv rTk aTk rEg aEg aH vEv vecI aDone boos_ren boos_closed d5_take d5_drop d5_len rEg_snoc aG gC_len gC_take gC_drop gC_closed gC_ren
set_option linter.unusedVariables false
set_option maxRecDepth 100000
set_option maxHeartbeats 4000000
/-! The serial order. -/
def toL (L : List Bool) : List Nat := (List.range 5).filter fun t => L.getD t false
theorem toL_mem {L : List Bool} {t : Nat} : t ∈ toL L ↔ t < 5 ∧ L.getD t false = true := by unfold toL; rw [List.mem_filter, List.mem_range]
theorem toL_nd (L : List Bool) : (toL L).Nodup := List.nodup_range.sublist List.filter_sublist
theorem find_filter (q p : Nat → Bool) : ∀ l : List Nat, (l.filter q).find? p = l.find? fun t => q t && p t
  | [] => rfl
  | x :: l => by
    have ih := find_filter q p l
    rw [List.filter_cons, List.find?_cons]
    by_cases h : q x = true
    · rw [if_pos h, List.find?_cons, h, Bool.true_and, ih]
    · rw [if_neg h, ih]
      have : q x = false := by simpa using h
      rw [this, Bool.false_and]
theorem all_filter (q p : Nat → Bool) : ∀ l : List Nat, (l.filter q).all p = l.all fun s => !(q s && !p s)
  | [] => rfl
  | x :: l => by
    have ih := all_filter q p l
    rw [List.filter_cons, List.all_cons]
    by_cases h : q x = true
    · rw [if_pos h, List.all_cons, h, ih]; simp
    · rw [if_neg h, ih]
      have : q x = false := by simpa using h
      rw [this]; simp
theorem firstM_eq (dep : Gr) (L : List Bool) : firstM dep L = match (toL L).find? fun t => (toL L).all fun s => !dep s t with | some t => (t : Int) | none => -1 := by
  unfold firstM
  have : (List.range 5).find? (okF dep L) = (toL L).find? fun t => (toL L).all fun s => !dep s t := by
    unfold toL
    rw [find_filter]
    congr 1
    funext t
    unfold okF
    rw [all_filter]
    simp
  rw [this]
  all_goals (cases (toL L).find? fun t => (toL L).all fun s => !dep s t <;> rfl)
theorem toL_set {L : List Bool} (hL : L.length = 5) (t : Nat) : toL (L.set t false) = (toL L).erase t := by
  rw [(toL_nd L).erase_eq_filter]
  unfold toL
  rw [List.filter_filter]
  refine List.filter_congr fun x hx => ?_
  rw [List.mem_range] at hx
  rw [List.getD_eq_getElem?_getD, List.getElem?_set, List.getD_eq_getElem?_getD]
  by_cases h : t = x
  · subst h; simp [hL, hx]
  · rw [if_neg h]
    have : (x != t) = true := by simp; omega
    rw [this]; simp
theorem contains_toL {L : List Bool} (hL : L.length = 5) : L.contains true = !(toL L).isEmpty := by
  rw [Bool.eq_iff_iff, List.contains_iff_mem, Bool.not_eq_true', List.isEmpty_eq_false_iff_exists_mem]
  constructor
  · intro h
    obtain ⟨i, hi, he⟩ := List.getElem_of_mem h
    refine ⟨i, toL_mem.2 ⟨by omega, ?_⟩⟩
    rw [List.getD_eq_getElem?_getD, List.getElem?_eq_getElem hi, he]; rfl
  · rintro ⟨t, ht⟩
    obtain ⟨h1, h2⟩ := toL_mem.1 ht
    rw [List.getD_eq_getElem?_getD, List.getElem?_eq_getElem (by omega)] at h2
    simp only [Option.getD_some] at h2
    rw [← h2]; exact List.getElem_mem _
theorem left_toL (evs : List Hv) : leftM evs = toL (done5 evs) := by
  unfold leftM toL
  refine List.filter_congr fun t ht => ?_
  rw [List.mem_range] at ht
  have := done5_at evs (t := (t : Int)) (by omega) (by omega)
  rw [Int.toNat_natCast] at this
  rw [this]
theorem c_conB5 (L : List Bool) (b : Bool) (hL : L.length = 5) : ACall Try.prog 40 [.vs 1000 5, boo b] [(1000, .var (boos L))] (boo (L.contains b)) [(1000, .var (boos L))] := by
  have := c_conB L b (by omega)
  rwa [hL] at this
def resO : Option (List Nat) → A
  | some o => ints (toI o)
  | none => ints []
def errO : Option (List Nat) → Int
  | some _ => 0
  | none => 12
theorem c_Serial (start : List Int) (evs : List Hv) (h : validH start evs = true) :
    ACall Try.prog 19 [aH start evs] [] (.tup [resO (serM start.length evs), num (errO (serM start.length evs))]) [] := by
  refine enterq mixed ttok Try.func19 Try.ntmps19 Try.results19 ?_
  generalize hr : A.tup [resO (serM start.length evs), num (errO (serM start.length evs))] = R
  have ok := ok_of h
  have h1 := ok.s6
  have h2 := ok.e2
  have hel := edges_ln ok
  have hft := edges_ft (n := start.length) ok.tx
  have hsm : serM start.length evs = serialM (depG (edgesM start.length evs) [1, 2, 3]) (toL (done5 evs)).length (toL (done5 evs)) := by unfold serM; rw [left_toL]
  simp -implicitDefEqProofs only [argT, ↓steps, push_cast, simprocAttr, tte]
  refine callq [[1, 5]] [] (c_valid start evs ⟨by omega, by omega⟩) ?_
  simp -implicitDefEqProofs only [h, Bool.not_true, ↓steps, push_cast, simprocAttr, tte]
  refine callq [[1, 5]] [] (c_edges start evs ok) ?_
  simp -implicitDefEqProofs only [↓steps, push_cast, simprocAttr, tte]
  generalize hE : edgesM start.length evs = E at hel hft hsm ⊢
  have h123 := c_of E [1, 2, 3] (by omega) (by decide) hft
  refine callq [[4], [1]] [] (h123) ?_
  simp -implicitDefEqProofs only [↓steps, push_cast, simprocAttr, tte]
  refine callq [[1, 5]] [] (c_done start evs (by omega) ok.tx) ?_
  simp -implicitDefEqProofs only [↓steps, push_cast, simprocAttr, tte]
  have hdep : (fun x y => plainG E [1, 2, 3] x y || antiG E [1, 2, 3] x y) = depG E [1, 2, 3] := rfl
  generalize hP : plainG E [1, 2, 3] = p at hdep ⊢
  generalize hQ : antiG E [1, 2, 3] = q at hdep ⊢
  rw [← hdep] at hsm
  clear hP hQ hdep
  generalize hdep : (fun x y => p x y || q x y) = dep at hsm
  have hL0 := done5_len evs
  generalize done5 evs = L0 at hsm hL0 ⊢
  generalize serM start.length evs = S at hsm hr
  refine loop_gen mixed ttok (fun z : List Bool × List Nat => (⟨[(6, .vec 500 (toI z.2).length), (5, .ptr 5 0), (4, .ptr 4 0)], [(5, .var (boos z.1)), (4, .var (gC p q)), (500, vecI (toI z.2))]⟩ : SL)) (fun z => (toL z.1).length)
    (fun z => z.1.length = 5 ∧ z.2.length + (toL z.1).length ≤ 5 ∧ S = (serialM dep (toL z.1).length (toL z.1)).map (z.2 ++ ·)) (L0, []) ⟨hL0, ?_, ?_⟩ ?_ ?_
  · have := List.length_filter_le (fun t => L0.getD t false) (List.range 5); simp [toL] at *; omega
  · rw [hsm]; cases serialM dep (toL L0).length (toL L0) <;> simp
  · refine (Weak.nilL 6 500 3 1 rfl rfl).trans ?_
    exact Weak.keepL (by simp [toI, ends]) (by simp [rowsOf, toI, ends]) (by simp [ends])
  intro I hI ⟨L, out⟩ ⟨hL, hol, hS⟩
  simp only at hL hol hS
  have hbl : (boos L).length = 5 := by rw [boos_length, hL]
  have hbt : List.take 5 (boos L) = boos L := List.take_of_length_le (by omega)
  simp -implicitDefEqProofs only [↓steps, push_cast, simprocAttr, tte]
  have hcon := c_conB5 L true hL
  refine callx_ofV [(1000, 5)] (view_raw _ _) (hcon) (by simp [boos_closed, ends, bs]) (by simp [ends, bs]) (by simp [boos_closed, ends]) (by simp [idsOk, lookO, updO, ren1]) ?_
  simp -implicitDefEqProofs only [↓steps, push_cast, simprocAttr, tte]
  have hct := contains_toL hL
  have hti := toI_len out
  refine bcase_intro (fun a => ?_) fun a => ?_
  · rw [hct] at a
    have hne : toL L ≠ [] := by intro e; rw [e] at a; cases a
    obtain ⟨n, hn⟩ : ∃ n, (toL L).length = n + 1 := ⟨(toL L).length - 1, by have := List.length_pos_iff.2 hne; omega⟩
    refine ⟨by omega, ?_⟩
    rw [hbt]
    have hfi := c_first p q L hL
    rw [hdep, firstM_eq] at hfi
    refine callq [[], []] [] (hfi) ?_ (hz := by simp only [frzAL, frzA, frz_gC, frz_boos, List.cons_append, List.nil_append, List.append_nil]; exact rfl) (hgs := by simp [rowsOf_length] <;> omega) (hargs := by simp [ends, bs]) (hcl := by simp [ends, bs])
    simp -implicitDefEqProofs only [↓steps, push_cast, simprocAttr, tte]
    rw [hn, serialM] at hS
    have hmem := fun t => @List.mem_of_find?_eq_some _ (fun t => (toL L).all fun s => !dep s t) t (toL L)
    generalize (toL L).find? (fun t => (toL L).all fun s => !dep s t) = f at hS hmem ⊢
    cases f with
    | none =>
      simp only at hS ⊢
      refine bcase_intro (fun _ => ?_) fun z => absurd z (by decide)
      subst hr
      rw [hS]
      refine retx_tup [[1], []] rfl trivial (by simp) rfl rfl trivial (by simp [ends])
    | some t =>
      have ht := toL_mem.1 (hmem t rfl)
      simp only at hS ⊢
      refine bcase_intro (fun z => absurd z (by simp)) fun _ => ?_
      refine ⟨⟨by omega, by omega⟩, by omega, by omega, ?_⟩
      rw [boos_put (by rw [Int.toNat_natCast]; omega), Int.toNat_natCast]
      have hset := toL_set hL t
      have hlen : (toL (L.set t false)).length = n := by rw [hset, List.length_erase_of_mem (toL_mem.2 ht), hn]; rfl
      have hol2 : (toI (out ++ [t])).length = (toI out).length + 1 := by rw [toI_len, toI_len]; simp
      simp only [toI_app]
      rw [← hol2]
      refine gen_again hI (L.set t false, out ++ [t]) ⟨by rw [List.length_set]; exact hL, ?_, ?_⟩ (by show (toL (L.set t false)).length < (toL L).length; omega) (Weak.keepL (by simp [ends]) (by simp [ends]) (by simp [ends]))
      · show (out ++ [t]).length + (toL (L.set t false)).length ≤ 5
        rw [hlen, List.length_append]; simp; omega
      · show S = (serialM dep (toL (L.set t false)).length (toL (L.set t false))).map ((out ++ [t]) ++ ·)
        rw [hlen, hset, hS]
        cases serialM dep n ((toL L).erase t) <;> simp
  · rw [hct] at a
    have he : toL L = [] := by simpa using a
    rw [he] at hS
    have hS : S = some out := by rw [hS]; simp [serialM]
    subst hr
    rw [hS]
    refine retx_tup [[1], []] rfl trivial (by simp [rowsOf_length]) rfl rfl trivial (by simp [ends])
end Go.Proofs.Ythknpcpddlaapaa
