/- Histories and their anomalies (part Wm) -/
import Derived.Test.YthknpcpddlaapaaWl
set_option linter.all false
namespace Go.Proofs.Ythknpcpddlaapaa
open Go.Am
attribute [local simp, local push_cast] num boo str ints rEv aEv rTk aTk rEg aEg aH vEv vecI vecH tapeO
set_option linter.unusedVariables false
set_option maxRecDepth 100000
set_option maxHeartbeats 4000000
/-! The law of serial orders. -/
theorem anom7 (n : Nat) (evs : List Hv) : (anomM n evs).contains 7 = !(circlesC (depG (edgesM n evs) [1, 2, 3])).isEmpty := by
  have h : (hasM n evs).getD 6 false = !(circlesC (depG (edgesM n evs) [1, 2, 3])).isEmpty := rfl
  rw [← h]
  unfold anomM
  rw [Bool.eq_iff_iff, List.contains_iff_mem, List.mem_map]
  constructor
  · rintro ⟨i, hi, he⟩
    have : i = 6 := by omega
    subst this
    exact (List.mem_filter.1 hi).2
  · exact fun h => ⟨6, List.mem_filter.2 ⟨by decide, h⟩, rfl⟩
theorem circ_ser {start : List Int} {evs : List Hv} (ok : OkH start evs) : (circM start.length evs).isSome = !(serM start.length evs).isSome := by
  have h := ser_circ (n := start.length) ok.tx
  unfold circM
  rw [head_some]
  cases hs : serM start.length evs with
  | none =>
    have := h.1 hs
    cases hc : circlesC (depG (edgesM start.length evs) [1, 2, 3]) with
    | nil => exact absurd hc this
    | cons c l => rfl
  | some o =>
    cases hc : circlesC (depG (edgesM start.length evs) [1, 2, 3]) with
    | nil => rfl
    | cons c l =>
      have := h.2 (by rw [hc]; simp)
      rw [hs] at this
      cases this
theorem add_kind {out : List Eg} {f t k key : Int} (h : ∀ e ∈ out, e.kind = 1 ∨ e.kind = 2 ∨ e.kind = 3) (hk : k = 1 ∨ k = 2 ∨ k = 3) : ∀ e ∈ addE out f t k key, e.kind = 1 ∨ e.kind = 2 ∨ e.kind = 3 := by
  unfold addE
  split
  · intro e he
    rcases List.mem_append.1 he with he | he
    · exact h e he
    · rw [List.mem_singleton] at he; rw [he]; exact hk
  · exact h
theorem pairs_kind {key : Int} {l : List Int} {out : List Eg} (h : ∀ e ∈ out, e.kind = 1 ∨ e.kind = 2 ∨ e.kind = 3) : ∀ i, ∀ e ∈ pairsE key l out i, e.kind = 1 ∨ e.kind = 2 ∨ e.kind = 3
  | 0 => h
  | i + 1 => add_kind (pairs_kind h i) (.inl rfl)
theorem keys_kind (evs : List Hv) : ∀ k, ∀ e ∈ keysE evs k, e.kind = 1 ∨ e.kind = 2 ∨ e.kind = 3
  | 0 => fun e he => absurd he (by simp [keysE])
  | k + 1 => pairs_kind (keys_kind evs k) _
theorem takeE_kind {evs : List Hv} {out : List Eg} {t : Tk} (h : ∀ e ∈ out, e.kind = 1 ∨ e.kind = 2 ∨ e.kind = 3) : ∀ e ∈ takeE evs out t, e.kind = 1 ∨ e.kind = 2 ∨ e.kind = 3 := by
  unfold takeE
  split
  · exact add_kind (add_kind h (.inr (.inl rfl))) (.inr (.inr rfl))
  · exact add_kind h (.inr (.inl rfl))
theorem fold_kind {evs : List Hv} : ∀ (l : List Tk) (out : List Eg), (∀ e ∈ out, e.kind = 1 ∨ e.kind = 2 ∨ e.kind = 3) → ∀ e ∈ l.foldl (takeE evs) out, e.kind = 1 ∨ e.kind = 2 ∨ e.kind = 3
  | [], out, h => h
  | t :: l, out, h => fold_kind l _ (takeE_kind h)
theorem edge_kind {n : Nat} {evs : List Hv} : ∀ e ∈ edgesM n evs, e.kind = 1 ∨ e.kind = 2 ∨ e.kind = 3 := fun e he => fold_kind _ _ (keys_kind evs n) e (edges_raw.1 he)
/-- The places in an order. -/
def plc (o : List Nat) : Nat → List Int
  | 0 => List.replicate 5 0
  | k + 1 => (plc o k).set (o.getD k 0) k
theorem plc_len (o : List Nat) : ∀ k, (plc o k).length = 5
  | 0 => rfl
  | k + 1 => by rw [plc, List.length_set, plc_len o k]
theorem plc_at {o : List Nat} (hn : o.Nodup) (h5 : ∀ t ∈ o, t < 5) {i : Nat} : ∀ k, i < k → k ≤ o.length → (plc o k).getD (o.getD i 0) 0 = i
  | 0, h, _ => absurd h (Nat.not_lt_zero _)
  | k + 1, h, hk => by
    have hm : ∀ j, j < o.length → o.getD j 0 < 5 := fun j hj => h5 _ (by rw [List.getD_eq_getElem?_getD, List.getElem?_eq_getElem hj]; exact List.getElem_mem hj)
    rw [plc, List.getD_eq_getElem?_getD, List.getElem?_set]
    by_cases e : i = k
    · subst e
      have := hm i (by omega)
      rw [if_pos rfl, if_pos (by rw [plc_len]; exact this)]; rfl
    · have hne : o.getD k 0 ≠ o.getD i 0 := fun q => by
        rw [List.getD_eq_getElem?_getD, List.getD_eq_getElem?_getD, List.getElem?_eq_getElem (show k < o.length by omega), List.getElem?_eq_getElem (show i < o.length by omega)] at q
        simp only [Option.getD_some] at q
        have := (List.getElem_inj hn).1 q
        omega
      rw [if_neg hne, ← List.getD_eq_getElem?_getD]
      exact plc_at hn h5 k (by omega) (by omega)
def lstO (s : Option (List Nat)) : List Nat := s.getD []
theorem resO_lst (s : Option (List Nat)) : resO s = ints (toI (lstO s)) := by cases s <;> rfl
structure LawS (E : List Eg) (o c : List Nat) (f g : Int) : Prop where
  nd : o.Nodup
  o5 : ∀ t ∈ o, t < 5
  ol : o.length ≤ 5
  c5 : c.length ≤ 5
  place : g = 0 → ∀ e ∈ E, (plc o o.length).getD e.frm.toNat 0 < (plc o o.length).getD e.to.toNat 0
  circ : ∀ k, k < c.length → ∃ e ∈ E, e.frm = (c.getD k 0 : Nat) ∧ e.to = (c.getD ((k + 1) % c.length) 0 : Nat)
  fg : ((f == 0) == (g == 0)) = false
theorem law_facts {start : List Int} {evs : List Hv} (ok : OkH start evs) : LawS (edgesM start.length evs) (lstO (serM start.length evs)) (lstO (circM start.length evs)) (errO (circM start.length evs)) (errO (serM start.length evs)) := by
  have hcs := circ_ser ok
  cases hs : serM start.length evs with
  | none =>
    rw [hs] at hcs
    cases hc : circM start.length evs with
    | none => rw [hc] at hcs; cases hcs
    | some c =>
      have hm : c ∈ circlesC (depG (edgesM start.length evs) [1, 2, 3]) := List.mem_of_mem_head? hc
      exact ⟨by simp [lstO], by simp [lstO], by simp [lstO], (mem_circles.1 hm).2.2, (fun h => by cases h), fun k hk => circ_edge hm hk, rfl⟩
  | some o =>
    rw [hs] at hcs
    cases hc : circM start.length evs with
    | some c => rw [hc] at hcs; cases hcs
    | none =>
      obtain ⟨hp, _⟩ := serial_order _ _ _ (List.nodup_range.sublist List.filter_sublist) rfl hs
      have hnd : o.Nodup := hp.nodup_iff.2 (List.nodup_range.sublist List.filter_sublist)
      have h5 : ∀ t ∈ o, t < 5 := fun t ht => (left_mem.1 (hp.mem_iff.1 ht)).1
      have hol : o.length ≤ 5 := nodup_len 5 o hnd h5
      refine ⟨hnd, h5, hol, by simp [lstO], fun _ e he => ?_, fun k hk => absurd hk (by simp [lstO]), rfl⟩
      obtain ⟨i, j, hij, hj, h1, h2⟩ := ser_place ok.tx hs he (edge_kind e he)
      show (plc o o.length).getD e.frm.toNat 0 < (plc o o.length).getD e.to.toNat 0
      rw [← h1, ← h2, Int.toNat_natCast, Int.toNat_natCast, plc_at hnd h5 o.length (by omega) (Nat.le_refl _), plc_at hnd h5 o.length hj (Nat.le_refl _)]
      omega
theorem c_Circle' (start : List Int) (evs : List Hv) (h : validH start evs = true) : ACall Try.prog 24 [aH start evs] [] (.tup [ints (toI (lstO (circM start.length evs))), num (errO (circM start.length evs))]) [] := by
  have := c_Circle start evs h
  cases hc : circM start.length evs <;> (rw [hc] at this; exact this)
theorem c_Serial' (start : List Int) (evs : List Hv) (h : validH start evs = true) : ACall Try.prog 19 [aH start evs] [] (.tup [ints (toI (lstO (serM start.length evs))), num (errO (serM start.length evs))]) [] := by
  have := c_Serial start evs h
  rwa [resO_lst] at this
def hasE (E : List Eg) (x y : Int) (m : Nat) : Bool := (E.take m).any fun e => (e.frm == x) && (e.to == y)
theorem c_lawS (t : List Int) (ht : ∀ x ∈ t, i64 x) : ACall Try.prog 6 [ints t] [] (boo true) [] := by
  refine enterq mixed ttok Try.func6 Try.ntmps6 Try.results6 ?_
  have hx := tapeF_take ht
  simp -implicitDefEqProofs only [argT, ↓steps, push_cast, simprocAttr, tte]
  refine callq [[1]] [(1000, 24)] (c_new t) ?_
  simp -implicitDefEqProofs only [↓steps, push_cast, simprocAttr, tte]
  have hm := c_made hx
  have hok := made_ok hx
  generalize hxs : t.take 2000 = xs at hm hok hx ⊢
  refine callq [[]] [(1000, 24)] (hm) ?_
  simp -implicitDefEqProofs only [↓steps, push_cast, simprocAttr, tte]
  generalize madeSt xs = start at hok ⊢
  generalize (madeH xs).evs = evs at hok ⊢
  have ok := ok_of hok
  refine callq [[1, 5]] [] (c_Edges start evs hok) ?_
  simp -implicitDefEqProofs only [↓steps, push_cast, simprocAttr, tte]
  have hC := c_Circle' start evs hok
  have hS := c_Serial' start evs hok
  have ha7 := anom7 start.length evs
  have hci : (circM start.length evs).isSome = !(circlesC (depG (edgesM start.length evs) [1, 2, 3])).isEmpty := head_some _
  have hfi : (errO (circM start.length evs) == 0) = (circM start.length evs).isSome := by cases circM start.length evs <;> rfl
  rw [← hci, ← hfi] at ha7
  have hlaw := law_facts ok
  have hel := edges_ln ok
  have hft := edges_ft (n := start.length) ok.tx
  refine callq [[1, 5]] [] (hC) ?_
  simp -implicitDefEqProofs only [↓steps, push_cast, simprocAttr, tte]
  refine callq [[1, 5]] [] (hS) ?_
  simp -implicitDefEqProofs only [↓steps, push_cast, simprocAttr, tte]
  refine callq [[1, 5]] [] (c_Anomalies start evs hok) ?_
  simp -implicitDefEqProofs only [↓steps, push_cast, simprocAttr, tte]
  have hal := anomM_ln start.length evs
  generalize anomM start.length evs = AN at ha7 hal ⊢
  generalize edgesM start.length evs = E at hlaw hel hft ⊢
  clear hC hS hci hfi
  generalize lstO (circM start.length evs) = c at hlaw ⊢
  generalize lstO (serM start.length evs) = o at hlaw ⊢
  generalize errO (circM start.length evs) = f0 at hlaw ha7 ⊢
  generalize errO (serM start.length evs) = g0 at hlaw ⊢
  obtain ⟨hnd, ho5, hol, hc5, hplace, hcirc, hfg⟩ := hlaw
  have hin := c_in AN 7 (by omega)
  rw [ha7] at hin
  simp -implicitDefEqProofs only [hfg, ↓steps, push_cast, simprocAttr, tte]
  refine callq [[1], []] [] (hin) ?_
  simp -implicitDefEqProofs only [↓steps, push_cast, simprocAttr, tte]
  have hto := toI_len o
  have htc := toI_len c
  have hd : (default : Int) = 0 := rfl
  refine loop_gen mixed ttok (fun k : Nat => (⟨[(70, .d (.lit (.int .i64 k))), (69, .d (.lit (.int .i64 (toI o).length))), (68, ints (toI o)), (13, .vec 500 5), (10, num g0), (7, ints (toI c)), (5, .d (.sl 4 (rowsOf rEg E)))], [(500, vecI (plc o k))]⟩ : SL)) (fun k => o.length - k) (fun k => k ≤ o.length) 0 (Nat.zero_le _) ?_ ?_
  · refine (Weak.ren 67 500 (by omega) (by omega) rfl).trans ?_
    exact Weak.keepL (by simp [renT, renO, ren1to, ends]) (by simp [plc, rowsOf, rI, renT, renO, ren1to, ends]) (by simp [renT, renO, ren1to, ends])
  intro I hI k hk
  have hpl := plc_len o k
  simp -implicitDefEqProofs only [rI, hd, toI_getD, Int.toNat_natCast, ↓steps, push_cast, simprocAttr, tte]
  refine bcase_intro (fun h => ?_) fun h => ?_
  · simp only [decide_eq_true_eq] at h
    have hk' : k < o.length := by omega
    have hw := wrap_succ (N := o.length) hk' (by omega)
    have h5 := ho5 (o.getD k 0) (by rw [List.getD_eq_getElem?_getD, List.getElem?_eq_getElem hk']; exact List.getElem_mem hk')
    have hps : plc o (k + 1) = (plc o k).set (o.getD k 0) k := rfl
    generalize o.getD k 0 = t at h5 hps ⊢
    have hset := st_set' (l := plc o k) (i := t) (by omega) (k : Int)
    refine ⟨⟨by omega, by omega⟩, bcase_intro (fun q => absurd (of_decide_eq_true q) (by omega)) fun _ => ⟨by omega, bcase_intro (fun q => absurd (of_decide_eq_true q) (by omega)) fun _ => ⟨⟨⟨by omega, by omega⟩, by omega⟩, ⟨by omega, by omega, by omega⟩, ?_⟩⟩⟩
    exact gen_again hI (k + 1) hk' (by show o.length - (k + 1) < o.length - k; omega) (Weak.keepL (by simp [hw, ends]) (by simp [hps, hset, ends]) (by simp [ends]))
  simp only [decide_eq_false_iff_not] at h
  obtain rfl : k = o.length := by omega
  clear hI I
  generalize hPL : plc o o.length = PL at hpl hplace ⊢
  refine loop_gen mixed ttok (fun k : Nat => (⟨[(90, .d (.lit (.int .i64 k))), (89, .d (.lit (.int .i64 E.length))), (88, .d (.sl 4 (rowsOf rEg E))), (13, .vec 500 5), (10, num g0), (7, ints (toI c)), (5, .d (.sl 4 (rowsOf rEg E)))], [(500, vecI PL)]⟩ : SL)) (fun k => E.length - k) (fun k => k ≤ E.length) 0 (Nat.zero_le _) ?_ ?_
  · exact Weak.keepL (by simp [ends]) (by simp [ends]) (by simp [ends])
  intro I hI k hk2
  simp -implicitDefEqProofs only [rI, hd, ↓steps, push_cast, simprocAttr, tte]
  refine bcase_intro (fun h => ?_) fun h => ?_
  · simp only [decide_eq_true_eq] at h
    have hk' : k < E.length := by omega
    have hw := wrap_succ hk' (by omega)
    have hfe := hft _ (getD_mem hk')
    have hpe := fun z => hplace z _ (getD_mem hk')
    generalize E.getD k default = e at hfe hpe ⊢
    refine ⟨⟨by omega, by omega⟩, bcase_intro (fun q => absurd (of_decide_eq_true q) (by omega)) fun _ => ⟨by omega, bcase_intro (fun q => absurd (of_decide_eq_true q) (by omega)) fun _ => bcase_intro (fun q => absurd (of_decide_eq_true q) (by omega)) fun _ => ⟨by omega, bcase_intro (fun q => absurd (of_decide_eq_true q) (by omega)) fun _ => bcase_intro (fun z => ?_) fun z => ?_⟩⟩⟩
    · have hlt := hpe (by simpa using z)
      refine ⟨⟨⟨by omega, by omega⟩, by omega⟩, by omega, by omega, ⟨⟨by omega, by omega⟩, by omega⟩, by omega, by omega, drawx_intro (by kernel_rfl), bcase_intro (fun q => absurd (of_decide_eq_true q) (by omega)) fun _ => ?_⟩
      exact gen_again hI (k + 1) hk' (by show E.length - (k + 1) < E.length - k; omega) (Weak.keepL (by simp [hw, ends]) (by simp [ends]) (by simp [ends]))
    · refine ⟨drawx_intro (by kernel_rfl), ?_⟩
      exact gen_again hI (k + 1) hk' (by show E.length - (k + 1) < E.length - k; omega) (Weak.keepL (by simp [hw, ends]) (by simp [ends]) (by simp [ends]))
  simp only [decide_eq_false_iff_not] at h
  obtain rfl : k = E.length := by omega
  clear hI I
  refine loop_gen mixed ttok (fun k : Nat => (⟨[(136, .d (.lit (.int .i64 k))), (135, .d (.lit (.int .i64 (toI c).length))), (134, ints (toI c)), (7, ints (toI c)), (5, .d (.sl 4 (rowsOf rEg E)))], []⟩ : SL)) (fun k => c.length - k) (fun k => k ≤ c.length) 0 (Nat.zero_le _) ?_ ?_
  · exact Weak.keepL (by simp [ends]) (by simp [ends]) (by simp [ends])
  intro I hI k hk3
  simp -implicitDefEqProofs only [rI, hd, toI_getD, Int.toNat_natCast, ↓steps, push_cast, simprocAttr, tte]
  refine bcase_intro (fun h => ?_) fun h => ?_
  · simp only [decide_eq_true_eq] at h
    have hk' : k < c.length := by omega
    have hw := wrap_succ hk' (by omega)
    have hwk1 : IntKind.i64.wrap ((k : Int) + 1) = (k : Int) + 1 := wrap_eq (by omega) (by omega)
    refine ⟨⟨by omega, by omega⟩, ?_⟩
    have hcr := hcirc k hk'
    have hmod : ((k : Int) + 1).tmod (((toI c).length : Nat) : Int) = ((k : Int) + 1) % (c.length : Int) := by rw [htc]; rfl
    have htn : (((k : Int) + 1) % (c.length : Int)).toNat = (k + 1) % c.length := by
      have : ((k : Int) + 1) % (c.length : Int) = (((k + 1) % c.length : Nat) : Int) := rfl
      rw [this, Int.toNat_natCast]
    have hge : (0 : Int) ≤ ((k : Int) + 1) % (c.length : Int) := Int.emod_nonneg _ (by omega)
    have hltm : ((k : Int) + 1) % (c.length : Int) < (c.length : Int) := Int.emod_lt_of_pos _ (by omega)
    generalize c.getD k 0 = x at hcr ⊢
    obtain ⟨y, hy⟩ : ∃ y, y = c.getD ((k + 1) % c.length) 0 := ⟨_, rfl⟩
    rw [← hy] at hcr
    have e0 : hasE E x y 0 = false := rfl
    refine loop_gen mixed ttok (fun m : Nat => (⟨[(143, .d (.lit (.int .i64 m))), (142, .d (.lit (.int .i64 E.length))), (141, .d (.sl 4 (rowsOf rEg E))), (20, boo (hasE E x y m)), (19, num x), (18, num k), (136, .d (.lit (.int .i64 k))), (135, .d (.lit (.int .i64 (toI c).length))), (134, ints (toI c)), (7, ints (toI c)), (5, .d (.sl 4 (rowsOf rEg E)))], []⟩ : SL)) (fun m => E.length - m) (fun m => m ≤ E.length) 0 (Nat.zero_le _) ?_ ?_
    · exact Weak.keepL (by simp [e0, ends]) (by simp [ends]) (by simp [ends])
    intro J hJ m hm2
    simp -implicitDefEqProofs only [rI, hd, hwk1, hmod, htn, toI_getD, ← hy, Int.toNat_natCast, ↓steps, push_cast, simprocAttr, tte]
    refine bcase_intro (fun g => ?_) fun g => ?_
    · simp only [decide_eq_true_eq] at g
      have hm' : m < E.length := by omega
      have hwm := wrap_succ hm' (by omega)
      have hsucc : hasE E x y (m + 1) = (hasE E x y m || (((E.getD m default).frm == (x : Int)) && ((E.getD m default).to == (y : Int)))) := by
        unfold hasE
        rw [take_snoc _ _ hm', List.any_append]; simp
      generalize E.getD m default = e at hsucc ⊢
      generalize hasE E x y m = B at hsucc ⊢
      refine ⟨⟨by omega, by omega⟩, bcase_intro (fun b => ?_) fun b => ?_⟩
      · rw [b, Bool.true_or] at hsucc
        refine ⟨drawx_intro (by kernel_rfl), ?_⟩
        exact gen_again hJ (m + 1) hm' (by show E.length - (m + 1) < E.length - m; omega) (Weak.keepL (by simp [hwm, hsucc, ends]) (by simp [ends]) (by simp [ends]))
      · rw [b, Bool.false_or] at hsucc
        refine bcase_intro (fun z => ?_) fun z => ?_
        · rw [z, Bool.true_and] at hsucc
          refine ⟨by omega, ⟨hge, by rw [htc]; exact hltm⟩, drawx_intro (by kernel_rfl), ?_⟩
          exact gen_again hJ (m + 1) hm' (by show E.length - (m + 1) < E.length - m; omega) (Weak.keepL (by simp [hwm, hsucc, ends]) (by simp [ends]) (by simp [ends]))
        · rw [z, Bool.false_and] at hsucc
          refine ⟨drawx_intro (by kernel_rfl), ?_⟩
          exact gen_again hJ (m + 1) hm' (by show E.length - (m + 1) < E.length - m; omega) (Weak.keepL (by simp [hwm, hsucc, ends]) (by simp [ends]) (by simp [ends]))
    · simp only [decide_eq_false_iff_not] at g
      obtain rfl : m = E.length := by omega
      have hall : hasE E x y E.length = true := by
        obtain ⟨e, he, h1, h2⟩ := hcr
        unfold hasE
        rw [List.take_length, List.any_eq_true]
        exact ⟨e, he, by rw [h1, h2]; simp⟩
      rw [hall]
      refine bcase_intro (fun q => absurd q (by decide)) fun _ => ?_
      exact gen_again hI (k + 1) hk' (by show c.length - (k + 1) < c.length - k; omega) (Weak.keepL (by simp [hw, ends]) (by simp [ends]) (by simp [ends]))
  simp only [decide_eq_false_iff_not] at h
  refine callq [] [] (c_awake) ?_
  simp -implicitDefEqProofs only [↓steps, push_cast, simprocAttr, tte]
  exact ret_d trivial rfl (by simp [ends])
end Go.Proofs.Ythknpcpddlaapaa
