/- Histories and their anomalies (part Wc) -/
import Derived.Test.YthknpcpddlaapaaWb
set_option linter.all false
namespace Go.Proofs.Ythknpcpddlaapaa
open Go.Am
attribute [local simp, local push_cast] num boo str ints rEv aEv rTk aTk rEg aEg aH vEv vecI aDone boos_ren d5_take d5_drop d5_len vTk rTk_snoc vecE rEg_snoc
set_option linter.unusedVariables false
set_option maxRecDepth 100000
set_option maxHeartbeats 4000000
/-! Graphs of five. -/
abbrev Gr := Nat → Nat → Bool
def gl (p a : Gr) : List Bool := (List.range 50).map fun j => if j < 25 then p (j / 5) (j % 5) else a ((j - 25) / 5) ((j - 25) % 5)
theorem gl_len (p a : Gr) : (gl p a).length = 50 := by simp [gl]
theorem gl_at (p a : Gr) {j : Nat} (h : j < 50) : (gl p a).getD j false = if j < 25 then p (j / 5) (j % 5) else a ((j - 25) / 5) ((j - 25) % 5) := by
  unfold gl
  rw [List.getD_eq_getElem?_getD, List.getElem?_map, List.getElem?_range h]; rfl
theorem gl_plain (p a : Gr) {x y : Nat} (hx : x < 5) (hy : y < 5) : (gl p a).getD (x * 5 + y) false = p x y := by
  rw [gl_at p a (by omega), if_pos (by omega), show (x * 5 + y) / 5 = x by omega, show (x * 5 + y) % 5 = y by omega]
theorem gl_anti (p a : Gr) {x y : Nat} (hx : x < 5) (hy : y < 5) : (gl p a).getD (25 + x * 5 + y) false = a x y := by
  rw [gl_at p a (by omega), if_neg (by omega), show (25 + x * 5 + y - 25) / 5 = x by omega, show (25 + x * 5 + y - 25) % 5 = y by omega]
def orG (p : Gr) (x y : Nat) : Gr := fun i j => p i j || (i == x && j == y)
theorem gl_set (p a : Gr) {x y : Nat} (hx : x < 5) (hy : y < 5) : (gl p a).set (x * 5 + y) true = gl (orG p x y) a := by
  apply List.ext_getElem?
  intro j
  rw [List.getElem?_set, gl_len]
  unfold gl
  rw [List.getElem?_map, List.getElem?_map]
  rcases Nat.lt_or_ge j 50 with hj | hj
  · rw [List.getElem?_range hj]
    by_cases e : x * 5 + y = j
    · rw [if_pos e, if_pos (by omega)]
      simp only [Option.map_some]
      rw [if_pos (by omega)]
      unfold orG
      rw [show j / 5 = x by omega, show j % 5 = y by omega]
      simp
    · rw [if_neg e]
      simp only [Option.map_some]
      split
      · unfold orG
        have : (j / 5 == x && j % 5 == y) = false := by
          rw [Bool.and_eq_false_iff, beq_eq_false_iff_ne, beq_eq_false_iff_ne]; omega
        rw [this, Bool.or_false]
      · rfl
  · rw [List.getElem?_eq_none (by simpa using hj)]
    rw [if_neg (by omega)]; rfl
theorem gl_set2 (p a : Gr) {x y : Nat} (hx : x < 5) (hy : y < 5) : (gl p a).set (25 + x * 5 + y) true = gl p (orG a x y) := by
  apply List.ext_getElem?
  intro j
  rw [List.getElem?_set, gl_len]
  unfold gl
  rw [List.getElem?_map, List.getElem?_map]
  rcases Nat.lt_or_ge j 50 with hj | hj
  · rw [List.getElem?_range hj]
    by_cases e : 25 + x * 5 + y = j
    · rw [if_pos e, if_pos (by omega)]
      simp only [Option.map_some]
      rw [if_neg (by omega)]
      unfold orG
      rw [show (j - 25) / 5 = x by omega, show (j - 25) % 5 = y by omega]
      simp
    · rw [if_neg e]
      simp only [Option.map_some]
      split
      · rfl
      · unfold orG
        have : ((j - 25) / 5 == x && (j - 25) % 5 == y) = false := by
          rw [Bool.and_eq_false_iff, beq_eq_false_iff_ne, beq_eq_false_iff_ne]; omega
        rw [this, Bool.or_false]
  · rw [List.getElem?_eq_none (by simpa using hj)]
    rw [if_neg (by omega)]; rfl
def gC (p a : Gr) : List A := boos (gl p a)
def aG (p a : Gr) : A := .agg (gC p a)
theorem gC_len (p a : Gr) : (gC p a).length = 50 := by unfold gC; rw [boos_length, gl_len]
theorem gC_take (p a : Gr) : List.take 50 (gC p a) = gC p a := List.take_of_length_le (by rw [gC_len]; omega)
theorem gC_drop (p a : Gr) : List.drop 50 (gC p a) = [] := List.drop_of_length_le (by rw [gC_len]; omega)
theorem gC_plain (p a : Gr) {x y : Nat} (hx : x < 5) (hy : y < 5) : (gC p a)[x * 5 + y]? = some (.d (.lit (.bool (p x y)))) := by
  unfold gC; rw [boos_at (by rw [gl_len]; omega), gl_plain p a hx hy]
theorem gC_anti (p a : Gr) {x y : Nat} (hx : x < 5) (hy : y < 5) : (gC p a)[25 + x * 5 + y]? = some (.d (.lit (.bool (a x y)))) := by
  unfold gC; rw [boos_at (by rw [gl_len]; omega), gl_anti p a hx hy]
theorem gC_put {p a q b : Gr} {k : Nat} (h : k < 50) (hs : (gl p a).set k true = gl q b) : List.take k (gC p a) ++ [A.d (.lit (.bool true))] ++ List.drop (k + 1) (gC p a) = gC q b := by
  have := boos_put (l := gl p a) (i := k) (by rw [gl_len]; exact h) true
  rw [Nat.mul_one, hs] at this
  exact this
def noG : Gr := fun _ _ => false
theorem gC_no : gC noG noG = [.d (.lit (.bool false)), .d (.lit (.bool false)), .d (.lit (.bool false)), .d (.lit (.bool false)), .d (.lit (.bool false)), .d (.lit (.bool false)), .d (.lit (.bool false)), .d (.lit (.bool false)), .d (.lit (.bool false)), .d (.lit (.bool false)), .d (.lit (.bool false)), .d (.lit (.bool false)), .d (.lit (.bool false)), .d (.lit (.bool false)), .d (.lit (.bool false)), .d (.lit (.bool false)), .d (.lit (.bool false)), .d (.lit (.bool false)), .d (.lit (.bool false)), .d (.lit (.bool false)), .d (.lit (.bool false)), .d (.lit (.bool false)), .d (.lit (.bool false)), .d (.lit (.bool false)), .d (.lit (.bool false)), .d (.lit (.bool false)), .d (.lit (.bool false)), .d (.lit (.bool false)), .d (.lit (.bool false)), .d (.lit (.bool false)), .d (.lit (.bool false)), .d (.lit (.bool false)), .d (.lit (.bool false)), .d (.lit (.bool false)), .d (.lit (.bool false)), .d (.lit (.bool false)), .d (.lit (.bool false)), .d (.lit (.bool false)), .d (.lit (.bool false)), .d (.lit (.bool false)), .d (.lit (.bool false)), .d (.lit (.bool false)), .d (.lit (.bool false)), .d (.lit (.bool false)), .d (.lit (.bool false)), .d (.lit (.bool false)), .d (.lit (.bool false)), .d (.lit (.bool false)), .d (.lit (.bool false)), .d (.lit (.bool false))] := rfl
theorem gC_closed (dom : Nat → Bool) (p a : Gr) : closedL dom (gC p a) = true := boos_closed _ _
theorem gC_ren (r : Nat → Nat) (p a : Gr) : renL r (gC p a) = gC p a := boos_ren _ _
attribute [local simp, local push_cast] aG gC_len gC_take gC_drop gC_closed gC_ren
theorem frz_gC (h : Nat → Option Ob) (p a : Gr) (ws : List Nat) : frzSL h ws (gC p a) = some ⟨gC p a, [], [], True⟩ := frz_boos h _ ws
theorem c_depends (p a : Gr) {x y : Nat} (hx : x < 5) (hy : y < 5) : ACall Try.prog 66 [aG p a, num x, num y] [] (boo (p x y || a x y)) [] := by
  refine enterq mixed ttok Try.func66 Try.ntmps66 Try.results66 ?_
  generalize hr : boo (p x y || a x y) = R
  have h1 : (gC p a)[x * 5 + y * 1]? = some (.d (.lit (.bool (p x y)))) := by rw [Nat.mul_one]; exact gC_plain p a hx hy
  have h2 : (gC p a)[25 + x * 5 + y * 1]? = some (.d (.lit (.bool (a x y)))) := by rw [Nat.mul_one]; exact gC_anti p a hx hy
  simp -implicitDefEqProofs only [argT, h1, h2, ↓steps, push_cast, simprocAttr, tte]
  refine ⟨⟨by omega, by omega⟩, ⟨by omega, by omega⟩, bcase_intro (fun b => ?_) fun b => ⟨⟨by omega, by omega⟩, ⟨by omega, by omega⟩, ?_⟩⟩
  · exact ret_d trivial (by rw [← hr, b]; rfl) (by simp [ends])
  · exact ret_d trivial (by rw [← hr, b]; rfl) (by simp [ends])
def FrTo (l : List Eg) : Prop := ∀ e ∈ l, (0 ≤ e.frm ∧ e.frm < 5) ∧ (0 ≤ e.to ∧ e.to < 5)
theorem plain_snoc (l : List Eg) (e : Eg) (ks : List Int) : plainG (l ++ [e]) ks = fun i j => plainG l ks i j || ((ks.contains e.kind && (e.kind != 3)) && ((e.frm == i) && (e.to == j))) := by
  funext i j; unfold plainG; rw [List.any_append]; simp
theorem anti_snoc (l : List Eg) (e : Eg) (ks : List Int) : antiG (l ++ [e]) ks = fun i j => antiG l ks i j || ((ks.contains e.kind && (e.kind == 3)) && ((e.frm == i) && (e.to == j))) := by
  funext i j; unfold antiG; rw [List.any_append]; simp
theorem or_at {e : Eg} (h : (0 ≤ e.frm ∧ e.frm < 5) ∧ (0 ≤ e.to ∧ e.to < 5)) (p : Gr) : (fun i j => p i j || ((e.frm == (i : Nat)) && (e.to == (j : Nat)))) = orG p e.frm.toNat e.to.toNat := by
  funext i j
  unfold orG
  congr 1
  rw [Bool.eq_iff_iff]
  simp only [Bool.and_eq_true, beq_iff_eq]
  omega
theorem c_of (l : List Eg) (ks : List Int) (hl : l.length ≤ 1000000) (hk : ks.length ≤ 1000) (hf : FrTo l) :
    ACall Try.prog 37 [.d (.sl 4 (rowsOf rEg l)), ints ks] [] (aG (plainG l ks) (antiG l ks)) [] := by
  refine enterq mixed ttok Try.func37 Try.ntmps37 Try.results37 ?_
  generalize hr : aG (plainG l ks) (antiG l ks) = R
  simp -implicitDefEqProofs only [argT, ↓steps, push_cast, simprocAttr, tte]
  refine loop_gen mixed ttok (fun n : Nat => (⟨[(10, .d (.lit (.int .i64 n))), (9, .d (.lit (.int .i64 l.length))), (8, .d (.sl 4 (rowsOf rEg l))), (5, .ptr 5 0), (4, .ptr 4 0), (1, ints ks)], [(5, .var (gC (plainG (l.take n) ks) (antiG (l.take n) ks))), (4, .var (gC noG noG))]⟩ : SL)) (fun n => l.length - n)
    (fun n => n ≤ l.length) 0 (Nat.zero_le _) ?_ ?_
  · have e1 : plainG [] ks = noG := rfl
    have e2 : antiG [] ks = noG := rfl
    simp only [List.take_zero, e1, e2, gC_no]
    exact Weak.keepL (by simp [ends]) (by simp [ends]) (by simp [ends])
  intro I hI n hn
  simp -implicitDefEqProofs only [↓steps, push_cast, simprocAttr, tte]
  refine bcase_intro (fun h => ?_) fun h => ?_
  · simp only [decide_eq_true_eq] at h
    have h' : n < l.length := by omega
    have hw := wrap_succ h' (by omega)
    have hfe := hf _ (getD_mem h')
    have hs1 := plain_snoc (l.take n) (l.getD n default) ks
    have hs2 := anti_snoc (l.take n) (l.getD n default) ks
    rw [← take_snoc _ _ h'] at hs1 hs2
    have ho := or_at hfe
    generalize l.getD n default = e at hfe hs1 hs2 ho ⊢
    refine ⟨⟨by omega, h⟩, ?_⟩
    refine callq [[1], []] [] (c_conN ks e.kind (by omega)) ?_
    simp -implicitDefEqProofs only [↓steps, push_cast, simprocAttr, tte]
    generalize hP : plainG (l.take n) ks = P at hs1 ⊢
    generalize hA : antiG (l.take n) ks = Q at hs2 ⊢
    refine bcase_intro (fun b => ?_) fun b => ?_
    · have b' : ks.contains e.kind = false := by simpa using b
      have e1 : plainG (l.take (n + 1)) ks = P := by rw [hs1, b']; funext i j; simp
      have e2 : antiG (l.take (n + 1)) ks = Q := by rw [hs2, b']; funext i j; simp
      exact gen_again hI (n + 1) h' (by show l.length - (n + 1) < l.length - n; omega) (Weak.keepL (by simp [hw, ends]) (by simp [e1, e2, ends]) (by simp [ends]))
    have b' : ks.contains e.kind = true := by simpa using b
    refine bcase_intro (fun c => ?_) fun c => ?_
    · have e1 : plainG (l.take (n + 1)) ks = P := by
        have : (e.kind != 3) = false := by simpa using c
        rw [hs1, this]; funext i j; simp
      have e2 : antiG (l.take (n + 1)) ks = orG Q e.frm.toNat e.to.toNat := by rw [hs2, b', c, ← ho]; funext i j; simp
      refine ⟨hfe.1, hfe.2, by omega, drawx_intro (by kernel_rfl), ?_⟩
      rw [gC_put (k := 25 + e.frm.toNat * 5 + e.to.toNat * 1) (by omega) (by rw [Nat.mul_one]; exact gl_set2 P Q (by omega) (by omega))]
      exact gen_again hI (n + 1) h' (by show l.length - (n + 1) < l.length - n; omega) (Weak.keepL (by simp [hw, ends]) (by simp [e1, e2, ends]) (by simp [ends]))
    · have e1 : plainG (l.take (n + 1)) ks = orG P e.frm.toNat e.to.toNat := by
        have : (e.kind != 3) = true := by simpa using c
        rw [hs1, b', this, ← ho]; funext i j; simp
      have e2 : antiG (l.take (n + 1)) ks = Q := by rw [hs2, c]; funext i j; simp
      refine ⟨hfe.1, hfe.2, by omega, drawx_intro (by kernel_rfl), ?_⟩
      rw [gC_put (k := e.frm.toNat * 5 + e.to.toNat * 1) (by omega) (by rw [Nat.mul_one]; exact gl_set P Q (by omega) (by omega))]
      exact gen_again hI (n + 1) h' (by show l.length - (n + 1) < l.length - n; omega) (Weak.keepL (by simp [hw, ends]) (by simp [e1, e2, ends]) (by simp [ends]))
  · simp only [decide_eq_false_iff_not] at h
    obtain rfl : n = l.length := by omega
    rw [List.take_length]
    refine ret_same trivial hr ?_ ?_ ?_
    · exact gC_closed _ _ _
    · simp [ends]
    · simp [ends]
end Go.Proofs.Ythknpcpddlaapaa
namespace Go.Proofs.Ythknpcpddlaapaa
open Go.Am
attribute [local simp, local push_cast] num boo str ints rEv aEv rTk aTk rEg aEg aH vEv vecI aDone boos_ren d5_take d5_drop d5_len vTk rTk_snoc vecE rEg_snoc aG gC_len gC_take gC_drop gC_closed gC_ren
set_option linter.unusedVariables false
set_option maxRecDepth 100000
set_option maxHeartbeats 4000000
/-! slices.Clone; circles handed out until one stops it. -/
theorem c_cloneI' (l : List Int) (R : A) (hr : ints l = R) (hl : l.length ≤ 1000000) : ACall Try.prog 69 [ints l] [] R [] := by
  refine enterq mixed ttok Try.func69 Try.ntmps69 Try.results69 ?_
  cases l with
  | nil =>
    simp -implicitDefEqProofs only [argT, rowsOf_nil, List.isEmpty_nil, if_true, ↓steps, push_cast, simprocAttr, tte]
    refine ⟨?_, ?_⟩
    · refine retx_of [1] rfl (by simp) (by simp [rowsOf_length] <;> omega) ?_ (by first | rfl | simp [ends] | (subst_vars; simp [ends])) (by simp [ends]) (by simp [ends])
      exact hr
    · refine retx_of [1] rfl (by simp) (by simp [rowsOf_length] <;> omega) ?_ (by first | rfl | simp [ends] | (subst_vars; simp [ends])) (by simp [ends]) (by simp [ends])
      exact hr
  | cons x l =>
    simp only [List.length_cons] at hl
    simp -implicitDefEqProofs only [argT, rowsOf_cons, List.isEmpty_cons, ↓steps, push_cast, simprocAttr, tte]
    refine ⟨by omega, ?_⟩
    refine retx_of [1] rfl (by simp) (by simp [rowsOf_length] <;> omega) ?_ (by first | rfl | simp [ends] | (subst_vars; simp [ends])) (by simp [ends]) (by simp [ends])
    exact hr
theorem c_cloneI (l : List Int) (hl : l.length ≤ 1000000) : ACall Try.prog 69 [ints l] [] (ints l) [] := c_cloneI' l _ rfl hl
theorem c_cloneO (l : List Int) (hl : l.length ≤ 1000000) (h0 : l ≠ []) : ACall Try.prog 69 [ints l] [] (.vec 1000 l.length) [(1000, vecI l)] := by
  refine enterq mixed ttok Try.func69 Try.ntmps69 Try.results69 ?_
  cases l with
  | nil => exact absurd rfl h0
  | cons x l =>
    simp only [List.length_cons] at hl
    simp -implicitDefEqProofs only [argT, rowsOf_cons, List.isEmpty_cons, ↓steps, push_cast, simprocAttr, tte]
    refine ⟨by omega, ?_⟩
    exact ret_vec 5 trivial (by omega) rfl rfl (by simp [ends])
def runC {S : Type} (step : List Nat → S → Bool × S) : List (List Nat) → S → Bool × S
  | [], s => (true, s)
  | c :: cs, s => if (step c s).1 = true then runC step cs (step c s).2 else (false, (step c s).2)
theorem runC_app {S : Type} (step : List Nat → S → Bool × S) : ∀ (a b : List (List Nat)) (s : S), runC step (a ++ b) s = if (runC step a s).1 = true then runC step b (runC step a s).2 else runC step a s
  | [], b, s => by simp [runC]
  | c :: a, b, s => by
    simp only [List.cons_append, runC]
    split
    · rw [runC_app step a b]
    · simp
def extF (dep : Gr) (len n : Nat) (l : List Nat) (t : Nat) : List (List Nat) := if l.getD 0 0 < t ∧ dep (l.getD (l.length - 1) 0) t = true ∧ t ∉ l then extC dep len n (l ++ [t]) else []
def extT (dep : Gr) (len n : Nat) (l : List Nat) (t : Nat) : List (List Nat) := (List.range t).flatMap (extF dep len n l)
theorem extT_succ (dep : Gr) (len n : Nat) (l : List Nat) (t : Nat) : extT dep len n l (t + 1) = extT dep len n l t ++ extF dep len n l t := by
  unfold extT; rw [List.range_succ, List.flatMap_append]; simp
theorem extT_first (dep : Gr) (len n : Nat) (l : List Nat) : extT dep len n l (l.getD 0 0 + 1) = [] := by
  unfold extT
  rw [List.flatMap_eq_nil_iff]
  intro t ht
  rw [List.mem_range] at ht
  unfold extF
  rw [if_neg (by omega)]
theorem extC_T (dep : Gr) (len n : Nat) (l : List Nat) : extC dep len (n + 1) l = extT dep len n l 5 := rfl
theorem extT_split (dep : Gr) (len n : Nat) (l : List Nat) {t : Nat} : ∀ d, t + d = 5 → ∃ r, extT dep len n l 5 = extT dep len n l t ++ r
  | 0, h => ⟨[], by rw [List.append_nil, ← h, Nat.add_zero]⟩
  | d + 1, h => by
    obtain ⟨r, hr⟩ := extT_split dep len n l (t := t + 1) d (by omega)
    exact ⟨extF dep len n l t ++ r, by rw [hr, extT_succ, List.append_assoc]⟩
def cirB (dep : Gr) (len f : Nat) : List (List Nat) := (List.range f).flatMap fun x => extC dep len (len - 1) [x]
theorem cirB_succ (dep : Gr) (len f : Nat) : cirB dep len (f + 1) = cirB dep len f ++ extC dep len (len - 1) [f] := by
  unfold cirB; rw [List.range_succ, List.flatMap_append]; simp
def cirA (dep : Gr) : Nat → List (List Nat)
  | 0 => []
  | j + 1 => cirA dep j ++ cirB dep (j + 2) 5
theorem cirA_all (dep : Gr) : cirA dep 4 = circlesC dep := by
  unfold circlesC cirA cirA cirA cirA cirA cirB
  simp
theorem cirA_split (dep : Gr) {j : Nat} : ∀ d, j + d = 4 → ∃ r, circlesC dep = cirA dep j ++ r
  | 0, h => ⟨[], by rw [List.append_nil, ← cirA_all, ← h, Nat.add_zero]⟩
  | d + 1, h => by
    obtain ⟨r, hr⟩ := cirA_split dep (j := j + 1) d (by omega)
    exact ⟨cirB dep (j + 2) 5 ++ r, by rw [hr, cirA, List.append_assoc]⟩
theorem cirB_split (dep : Gr) (len : Nat) {f : Nat} : ∀ d, f + d = 5 → ∃ r, cirB dep len 5 = cirB dep len f ++ r
  | 0, h => ⟨[], by rw [List.append_nil, ← h, Nat.add_zero]⟩
  | d + 1, h => by
    obtain ⟨r, hr⟩ := cirB_split dep len (f := f + 1) d (by omega)
    exact ⟨extC dep len (len - 1) [f] ++ r, by rw [hr, cirB_succ, List.append_assoc]⟩
def toI (l : List Nat) : List Int := l.map fun (x : Nat) => (x : Int)
theorem toI_len (l : List Nat) : (toI l).length = l.length := List.length_map ..
theorem toI_getD (l : List Nat) (i : Nat) : (toI l).getD i 0 = (l.getD i 0 : Nat) := by
  unfold toI
  rw [List.getD_eq_getElem?_getD, List.getD_eq_getElem?_getD, List.getElem?_map]
  cases l[i]? <;> rfl
theorem toI_app (l : List Nat) (t : Nat) : toI l ++ [(t : Int)] = toI (l ++ [t]) := by unfold toI; simp
theorem toI_mem (l : List Nat) (t : Nat) : (toI l).contains (t : Int) = decide (t ∈ l) := by
  rw [Bool.eq_iff_iff, List.contains_iff_mem, decide_eq_true_eq]
  unfold toI
  rw [List.mem_map]
  constructor
  · rintro ⟨x, hx, h⟩
    have : x = t := by omega
    rw [← this]; exact hx
  · exact fun h => ⟨t, h, rfl⟩
end Go.Proofs.Ythknpcpddlaapaa
namespace Go.Proofs.Ythknpcpddlaapaa
open Go.Am
attribute [local simp, local push_cast] num boo str ints rEv aEv rTk aTk rEg aEg aH vEv vecI aDone boos_ren d5_take d5_drop d5_len vTk rTk_snoc vecE rEg_snoc aG gC_len gC_take gC_drop gC_closed gC_ren
set_option linter.unusedVariables false
set_option maxRecDepth 100000
set_option maxHeartbeats 4000000
/-! The first circle. -/
def cellO : Option (List Nat) → A
  | none => .snil
  | some c => ints (toI c)
theorem cellO_closed (dom : Nat → Bool) (s : Option (List Nat)) : (cellO s).closed dom = true := by cases s <;> rfl
theorem cellO_ren (r : Nat → Nat) (s : Option (List Nat)) : (cellO s).ren r = cellO s := by cases s <;> rfl
attribute [local simp, local push_cast] cellO_closed cellO_ren
def step1 (c : List Nat) (_ : Option (List Nat)) : Bool × Option (List Nat) := (false, some c)
theorem c_circ1 (c : List Nat) (s : Option (List Nat)) (hl : c.length ≤ 1000000) (h5 : ∀ t ∈ c, t < 5) : ACall Try.prog 68 [ints (toI c), .ptr 1000 0] [(1000, .var [cellO s])] (boo (step1 c s).1) [(1000, .var [cellO (step1 c s).2])] := by
  refine enterq mixed ttok Try.func68 Try.ntmps68 Try.results68 ?_
  simp -implicitDefEqProofs only [argT, ↓steps, push_cast, simprocAttr, tte]
  refine callq [[1]] [] (c_cloneI (toI c) (by rw [toI_len]; exact hl)) ?_
  simp -implicitDefEqProofs only [↓steps, push_cast, simprocAttr, tte]
  exact ret_dO trivial rfl (by simp [cellO, step1, ends]) (by simp [ends])
theorem c_ext1 (p a : Gr) (len : Nat) (hlen : len ≤ 5) : ∀ (n : Nat) (l : List Nat) (s : Option (List Nat)), l ≠ [] → (∀ t ∈ l, t < 5) → l.length + n = len →
    ACall Try.prog 84 [aG p a, ints (toI l), num len, .clo 68 [.ptr 1000 0]] [(1000, .var [cellO s])] (boo (runC (step1) (extC (fun x y => p x y || a x y) len n l) s).1) [(1000, .var [cellO (runC (step1) (extC (fun x y => p x y || a x y) len n l) s).2])]
  | n, l, s, hl0, hl5, hln => by
    have hp := List.length_pos_iff.2 hl0
    have hw1 : IntKind.i64.wrap (((toI l).length : Int) - 1) = ((l.length - 1 : Nat) : Int) := by rw [toI_len, wrap_eq (by omega) (by omega)]; omega
    have hlast : l.getD (l.length - 1) 0 < 5 := hl5 _ (by rw [List.getD_eq_getElem?_getD, List.getElem?_eq_getElem (by omega)]; exact List.getElem_mem _)
    have hfst : l.getD 0 0 < 5 := hl5 _ (by rw [List.getD_eq_getElem?_getD, List.getElem?_eq_getElem (by omega)]; exact List.getElem_mem _)
    have hd : (default : Int) = 0 := rfl
    have hti := toI_len l
    cases n with
    | zero =>
      refine enterq mixed ttok Try.func84 Try.ntmps84 Try.results84 ?_
      generalize hr : boo (runC (step1) (extC (fun x y => p x y || a x y) len 0 l) s).1 = R
      simp -implicitDefEqProofs only [argT, rI, hw1, Int.toNat_natCast, hd, toI_getD, ↓steps, push_cast, simprocAttr, tte]
      refine ⟨⟨by omega, by omega⟩, bcase_intro (fun _ => ⟨by omega, ?_⟩) fun q => absurd q (by simp; omega)⟩
      have hc := c_depends p a hlast hfst
      refine callq [[], [], []] [] (hc) ?_ (hz := by simp only [frzAL, frzA, frz_gC, frz_boos, List.cons_append, List.nil_append, List.append_nil]; exact rfl) (hgs := by simp [rowsOf_length] <;> omega) (hargs := by simp [ends, bs]) (hcl := by simp [ends, bs])
      simp -implicitDefEqProofs only [↓steps, push_cast, simprocAttr, tte]
      generalize hb : (p (l.getD (l.length - 1) 0) (l.getD 0 0) || a (l.getD (l.length - 1) 0) (l.getD 0 0)) = b
      have hext : extC (fun x y => p x y || a x y) len 0 l = if b = true then [l] else [] := by rw [extC, hb]
      cases b with
      | true =>
        rw [if_pos rfl] at hext
        have hrun : runC (step1) (extC (fun x y => p x y || a x y) len 0 l) s = step1 l s := by
          rw [hext, runC]
          split
          · rename_i h; rw [runC]; exact Prod.ext h.symm rfl
          · rename_i h; rw [Bool.not_eq_true] at h; exact Prod.ext h.symm rfl
        rw [hrun] at hr ⊢
        simp -implicitDefEqProofs only [Bool.not_true, ↓steps, push_cast, simprocAttr, tte]
        refine callq [[1], []] [(1000, 1000)] (c_circ1 l s (by omega) hl5) ?_
        simp -implicitDefEqProofs only [↓steps, push_cast, simprocAttr, tte]
        refine ⟨drawx_intro (by kernel_rfl), ?_⟩
        exact ret_dO trivial (by rw [← hr]; rfl) (by simp [ends]) (by simp [ends])
      | false =>
        rw [if_neg (by decide)] at hext
        have hrun : runC (step1) (extC (fun x y => p x y || a x y) len 0 l) s = (true, s) := by rw [hext]; rfl
        rw [hrun] at hr ⊢
        simp -implicitDefEqProofs only [Bool.not_false, ↓steps, push_cast, simprocAttr, tte]
        refine ⟨drawx_intro (by kernel_rfl), ?_⟩
        exact ret_dO trivial (by rw [← hr]; rfl) (by simp [ends]) (by simp [ends])
    | succ n =>
      refine enterq mixed ttok Try.func84 Try.ntmps84 Try.results84 ?_
      generalize hr : boo (runC (step1) (extC (fun x y => p x y || a x y) len (n + 1) l) s).1 = R
      simp -implicitDefEqProofs only [argT, rI, hw1, Int.toNat_natCast, hd, toI_getD, ↓steps, push_cast, simprocAttr, tte]
      refine ⟨⟨by omega, by omega⟩, bcase_intro (fun q => absurd q (by simp; omega)) fun _ => ⟨by omega, ?_⟩⟩
      have hw2 : IntKind.i64.wrap ((l.getD 0 0 : Nat) + 1 : Int) = ((l.getD 0 0 + 1 : Nat) : Int) := by rw [wrap_eq (by omega) (by omega)]; omega
      generalize hdep : (fun x y => p x y || a x y) = dep at hr ⊢
      rw [extC_T] at hr ⊢
      refine loop_gen mixed ttok (fun t : Nat => (⟨[(10, .d (.lit (.int .i64 t))), (9, .d (.lit (.int .i64 (l.getD (l.length - 1) 0 : Nat)))), (4, .ptr 4 0), (3, .clo 68 [.ptr 1000 0]), (2, num len), (1, ints (toI l))], (4, .var (gC p a)) :: [(1000, .var [cellO (runC (step1) (extT dep len n l t) s).2])]⟩ : SL)) (fun t => 5 - t)
        (fun t => (l.getD 0 0 < t ∧ t ≤ 5) ∧ (runC (step1) (extT dep len n l t) s).1 = true) (l.getD 0 0 + 1) ⟨⟨by omega, by omega⟩, by rw [extT_first]; rfl⟩ ?_ ?_
      · have e1 : runC (step1) (extT dep len n l (l.getD 0 0 + 1)) s = (true, s) := by rw [extT_first]; rfl
        simp only [hw2, e1]
        exact Weak.keepL (by simp [ends]) (by simp [ends]) (by simp [ends])
      intro I hI t ⟨⟨ht0, ht5⟩, hrun⟩
      simp -implicitDefEqProofs only [↓steps, push_cast, simprocAttr, tte]
      refine bcase_intro (fun h => ?_) fun h => ?_
      · simp only [decide_eq_true_eq] at h
        have h' : t < 5 := by omega
        have hwt : IntKind.i64.wrap ((t : Int) + 1) = ((t + 1 : Nat) : Int) := by rw [wrap_eq (by omega) (by omega)]; rfl
        have hsucc : runC (step1) (extT dep len n l (t + 1)) s = runC (step1) (extF dep len n l t) (runC (step1) (extT dep len n l t) s).2 := by
          rw [extT_succ, runC_app, if_pos hrun]
        have hc := c_depends p a hlast h'
        refine callq [[], [], []] [] (hc) ?_ (hz := by simp only [frzAL, frzA, frz_gC, frz_boos, List.cons_append, List.nil_append, List.append_nil]; exact rfl) (hgs := by simp [rowsOf_length] <;> omega) (hargs := by simp [ends, bs]) (hcl := by simp [ends, bs])
        simp -implicitDefEqProofs only [↓steps, push_cast, simprocAttr, tte]
        have hb : (p (l.getD (l.length - 1) 0) t || a (l.getD (l.length - 1) 0) t) = dep (l.getD (l.length - 1) 0) t := by rw [← hdep]
        rw [hb]
        have hskip : ¬ (dep (l.getD (l.length - 1) 0) t = true ∧ t ∉ l) → runC (step1) (extT dep len n l (t + 1)) s = runC (step1) (extT dep len n l t) s := fun h => by
          have : extF dep len n l t = [] := by unfold extF; rw [if_neg (fun q => h q.2)]
          rw [hsucc, this]
          exact Prod.ext hrun.symm rfl
        refine bcase_intro (fun b1 => ?_) fun b1 => ?_
        · refine callq [[1], []] [] (c_conN (toI l) (t : Int) (by omega)) ?_
          simp -implicitDefEqProofs only [toI_mem, ↓steps, push_cast, simprocAttr, tte]
          by_cases hm : t ∈ l
          · have e1 := hskip (fun q => q.2 hm)
            simp -implicitDefEqProofs only [decide_eq_true hm, Bool.not_true, ↓steps, push_cast, simprocAttr, tte]
            refine ⟨drawx_intro (by kernel_rfl), ?_⟩
            exact gen_again hI (t + 1) ⟨⟨by omega, by omega⟩, by rw [e1]; exact hrun⟩ (by show 5 - (t + 1) < 5 - t; omega) (Weak.keepL (by simp [hwt, ends]) (by simp [e1, ends]) (by simp [ends]))
          · simp -implicitDefEqProofs only [decide_eq_false hm, Bool.not_false, ↓steps, push_cast, simprocAttr, tte]
            have hcl := c_cloneO (toI l) (by omega) (by intro e; rw [e] at hti; simp at hti; omega)
            refine callq [[1]] [(1000, 54)] (hcl) ?_
            simp -implicitDefEqProofs only [toI_app, ↓steps, push_cast, simprocAttr, tte]
            have hla : (toI l).length + 1 = (toI (l ++ [t])).length := by rw [toI_len, toI_len]; simp
            rw [hla]
            refine ⟨by rw [toI_len]; simp; omega, ?_⟩
            have hrec := c_ext1 p a len hlen n (l ++ [t]) (runC (step1) (extT dep len n l t) s).2 (by simp) (fun x hx => by
              rcases List.mem_append.1 hx with hx | hx
              · exact hl5 x hx
              · rw [List.mem_singleton] at hx; omega) (by simp; omega)
            rw [hdep] at hrec
            have hF : extF dep len n l t = extC dep len n (l ++ [t]) := by unfold extF; rw [if_pos ⟨ht0, b1, hm⟩]
            rw [← hF, ← hsucc] at hrec
            refine callq [[], [1], [], [], []] [(1000, 1000)] (hrec) ?_ (hz := by simp only [frzAL, frzA, frz_gC, frz_boos, List.cons_append, List.nil_append, List.append_nil]; exact rfl) (hgs := by simp [rowsOf_length] <;> omega) (hargs := by simp [ends, bs]) (hcl := by simp [ends, bs])
            simp -implicitDefEqProofs only [↓steps, push_cast, simprocAttr, tte]
            generalize hE : runC (step1) (extT dep len n l (t + 1)) s = E at hrec ⊢
            refine ⟨drawx_intro (by kernel_rfl), ?_⟩
            refine bcase_intro (fun q => ?_) fun q => ?_
            · have q' : E.1 = false := by simpa using q
              obtain ⟨r, hsp⟩ := extT_split dep len n l (t := t + 1) (4 - t) (by omega)
              have htot : runC (step1) (extT dep len n l 5) s = E := by rw [hsp, runC_app, hE, if_neg (by rw [q']; decide)]
              rw [htot] at hr ⊢
              exact ret_dO trivial (by rw [← hr, q']; rfl) (by simp [ends]) (by simp [ends])
            · have q' : E.1 = true := by simpa using q
              exact gen_again hI (t + 1) ⟨⟨by omega, by omega⟩, by rw [hE]; exact q'⟩ (by show 5 - (t + 1) < 5 - t; omega) (Weak.keepL (by simp [hwt, ends]) (by simp [hE, ends]) (by simp [ends]))
        · have e1 := hskip (fun q => by rw [q.1] at b1; cases b1)
          refine ⟨drawx_intro (by kernel_rfl), ?_⟩
          exact gen_again hI (t + 1) ⟨⟨by omega, by omega⟩, by rw [e1]; exact hrun⟩ (by show 5 - (t + 1) < 5 - t; omega) (Weak.keepL (by simp [hwt, ends]) (by simp [e1, ends]) (by simp [ends]))
      · simp only [decide_eq_false_iff_not] at h
        obtain rfl : t = 5 := by omega
        rw [hrun] at hr
        exact ret_dO trivial (by rw [← hr]; rfl) (by simp [ends]) (by simp [ends])
theorem c_circles1 (p a : Gr) (s : Option (List Nat)) :
    ACall Try.prog 67 [aG p a, .clo 68 [.ptr 1000 0]] [(1000, .var [cellO s])] (.tup []) [(1000, .var [cellO (runC (step1) (circlesC (fun x y => p x y || a x y)) s).2])] := by
  refine enterq mixed ttok Try.func67 Try.ntmps67 Try.results67 ?_
  generalize hdep : (fun x y => p x y || a x y) = dep
  simp -implicitDefEqProofs only [argT, ↓steps, push_cast, simprocAttr, tte]
  refine loop_gen mixed ttok (fun j : Nat => (⟨[(4, .d (.lit (.int .i64 ((j : Int) + 2)))), (2, .ptr 2 0), (1, .clo 68 [.ptr 1000 0])], (2, .var (gC p a)) :: [(1000, .var [cellO (runC (step1) (cirA dep j) s).2])]⟩ : SL)) (fun j => 4 - j)
    (fun j => j ≤ 4 ∧ (runC (step1) (cirA dep j) s).1 = true) 0 ⟨Nat.zero_le _, rfl⟩ ?_ ?_
  · have e1 : runC (step1) (cirA dep 0) s = (true, s) := rfl
    simp only [e1]
    exact Weak.keepL (by simp [ends]) (by simp [ends]) (by simp [ends])
  intro I hI j ⟨hj, hrj⟩
  have hwj : IntKind.i64.wrap ((j : Int) + 2 + 1) = ((j + 1 : Nat) : Int) + 2 := by rw [wrap_eq (by omega) (by omega)]; omega
  simp -implicitDefEqProofs only [↓steps, push_cast, simprocAttr, tte]
  refine bcase_intro (fun h => ?_) fun h => ?_
  · simp only [decide_eq_true_eq] at h
    have hj3 : j + 1 ≤ 4 := by omega
    refine loop_gen mixed ttok (fun f : Nat => (⟨[(10, .d (.lit (.int .i64 f))), (4, .d (.lit (.int .i64 ((j : Int) + 2)))), (2, .ptr 2 0), (1, .clo 68 [.ptr 1000 0])], (2, .var (gC p a)) :: [(1000, .var [cellO (runC (step1) (cirA dep j ++ cirB dep (j + 2) f) s).2])]⟩ : SL)) (fun f => 5 - f)
      (fun f => f ≤ 5 ∧ (runC (step1) (cirA dep j ++ cirB dep (j + 2) f) s).1 = true) 0 ⟨Nat.zero_le _, ?_⟩ ?_ ?_
    · have : cirA dep j ++ cirB dep (j + 2) 0 = cirA dep j := List.append_nil _
      rw [this]; exact hrj
    · have : cirA dep j ++ cirB dep (j + 2) 0 = cirA dep j := List.append_nil _
      simp only [this]
      exact Weak.keepL (by simp [ends]) (by simp [ends]) (by simp [ends])
    intro J hJ f ⟨hf, hrf⟩
    have hwf : IntKind.i64.wrap ((f : Int) + 1) = ((f + 1 : Nat) : Int) := by rw [wrap_eq (by omega) (by omega)]; rfl
    have hsucc : runC (step1) (cirA dep j ++ cirB dep (j + 2) (f + 1)) s = runC (step1) (extC dep (j + 2) (j + 1) [f]) (runC (step1) (cirA dep j ++ cirB dep (j + 2) f) s).2 := by
      rw [cirB_succ, ← List.append_assoc, runC_app, if_pos hrf]; rfl
    simp -implicitDefEqProofs only [↓steps, push_cast, simprocAttr, tte]
    refine bcase_intro (fun g => ?_) fun g => ?_
    · simp only [decide_eq_true_eq] at g
      have hrec := c_ext1 p a (j + 2) (by omega) (j + 1) [f] (runC (step1) (cirA dep j ++ cirB dep (j + 2) f) s).2 (by simp) (fun x hx => by rw [List.mem_singleton] at hx; omega) (by simp; omega)
      have h1f : rowsOf rI (toI [f]) = [[D.lit (.int .i64 (f : Int))]] := rfl
      rw [hdep, ← hsucc, ints, h1f] at hrec
      refine callq [[], [1], [], [], []] [(1000, 1000)] (hrec) ?_ (hz := by simp only [frzAL, frzA, frz_gC, frz_boos, List.cons_append, List.nil_append, List.append_nil]; exact rfl) (hgs := by simp [rowsOf_length] <;> omega) (hargs := by simp [ends, bs]) (hcl := by simp [ends, bs])
      simp -implicitDefEqProofs only [↓steps, push_cast, simprocAttr, tte]
      generalize hE : runC (step1) (cirA dep j ++ cirB dep (j + 2) (f + 1)) s = E at hrec hsucc ⊢
      refine bcase_intro (fun q => ?_) fun q => ?_
      · have q' : E.1 = false := by simpa using q
        obtain ⟨r1, hs1⟩ := cirB_split dep (j + 2) (f := f + 1) (4 - f) (by omega)
        obtain ⟨r2, hs2⟩ := cirA_split dep (j := j + 1) (3 - j) (by omega)
        have htot : runC (step1) (circlesC dep) s = E := by
          rw [hs2, cirA, hs1, List.append_assoc, List.append_assoc, ← List.append_assoc (cirA dep j), runC_app, hE, if_neg (by rw [q']; decide)]
        rw [htot]
        exact ret_same trivial rfl rfl (by simp [ends]) (by simp [ends])
      · have q' : E.1 = true := by simpa using q
        exact gen_again hJ (f + 1) ⟨by omega, by rw [hE]; exact q'⟩ (by show 5 - (f + 1) < 5 - f; omega) (Weak.keepL (by simp [hwf, ends]) (by simp [hE, ends]) (by simp [ends]))
    · simp only [decide_eq_false_iff_not] at g
      obtain rfl : f = 5 := by omega
      have hA : cirA dep j ++ cirB dep (j + 2) 5 = cirA dep (j + 1) := rfl
      rw [hA] at hrf
      exact gen_again hI (j + 1) ⟨hj3, hrf⟩ (by show 4 - (j + 1) < 4 - j; omega) (Weak.keepL (by simp [hwj, ends]) (by simp [hA, ends]) (by simp [ends]))
  · simp only [decide_eq_false_iff_not] at h
    obtain rfl : j = 4 := by omega
    rw [cirA_all]
    exact ret_same trivial rfl rfl (by simp [ends]) (by simp [ends])
end Go.Proofs.Ythknpcpddlaapaa
namespace Go.Proofs.Ythknpcpddlaapaa
open Go.Am
attribute [local simp, local push_cast] num boo str ints rEv aEv rTk aTk rEg aEg aH vEv vecI aDone boos_ren d5_take d5_drop d5_len vTk rTk_snoc vecE rEg_snoc aG gC_len gC_take gC_drop gC_closed gC_ren
set_option linter.unusedVariables false
set_option maxRecDepth 100000
set_option maxHeartbeats 4000000
/-! Whether there is a circle with exactly one step of the last kind. -/
def oneA (p a : Gr) (c : List Nat) (i k : Nat) : Bool := if k = i then a (c.getD k 0) (c.getD ((k + 1) % c.length) 0) else p (c.getD k 0) (c.getD ((k + 1) % c.length) 0)
def anyA (p a : Gr) (c : List Nat) : Bool := (List.range c.length).any fun i => (List.range c.length).all (oneA p a c i)
def step2 (p a : Gr) (c : List Nat) (s : Bool) : Bool × Bool := (!(s || anyA p a c), s || anyA p a c)
theorem runC_single (p a : Gr) : ∀ (cs : List (List Nat)) (s : Bool), (runC (step2 p a) cs s).2 = (s || cs.any (anyA p a))
  | [], s => by simp [runC]
  | c :: cs, s => by
    rw [runC]
    split
    · rename_i h
      rw [runC_single p a cs]
      simp [step2, Bool.or_assoc]
    · rename_i h
      have h2 : (s || anyA p a c) = true := by cases s <;> simp_all [step2]
      show (s || anyA p a c) = _
      rw [List.any_cons, ← Bool.or_assoc, h2]; rfl
theorem any_range_succ (n : Nat) (f : Nat → Bool) : (List.range (n + 1)).any f = ((List.range n).any f || f n) := by rw [List.range_succ, List.any_append]; simp
theorem all_range_succ (n : Nat) (f : Nat → Bool) : (List.range (n + 1)).all f = ((List.range n).all f && f n) := by rw [List.range_succ, List.all_append]; simp
theorem c_sing1 (p a : Gr) (c : List Nat) (s : Bool) (hl : c.length ≤ 1000000) (h5 : ∀ t ∈ c, t < 5) : ACall Try.prog 72 [ints (toI c), .ptr 1000 0, .ptr 1001 0] [(1000, .var (gC p a)), (1001, .var [boo s])] (boo (step2 p a c s).1) [(1000, .var (gC p a)), (1001, .var [boo (step2 p a c s).2])] := by
  refine enterq mixed ttok Try.func72 Try.ntmps72 Try.results72 ?_
  generalize hr : boo (step2 p a c s).1 = R
  have hti := toI_len c
  have hd : (default : Int) = 0 := rfl
  simp -implicitDefEqProofs only [argT, ↓steps, push_cast, simprocAttr, tte]
  refine loop_gen mixed ttok (fun i : Nat => (⟨[(12, .d (.lit (.int .i64 i))), (11, .d (.lit (.int .i64 (toI c).length))), (0, ints (toI c)), (1, .ptr 1000 0), (2, .ptr 1001 0)], [(1000, .var (gC p a)), (1001, .var [boo (s || (List.range i).any fun i => (List.range c.length).all (oneA p a c i))])]⟩ : SL)) (fun i => c.length - i)
    (fun i => i ≤ c.length) 0 (Nat.zero_le _) ?_ ?_
  · exact Weak.keepL (by simp [ends]) (by simp [ends]) (by simp [ends])
  intro I hI i hi
  have hwi : IntKind.i64.wrap ((i : Int) + 1) = ((i + 1 : Nat) : Int) := by rw [wrap_eq (by omega) (by omega)]; rfl
  simp -implicitDefEqProofs only [↓steps, push_cast, simprocAttr, tte]
  refine bcase_intro (fun h => ?_) fun h => ?_
  · simp only [decide_eq_true_eq] at h
    have hi' : i < c.length := by omega
    generalize hS : (s || (List.range i).any fun i => (List.range c.length).all (oneA p a c i)) = S
    have hS2 : (s || (List.range (i + 1)).any fun i => (List.range c.length).all (oneA p a c i)) = (S || (List.range c.length).all (oneA p a c i)) := by rw [any_range_succ, ← Bool.or_assoc, hS]
    refine loop_gen mixed ttok (fun k : Nat => (⟨[(17, .d (.lit (.int .i64 k))), (16, .d (.lit (.int .i64 (toI c).length))), (15, ints (toI c)), (6, boo ((List.range k).all (oneA p a c i))), (5, num i), (12, .d (.lit (.int .i64 i))), (11, .d (.lit (.int .i64 (toI c).length))), (0, ints (toI c)), (1, .ptr 1000 0), (2, .ptr 1001 0)], [(1000, .var (gC p a)), (1001, .var [boo S])]⟩ : SL)) (fun k => c.length - k)
      (fun k => k ≤ c.length) 0 (Nat.zero_le _) ?_ ?_
    · exact Weak.keepL (by simp [ends]) (by simp [hS, ends]) (by simp [ends])
    intro J hJ k hk
    have hwk : IntKind.i64.wrap ((k : Int) + 1) = ((k + 1 : Nat) : Int) := by rw [wrap_eq (by omega) (by omega)]; rfl
    have hmod : ((k : Int) + 1).tmod (((toI c).length : Nat) : Int) = ((k : Int) + 1) % (c.length : Int) := by rw [hti]; rfl
    have htn : (((k : Int) + 1) % (c.length : Int)).toNat = (k + 1) % c.length := by
      have : ((k : Int) + 1) % (c.length : Int) = (((k + 1) % c.length : Nat) : Int) := rfl
      rw [this, Int.toNat_natCast]
    simp -implicitDefEqProofs only [rI, hwk, hmod, htn, hd, Int.toNat_natCast, toI_getD, ↓steps, push_cast, simprocAttr, tte]
    refine bcase_intro (fun g => ?_) fun g => ?_
    · simp only [decide_eq_true_eq] at g
      have hk' : k < c.length := by omega
      have hmlt := Nat.mod_lt (k + 1) (show 0 < c.length by omega)
      have hm : ∀ j, j < c.length → c.getD j 0 < 5 := fun j hj => h5 _ (by rw [List.getD_eq_getElem?_getD, List.getElem?_eq_getElem hj]; exact List.getElem_mem hj)
      have hx := hm k hk'
      have hy := hm ((k + 1) % c.length) hmlt
      have hone : oneA p a c i k = if k = i then a (c.getD k 0) (c.getD ((k + 1) % c.length) 0) else p (c.getD k 0) (c.getD ((k + 1) % c.length) 0) := rfl
      have hall := all_range_succ k (oneA p a c i)
      generalize c.getD k 0 = x at hx hone ⊢
      generalize c.getD ((k + 1) % c.length) 0 = y at hy hone ⊢
      have h1 : (gC p a)[x * 5 + y * 1]? = some (.d (.lit (.bool (p x y)))) := by rw [Nat.mul_one]; exact gC_plain p a hx hy
      have h2 : (gC p a)[25 + x * 5 + y * 1]? = some (.d (.lit (.bool (a x y)))) := by rw [Nat.mul_one]; exact gC_anti p a hx hy
      have hge : (0 : Int) ≤ ((k : Int) + 1) % (c.length : Int) := Int.emod_nonneg _ (by omega)
      have hlt : ((k : Int) + 1) % (c.length : Int) < (c.length : Int) := Int.emod_lt_of_pos _ (by omega)
      refine ⟨⟨by omega, by omega⟩, by omega, ⟨hge, by rw [hti]; exact hlt⟩, ?_⟩
      rw [hone] at hall
      generalize hB : (List.range k).all (oneA p a c i) = B at hall ⊢
      refine bcase_intro (fun b0 => ?_) fun b0 => ?_
      · rw [b0, Bool.true_and] at hall
        by_cases hki : k = i
        · have k1 : ((k : Int) == (i : Int)) = true := beq_iff_eq.2 (by omega)
          have k2 : ((k : Int) != (i : Int)) = false := by simp [hki]
          rw [if_pos hki] at hall
          simp -implicitDefEqProofs only [k1, k2, h1, h2, ↓steps, push_cast, simprocAttr, tte]
          refine ⟨⟨by omega, by omega⟩, ⟨by omega, by omega⟩, bcase_intro (fun q => ?_) fun q => ?_⟩
          · rw [q] at hall
            exact gen_again hJ (k + 1) hk' (by show c.length - (k + 1) < c.length - k; omega) (Weak.keepL (by simp [hwk, hall, ends]) (by simp [ends]) (by simp [ends]))
          · rw [q] at hall
            exact gen_again hJ (k + 1) hk' (by show c.length - (k + 1) < c.length - k; omega) (Weak.keepL (by simp [hwk, hall, ends]) (by simp [ends]) (by simp [ends]))
        · have k1 : ((k : Int) == (i : Int)) = false := beq_eq_false_iff_ne.2 (by omega)
          have k2 : ((k : Int) != (i : Int)) = true := by simp; omega
          rw [if_neg hki] at hall
          simp -implicitDefEqProofs only [k1, k2, h1, h2, ↓steps, push_cast, simprocAttr, tte]
          refine ⟨⟨by omega, by omega⟩, ⟨by omega, by omega⟩, ?_⟩
          exact gen_again hJ (k + 1) hk' (by show c.length - (k + 1) < c.length - k; omega) (Weak.keepL (by simp [hwk, hall, ends]) (by simp [ends]) (by simp [ends]))
      · rw [b0, Bool.false_and] at hall
        exact gen_again hJ (k + 1) hk' (by show c.length - (k + 1) < c.length - k; omega) (Weak.keepL (by simp [hwk, hall, ends]) (by simp [ends]) (by simp [ends]))
    · simp only [decide_eq_false_iff_not] at g
      obtain rfl : k = c.length := by omega
      refine bcase_intro (fun q => ?_) fun q => ?_
      · have e1 : (s || (List.range (i + 1)).any fun i => (List.range c.length).all (oneA p a c i)) = true := by rw [hS2, q]; rfl
        exact gen_again hI (i + 1) hi' (by show c.length - (i + 1) < c.length - i; omega) (Weak.keepL (by simp [hwi, ends]) (by simp [e1, ends]) (by simp [ends]))
      · have e1 : (s || (List.range (i + 1)).any fun i => (List.range c.length).all (oneA p a c i)) = (List.range c.length).all (oneA p a c i) := by rw [hS2, q, Bool.false_or]
        exact gen_again hI (i + 1) hi' (by show c.length - (i + 1) < c.length - i; omega) (Weak.keepL (by simp [hwi, ends]) (by simp [e1, ends]) (by simp [ends]))
  · simp only [decide_eq_false_iff_not] at h
    obtain rfl : i = c.length := by omega
    exact ret_dO trivial (by rw [← hr]; rfl) (by simp [step2, anyA, ends]) (by simp [ends])
theorem c_ext2 (p a : Gr) (len : Nat) (hlen : len ≤ 5) : ∀ (n : Nat) (l : List Nat) (s : Bool), l ≠ [] → (∀ t ∈ l, t < 5) → l.length + n = len →
    ACall Try.prog 84 [aG p a, ints (toI l), num len, .clo 72 [.ptr 1000 0, .ptr 1001 0]] [(1000, .var (gC p a)), (1001, .var [boo s])] (boo (runC (step2 p a) (extC (fun x y => p x y || a x y) len n l) s).1) [(1000, .var (gC p a)), (1001, .var [boo (runC (step2 p a) (extC (fun x y => p x y || a x y) len n l) s).2])]
  | n, l, s, hl0, hl5, hln => by
    have hp := List.length_pos_iff.2 hl0
    have hw1 : IntKind.i64.wrap (((toI l).length : Int) - 1) = ((l.length - 1 : Nat) : Int) := by rw [toI_len, wrap_eq (by omega) (by omega)]; omega
    have hlast : l.getD (l.length - 1) 0 < 5 := hl5 _ (by rw [List.getD_eq_getElem?_getD, List.getElem?_eq_getElem (by omega)]; exact List.getElem_mem _)
    have hfst : l.getD 0 0 < 5 := hl5 _ (by rw [List.getD_eq_getElem?_getD, List.getElem?_eq_getElem (by omega)]; exact List.getElem_mem _)
    have hd : (default : Int) = 0 := rfl
    have hti := toI_len l
    cases n with
    | zero =>
      refine enterq mixed ttok Try.func84 Try.ntmps84 Try.results84 ?_
      generalize hr : boo (runC (step2 p a) (extC (fun x y => p x y || a x y) len 0 l) s).1 = R
      simp -implicitDefEqProofs only [argT, rI, hw1, Int.toNat_natCast, hd, toI_getD, ↓steps, push_cast, simprocAttr, tte]
      refine ⟨⟨by omega, by omega⟩, bcase_intro (fun _ => ⟨by omega, ?_⟩) fun q => absurd q (by simp; omega)⟩
      have hc := c_depends p a hlast hfst
      refine callq [[], [], []] [] (hc) ?_ (hz := by simp only [frzAL, frzA, frz_gC, frz_boos, List.cons_append, List.nil_append, List.append_nil]; exact rfl) (hgs := by simp [rowsOf_length] <;> omega) (hargs := by simp [ends, bs]) (hcl := by simp [ends, bs])
      simp -implicitDefEqProofs only [↓steps, push_cast, simprocAttr, tte]
      generalize hb : (p (l.getD (l.length - 1) 0) (l.getD 0 0) || a (l.getD (l.length - 1) 0) (l.getD 0 0)) = b
      have hext : extC (fun x y => p x y || a x y) len 0 l = if b = true then [l] else [] := by rw [extC, hb]
      cases b with
      | true =>
        rw [if_pos rfl] at hext
        have hrun : runC (step2 p a) (extC (fun x y => p x y || a x y) len 0 l) s = step2 p a l s := by
          rw [hext, runC]
          split
          · rename_i h; rw [runC]; exact Prod.ext h.symm rfl
          · rename_i h; rw [Bool.not_eq_true] at h; exact Prod.ext h.symm rfl
        rw [hrun] at hr ⊢
        simp -implicitDefEqProofs only [Bool.not_true, ↓steps, push_cast, simprocAttr, tte]
        refine callq [[1], [], []] [(1000, 1000), (1001, 1001)] (c_sing1 p a l s (by omega) hl5) ?_
        simp -implicitDefEqProofs only [↓steps, push_cast, simprocAttr, tte]
        refine ⟨drawx_intro (by kernel_rfl), ?_⟩
        exact ret_dO trivial (by rw [← hr]; rfl) (by simp [ends]) (by simp [ends])
      | false =>
        rw [if_neg (by decide)] at hext
        have hrun : runC (step2 p a) (extC (fun x y => p x y || a x y) len 0 l) s = (true, s) := by rw [hext]; rfl
        rw [hrun] at hr ⊢
        simp -implicitDefEqProofs only [Bool.not_false, ↓steps, push_cast, simprocAttr, tte]
        refine ⟨drawx_intro (by kernel_rfl), ?_⟩
        exact ret_dO trivial (by rw [← hr]; rfl) (by simp [ends]) (by simp [ends])
    | succ n =>
      refine enterq mixed ttok Try.func84 Try.ntmps84 Try.results84 ?_
      generalize hr : boo (runC (step2 p a) (extC (fun x y => p x y || a x y) len (n + 1) l) s).1 = R
      simp -implicitDefEqProofs only [argT, rI, hw1, Int.toNat_natCast, hd, toI_getD, ↓steps, push_cast, simprocAttr, tte]
      refine ⟨⟨by omega, by omega⟩, bcase_intro (fun q => absurd q (by simp; omega)) fun _ => ⟨by omega, ?_⟩⟩
      have hw2 : IntKind.i64.wrap ((l.getD 0 0 : Nat) + 1 : Int) = ((l.getD 0 0 + 1 : Nat) : Int) := by rw [wrap_eq (by omega) (by omega)]; omega
      generalize hdep : (fun x y => p x y || a x y) = dep at hr ⊢
      rw [extC_T] at hr ⊢
      refine loop_gen mixed ttok (fun t : Nat => (⟨[(10, .d (.lit (.int .i64 t))), (9, .d (.lit (.int .i64 (l.getD (l.length - 1) 0 : Nat)))), (4, .ptr 4 0), (3, .clo 72 [.ptr 1000 0, .ptr 1001 0]), (2, num len), (1, ints (toI l))], (4, .var (gC p a)) :: [(1000, .var (gC p a)), (1001, .var [boo (runC (step2 p a) (extT dep len n l t) s).2])]⟩ : SL)) (fun t => 5 - t)
        (fun t => (l.getD 0 0 < t ∧ t ≤ 5) ∧ (runC (step2 p a) (extT dep len n l t) s).1 = true) (l.getD 0 0 + 1) ⟨⟨by omega, by omega⟩, by rw [extT_first]; rfl⟩ ?_ ?_
      · have e1 : runC (step2 p a) (extT dep len n l (l.getD 0 0 + 1)) s = (true, s) := by rw [extT_first]; rfl
        simp only [hw2, e1]
        exact Weak.keepL (by simp [ends]) (by simp [ends]) (by simp [ends])
      intro I hI t ⟨⟨ht0, ht5⟩, hrun⟩
      simp -implicitDefEqProofs only [↓steps, push_cast, simprocAttr, tte]
      refine bcase_intro (fun h => ?_) fun h => ?_
      · simp only [decide_eq_true_eq] at h
        have h' : t < 5 := by omega
        have hwt : IntKind.i64.wrap ((t : Int) + 1) = ((t + 1 : Nat) : Int) := by rw [wrap_eq (by omega) (by omega)]; rfl
        have hsucc : runC (step2 p a) (extT dep len n l (t + 1)) s = runC (step2 p a) (extF dep len n l t) (runC (step2 p a) (extT dep len n l t) s).2 := by
          rw [extT_succ, runC_app, if_pos hrun]
        have hc := c_depends p a hlast h'
        refine callq [[], [], []] [] (hc) ?_ (hz := by simp only [frzAL, frzA, frz_gC, frz_boos, List.cons_append, List.nil_append, List.append_nil]; exact rfl) (hgs := by simp [rowsOf_length] <;> omega) (hargs := by simp [ends, bs]) (hcl := by simp [ends, bs])
        simp -implicitDefEqProofs only [↓steps, push_cast, simprocAttr, tte]
        have hb : (p (l.getD (l.length - 1) 0) t || a (l.getD (l.length - 1) 0) t) = dep (l.getD (l.length - 1) 0) t := by rw [← hdep]
        rw [hb]
        have hskip : ¬ (dep (l.getD (l.length - 1) 0) t = true ∧ t ∉ l) → runC (step2 p a) (extT dep len n l (t + 1)) s = runC (step2 p a) (extT dep len n l t) s := fun h => by
          have : extF dep len n l t = [] := by unfold extF; rw [if_neg (fun q => h q.2)]
          rw [hsucc, this]
          exact Prod.ext hrun.symm rfl
        refine bcase_intro (fun b1 => ?_) fun b1 => ?_
        · refine callq [[1], []] [] (c_conN (toI l) (t : Int) (by omega)) ?_
          simp -implicitDefEqProofs only [toI_mem, ↓steps, push_cast, simprocAttr, tte]
          by_cases hm : t ∈ l
          · have e1 := hskip (fun q => q.2 hm)
            simp -implicitDefEqProofs only [decide_eq_true hm, Bool.not_true, ↓steps, push_cast, simprocAttr, tte]
            refine ⟨drawx_intro (by kernel_rfl), ?_⟩
            exact gen_again hI (t + 1) ⟨⟨by omega, by omega⟩, by rw [e1]; exact hrun⟩ (by show 5 - (t + 1) < 5 - t; omega) (Weak.keepL (by simp [hwt, ends]) (by simp [e1, ends]) (by simp [ends]))
          · simp -implicitDefEqProofs only [decide_eq_false hm, Bool.not_false, ↓steps, push_cast, simprocAttr, tte]
            have hcl := c_cloneO (toI l) (by omega) (by intro e; rw [e] at hti; simp at hti; omega)
            refine callq [[1]] [(1000, 54)] (hcl) ?_
            simp -implicitDefEqProofs only [toI_app, ↓steps, push_cast, simprocAttr, tte]
            have hla : (toI l).length + 1 = (toI (l ++ [t])).length := by rw [toI_len, toI_len]; simp
            rw [hla]
            refine ⟨by rw [toI_len]; simp; omega, ?_⟩
            have hrec := c_ext2 p a len hlen n (l ++ [t]) (runC (step2 p a) (extT dep len n l t) s).2 (by simp) (fun x hx => by
              rcases List.mem_append.1 hx with hx | hx
              · exact hl5 x hx
              · rw [List.mem_singleton] at hx; omega) (by simp; omega)
            rw [hdep] at hrec
            have hF : extF dep len n l t = extC dep len n (l ++ [t]) := by unfold extF; rw [if_pos ⟨ht0, b1, hm⟩]
            rw [← hF, ← hsucc] at hrec
            refine callq [[], [1], [], [], []] [(1000, 1000), (1001, 1001)] (hrec) ?_ (hz := by simp only [frzAL, frzA, frz_gC, frz_boos, List.cons_append, List.nil_append, List.append_nil]; exact rfl) (hgs := by simp [rowsOf_length] <;> omega) (hargs := by simp [ends, bs]) (hcl := by simp [ends, bs])
            simp -implicitDefEqProofs only [↓steps, push_cast, simprocAttr, tte]
            generalize hE : runC (step2 p a) (extT dep len n l (t + 1)) s = E at hrec ⊢
            refine ⟨drawx_intro (by kernel_rfl), ?_⟩
            refine bcase_intro (fun q => ?_) fun q => ?_
            · have q' : E.1 = false := by simpa using q
              obtain ⟨r, hsp⟩ := extT_split dep len n l (t := t + 1) (4 - t) (by omega)
              have htot : runC (step2 p a) (extT dep len n l 5) s = E := by rw [hsp, runC_app, hE, if_neg (by rw [q']; decide)]
              rw [htot] at hr ⊢
              exact ret_dO trivial (by rw [← hr, q']; rfl) (by simp [ends]) (by simp [ends])
            · have q' : E.1 = true := by simpa using q
              exact gen_again hI (t + 1) ⟨⟨by omega, by omega⟩, by rw [hE]; exact q'⟩ (by show 5 - (t + 1) < 5 - t; omega) (Weak.keepL (by simp [hwt, ends]) (by simp [hE, ends]) (by simp [ends]))
        · have e1 := hskip (fun q => by rw [q.1] at b1; cases b1)
          refine ⟨drawx_intro (by kernel_rfl), ?_⟩
          exact gen_again hI (t + 1) ⟨⟨by omega, by omega⟩, by rw [e1]; exact hrun⟩ (by show 5 - (t + 1) < 5 - t; omega) (Weak.keepL (by simp [hwt, ends]) (by simp [e1, ends]) (by simp [ends]))
      · simp only [decide_eq_false_iff_not] at h
        obtain rfl : t = 5 := by omega
        rw [hrun] at hr
        exact ret_dO trivial (by rw [← hr]; rfl) (by simp [ends]) (by simp [ends])
theorem c_circles2 (p a : Gr) (s : Bool) :
    ACall Try.prog 67 [aG p a, .clo 72 [.ptr 1000 0, .ptr 1001 0]] [(1000, .var (gC p a)), (1001, .var [boo s])] (.tup []) [(1000, .var (gC p a)), (1001, .var [boo (runC (step2 p a) (circlesC (fun x y => p x y || a x y)) s).2])] := by
  refine enterq mixed ttok Try.func67 Try.ntmps67 Try.results67 ?_
  generalize hdep : (fun x y => p x y || a x y) = dep
  simp -implicitDefEqProofs only [argT, ↓steps, push_cast, simprocAttr, tte]
  refine loop_gen mixed ttok (fun j : Nat => (⟨[(4, .d (.lit (.int .i64 ((j : Int) + 2)))), (2, .ptr 2 0), (1, .clo 72 [.ptr 1000 0, .ptr 1001 0])], (2, .var (gC p a)) :: [(1000, .var (gC p a)), (1001, .var [boo (runC (step2 p a) (cirA dep j) s).2])]⟩ : SL)) (fun j => 4 - j)
    (fun j => j ≤ 4 ∧ (runC (step2 p a) (cirA dep j) s).1 = true) 0 ⟨Nat.zero_le _, rfl⟩ ?_ ?_
  · have e1 : runC (step2 p a) (cirA dep 0) s = (true, s) := rfl
    simp only [e1]
    exact Weak.keepL (by simp [ends]) (by simp [ends]) (by simp [ends])
  intro I hI j ⟨hj, hrj⟩
  have hwj : IntKind.i64.wrap ((j : Int) + 2 + 1) = ((j + 1 : Nat) : Int) + 2 := by rw [wrap_eq (by omega) (by omega)]; omega
  simp -implicitDefEqProofs only [↓steps, push_cast, simprocAttr, tte]
  refine bcase_intro (fun h => ?_) fun h => ?_
  · simp only [decide_eq_true_eq] at h
    have hj3 : j + 1 ≤ 4 := by omega
    refine loop_gen mixed ttok (fun f : Nat => (⟨[(10, .d (.lit (.int .i64 f))), (4, .d (.lit (.int .i64 ((j : Int) + 2)))), (2, .ptr 2 0), (1, .clo 72 [.ptr 1000 0, .ptr 1001 0])], (2, .var (gC p a)) :: [(1000, .var (gC p a)), (1001, .var [boo (runC (step2 p a) (cirA dep j ++ cirB dep (j + 2) f) s).2])]⟩ : SL)) (fun f => 5 - f)
      (fun f => f ≤ 5 ∧ (runC (step2 p a) (cirA dep j ++ cirB dep (j + 2) f) s).1 = true) 0 ⟨Nat.zero_le _, ?_⟩ ?_ ?_
    · have : cirA dep j ++ cirB dep (j + 2) 0 = cirA dep j := List.append_nil _
      rw [this]; exact hrj
    · have : cirA dep j ++ cirB dep (j + 2) 0 = cirA dep j := List.append_nil _
      simp only [this]
      exact Weak.keepL (by simp [ends]) (by simp [ends]) (by simp [ends])
    intro J hJ f ⟨hf, hrf⟩
    have hwf : IntKind.i64.wrap ((f : Int) + 1) = ((f + 1 : Nat) : Int) := by rw [wrap_eq (by omega) (by omega)]; rfl
    have hsucc : runC (step2 p a) (cirA dep j ++ cirB dep (j + 2) (f + 1)) s = runC (step2 p a) (extC dep (j + 2) (j + 1) [f]) (runC (step2 p a) (cirA dep j ++ cirB dep (j + 2) f) s).2 := by
      rw [cirB_succ, ← List.append_assoc, runC_app, if_pos hrf]; rfl
    simp -implicitDefEqProofs only [↓steps, push_cast, simprocAttr, tte]
    refine bcase_intro (fun g => ?_) fun g => ?_
    · simp only [decide_eq_true_eq] at g
      have hrec := c_ext2 p a (j + 2) (by omega) (j + 1) [f] (runC (step2 p a) (cirA dep j ++ cirB dep (j + 2) f) s).2 (by simp) (fun x hx => by rw [List.mem_singleton] at hx; omega) (by simp; omega)
      have h1f : rowsOf rI (toI [f]) = [[D.lit (.int .i64 (f : Int))]] := rfl
      rw [hdep, ← hsucc, ints, h1f] at hrec
      refine callq [[], [1], [], [], []] [(1000, 1000), (1001, 1001)] (hrec) ?_ (hz := by simp only [frzAL, frzA, frz_gC, frz_boos, List.cons_append, List.nil_append, List.append_nil]; exact rfl) (hgs := by simp [rowsOf_length] <;> omega) (hargs := by simp [ends, bs]) (hcl := by simp [ends, bs])
      simp -implicitDefEqProofs only [↓steps, push_cast, simprocAttr, tte]
      generalize hE : runC (step2 p a) (cirA dep j ++ cirB dep (j + 2) (f + 1)) s = E at hrec hsucc ⊢
      refine bcase_intro (fun q => ?_) fun q => ?_
      · have q' : E.1 = false := by simpa using q
        obtain ⟨r1, hs1⟩ := cirB_split dep (j + 2) (f := f + 1) (4 - f) (by omega)
        obtain ⟨r2, hs2⟩ := cirA_split dep (j := j + 1) (3 - j) (by omega)
        have htot : runC (step2 p a) (circlesC dep) s = E := by
          rw [hs2, cirA, hs1, List.append_assoc, List.append_assoc, ← List.append_assoc (cirA dep j), runC_app, hE, if_neg (by rw [q']; decide)]
        rw [htot]
        exact ret_same trivial rfl rfl (by simp [ends]) (by simp [ends])
      · have q' : E.1 = true := by simpa using q
        exact gen_again hJ (f + 1) ⟨by omega, by rw [hE]; exact q'⟩ (by show 5 - (f + 1) < 5 - f; omega) (Weak.keepL (by simp [hwf, ends]) (by simp [hE, ends]) (by simp [ends]))
    · simp only [decide_eq_false_iff_not] at g
      obtain rfl : f = 5 := by omega
      have hA : cirA dep j ++ cirB dep (j + 2) 5 = cirA dep (j + 1) := rfl
      rw [hA] at hrf
      exact gen_again hI (j + 1) ⟨hj3, hrf⟩ (by show 4 - (j + 1) < 4 - j; omega) (Weak.keepL (by simp [hwj, ends]) (by simp [hA, ends]) (by simp [ends]))
  · simp only [decide_eq_false_iff_not] at h
    obtain rfl : j = 4 := by omega
    rw [cirA_all]
    exact ret_same trivial rfl rfl (by simp [ends]) (by simp [ends])
end Go.Proofs.Ythknpcpddlaapaa
