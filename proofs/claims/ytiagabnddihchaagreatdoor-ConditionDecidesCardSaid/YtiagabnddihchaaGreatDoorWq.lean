/- Conditions over finite domains (part Wq) -/
import Derived.Test.YtiagabnddihchaaGreatDoorWz
set_option linter.all false

namespace Go.Proofs.YtiagabnddihchaaGreatDoor
open Go.Am
attribute [local simp, local push_cast] num boo str ints aV aTab aRow rRow vE tapeO
set_option linter.unusedVariables false
set_option maxRecDepth 100000
set_option maxHeartbeats 4000000

/-! The law of decision. -/
theorem cnt_sum {v : Nat → Int} (h : ∀ k, v k = 0 ∨ v k = 1 ∨ v k = 2) : ∀ N, cntT v 1 N + cntT v 0 N + cntT v 2 N = N
  | 0 => by simp [cntT_zero]
  | N + 1 => by
    rw [cntT_succ, cntT_succ, cntT_succ]
    have := cnt_sum h N
    rcases h N with q | q | q <;> rw [q] <;> simp <;> omega
theorem cnt_none {v : Nat → Int} {t : Int} : ∀ N, cntT v t N = 0 ↔ ∀ k, k < N → v k ≠ t
  | 0 => by simp [cntT_zero]
  | N + 1 => by
    rw [cntT_succ]
    have h1 := cnt_none (v := v) (t := t) N
    have h2 := cntT_le v t N
    constructor
    · intro h k hk
      split at h
      · omega
      · rename_i hne
        rcases Nat.lt_or_eq_of_le (Nat.lt_succ_iff.1 hk) with q | q
        · exact h1.1 (by omega) k q
        · rw [q]; exact hne
    · intro h
      rw [if_neg (h N (by omega)), h1.2 fun k hk => h k (by omega)]; rfl
theorem truth_at (d : List Row) (e : Ex) (k : Nat) : truthAt d e k = 0 ∨ truthAt d e k = 1 ∨ truthAt d e k = 2 := truth3 _
theorem holds_of (d : List Row) (e : Ex) (k : Nat) : holdsAt d e k = true ↔ truthAt d e k = 1 := by rw [holds_truth]; simp
theorem truth_ist (b : Bool) : truthM (ofV b) = 1 ↔ b = true := by cases b <;> decide
theorem truth_not (v : Val) : truthM (notM v) = 1 ↔ truthM v = 0 := by
  unfold notM
  have := truth3 v
  split
  · show (2 : Int) = 1 ↔ _; omega
  · rw [truth_ist]; simp
theorem holds_both (d : List Row) (a b : Ex) (k : Nat) : holdsAt d (bin 22 [bin 25 [a], bin 24 [bin 25 [b]]]) k = true ↔ holdsAt d a k = true ∧ ¬ holdsAt d b k = true := by
  rw [holds_and, holds_iff, holds_iff, eval_op _ 25 _ (by decide) (by decide) rfl, eval_op _ 24 _ (by decide) (by decide) rfl]
  have h1 : truthM (applyM 25 ([a].map (evalM (ptM d k)))) = 1 ↔ holdsAt d a k = true := by
    rw [holds_iff]
    show truthM (ofV (truthM (evalM (ptM d k) a) == 1)) = 1 ↔ _
    rw [truth_ist]; simp
  have h2 : truthM (applyM 24 ([bin 25 [b]].map (evalM (ptM d k)))) = 1 ↔ ¬ holdsAt d b k = true := by
    rw [holds_iff]
    show truthM (notM (evalM (ptM d k) (bin 25 [b]))) = 1 ↔ _
    rw [truth_not, eval_op _ 25 _ (by decide) (by decide) rfl]
    show truthM (ofV (truthM (evalM (ptM d k) b) == 1)) = 0 ↔ _
    cases hq : (truthM (evalM (ptM d k) b) == 1)
    · simp only [beq_eq_false_iff_ne] at hq
      exact ⟨fun _ => hq, fun _ => rfl⟩
    · simp only [beq_iff_eq] at hq
      exact ⟨fun h => absurd h (by decide), fun h => absurd hq h⟩
  rw [h1, h2]
/-- Where the search stops. -/
def stopAt (d : List Row) (x : Row × Int) (k : Nat) : Bool := (x.2 == 0) && sameR x.1 (ptM d k)
theorem solve_stop {d : List Row} {e : Ex} (hv : validC d e = 0) {k : Nat} (hk : k < prodL d) (h : ∀ j, j < k + 1 → stopAt d (solveM d e) j = false) : holdsAt d e k = false := by
  rw [solveM, if_neg (by omega)] at h
  cases hF : firstP (holdsAt d e) (prodL d) with
  | none => exact first_none hF k hk
  | some m =>
    rw [hF] at h
    obtain ⟨h1, h2, h3⟩ := first_some hF
    by_cases q : k < m
    · exact h3 k q
    · have := h m (by omega)
      rw [stopAt, sameR_self] at this
      cases this
theorem solve_count {d : List Row} {e : Ex} (hv : validC d e = 0) : decide (cntT (truthAt d e) 1 (prodL d) > 0) = ((solveM d e).2 == 0) := by
  have h1 := cntT_le (truthAt d e) 1 (prodL d)
  rw [solveM, if_neg (by omega)]
  cases hF : firstP (holdsAt d e) (prodL d) with
  | none =>
    have : cntT (truthAt d e) 1 (prodL d) = 0 := (cnt_none _).2 fun k hk q => by
      have := first_none hF k hk
      rw [(holds_of d e k).2 q] at this
      cases this
    rw [this]; rfl
  | some m =>
    obtain ⟨h2, h3, _⟩ := first_some hF
    have : ¬ cntT (truthAt d e) 1 (prodL d) = 0 := fun q => (cnt_none _).1 q m h2 ((holds_of d e m).1 h3)
    exact decide_eq_true (by omega)
theorem imp_both {d : List Row} {a b : Ex} (ha : validC d a = 0) (hb : validC d b = 0) : (impM d a b).2.1 = (cntT (truthAt d (bin 22 [bin 25 [a], bin 24 [bin 25 [b]]])) 1 (prodL d) == 0) := eq_of_iff (by
  rw [imp_iff ha hb, beq_iff_eq, cnt_none]
  constructor
  · intro h k hk q
    have := (holds_both d a b k).1 ((holds_of d _ k).2 q)
    exact this.2 (h k hk this.1)
  · intro h k hk q
    cases hq : holdsAt d b k with
    | true => rfl
    | false => exact absurd ((holds_of d _ k).1 ((holds_both d a b k).2 ⟨q, by rw [hq]; decide⟩)) (h k hk))
def DEs (d : List Row) (a b : Ex) (x : Row × Int) (k : Nat) : SL :=
  ⟨[(13, .d (.lit (.int .i64 k))), (4, aTab d), (5, .ptr 5 0), (6, .ptr 6 0), (7, aRow x.1), (8, num x.2)], [(5, .var (vE a)), (6, .var (vE b))]⟩
theorem c_lawD (t : List Int) (ht : ∀ x ∈ t, i64 x) : ACall Tryz.prog 3 [ints t] [] (boo true) [] := by
  have hN := c_new t
  have hx := tape_of ht
  generalize t.take 2000 = xs at hx hN
  refine enterq mixed ttok Tryz.func3 Tryz.ntmps3 Tryz.results3 ?_
  simp -implicitDefEqProofs only [argT, ↓steps, push_cast, simprocAttr, tte]
  refine callq [[1]] [(1000, 400)] (hN) ?_
  simp -implicitDefEqProofs only [↓steps, push_cast, simprocAttr, tte]
  refine callq [[]] [(1000, 400)] (c_domains (p := 0) hx) ?_
  have hD := domF_ok xs 0
  generalize domF xs 0 = dp at hD ⊢
  obtain ⟨d, p⟩ := dp
  dsimp only at hD ⊢
  have hsm := hD.small
  have htl : (typesM d).length ≤ 1000 := by have := hD.tlen; have := hD.len; omega
  simp -implicitDefEqProofs only [aTab, ↓steps, push_cast, simprocAttr, tte]
  refine callq [[1]] [] (c_types23 d hsm) ?_
  simp -implicitDefEqProofs only [↓steps, push_cast, simprocAttr, tte]
  refine callq [[], [1], [], []] [(1000, 400)] (c_fexprN hx htl 4 4 rfl (by decide) 2 p kn2) ?_
  have hA := made_expr xs (typesM d) 3 2 kn2 p
  generalize exprF xs (typesM d) 4 2 p = ap at hA ⊢
  obtain ⟨a, p⟩ := ap
  dsimp only at hA ⊢
  simp -implicitDefEqProofs only [↓steps, push_cast, simprocAttr, tte]
  refine callq [[1]] [] (c_types23 d hsm) ?_
  simp -implicitDefEqProofs only [↓steps, push_cast, simprocAttr, tte]
  refine callq [[], [1], [], []] [(1000, 400)] (c_fexprN hx htl 3 3 rfl (by decide) 2 p kn2) ?_
  have hB := made_expr xs (typesM d) 2 2 kn2 p
  generalize exprF xs (typesM d) 3 2 p = bp at hB ⊢
  obtain ⟨b, p⟩ := bp
  dsimp only at hB ⊢
  simp -implicitDefEqProofs only [↓steps, push_cast, simprocAttr, tte]
  have vA := hA.valid (by decide) hD
  have vB := hB.valid (by decide) hD
  have mIA : Made (typesM d) 5 2 (bin 25 [a]) := made_op (l := [2]) (by decide) (by decide) (.cons hA .nil)
  have mIB : Made (typesM d) 4 2 (bin 25 [b]) := made_op (l := [2]) (by decide) (by decide) (.cons hB .nil)
  have mNB : Made (typesM d) 5 2 (bin 24 [bin 25 [b]]) := made_op (l := [2]) (by decide) (by decide) (.cons mIB .nil)
  have mX : Made (typesM d) 6 2 (bin 22 [bin 25 [a], bin 24 [bin 25 [b]]]) := made_op (l := [2, 2]) (by decide) (by decide) (.cons mIA (.cons mNB .nil))
  have vX : validC d (bin 22 [bin 25 [a], bin 24 [bin 25 [b]]]) = 0 := by
    have h1 := mX.dep
    have sA := hA.size
    have sB := hB.size
    refine hD.valid (mX.type (by omega) ?_)
    rw [sizeT_eq]; simp only [bin, Ex.kids, sizeTs, sizeT]
    omega
  have hS := c_solve d hsm a hA.ok12
  have hC := c_pcount d hsm a hA.ok12
  have hI := c_pimplies d hsm a b hA.ok12 hB.ok12
  have hCX := c_pcount d hsm _ mX.ok12
  have hcA : countR d a = [cntT (truthAt d a) 1 (prodL d), cntT (truthAt d a) 0 (prodL d), cntT (truthAt d a) 2 (prodL d), 0] := by rw [countR, if_neg (by omega)]
  have hcX : countR d (bin 22 [bin 25 [a], bin 24 [bin 25 [b]]]) = [cntT (truthAt d (bin 22 [bin 25 [a], bin 24 [bin 25 [b]]])) 1 (prodL d), cntT (truthAt d (bin 22 [bin 25 [a], bin 24 [bin 25 [b]]])) 0 (prodL d), cntT (truthAt d (bin 22 [bin 25 [a], bin 24 [bin 25 [b]]])) 2 (prodL d), 0] := by rw [countR, if_neg (by omega)]
  have hi0 : (impM d a b).2.2 = 0 := by
    rw [impM, if_neg (by omega), if_neg (by omega)]
    cases firstP (impAt d a b) (prodL d) <;> rfl
  rw [hi0, imp_both vA vB] at hI
  rw [hcA] at hC
  rw [hcX] at hCX
  have hsum := cnt_sum (truth_at d a) (prodL d)
  have hn1 := cntT_le (truthAt d a) 1 (prodL d)
  have hn0 := cntT_le (truthAt d a) 0 (prodL d)
  have hn2 := cntT_le (truthAt d a) 2 (prodL d)
  have hsc := solve_count vA
  have hst := fun k => solve_stop (k := k) vA
  have hpr := hD.pts
  have hP := c_points23 d hsm
  rw [hD.pts23] at hP
  have hd1 := c_do 25 [a] (by simp)
  have hd2 := c_do 25 [b] (by simp)
  have hd3 := c_do 24 [bin 25 [b]] (by simp)
  have hd4 := c_do 22 [bin 25 [a], bin 24 [bin 25 [b]]] (by simp)
  generalize bin 22 [bin 25 [a], bin 24 [bin 25 [b]]] = eX at hCX hd4 hI
  generalize bin 24 [bin 25 [b]] = eN at hd3 hd4
  generalize bin 25 [a] = eA at hd1 hd4
  generalize bin 25 [b] = eB at hd2 hd3
  have hxl : (solveM d a).1.length ≤ 1000000 := by
    rw [solveM, if_neg (by omega)]
    cases firstP (holdsAt d a) (prodL d) with
    | none => show (0 : Nat) ≤ _; omega
    | some k => show (ptM d k).length ≤ _; rw [ptM_length]; have := hD.len; omega
  generalize solveM d a = x at hS hsc hst hxl
  generalize cntT (truthAt d eX) 1 (prodL d) = c1 at hI hCX
  generalize cntT (truthAt d eX) 0 (prodL d) = c0 at hCX
  generalize cntT (truthAt d eX) 2 (prodL d) = c2 at hCX
  generalize cntT (truthAt d a) 1 (prodL d) = n1 at hC hsum hn1 hsc
  generalize cntT (truthAt d a) 0 (prodL d) = n0 at hC hsum hn0
  generalize cntT (truthAt d a) 2 (prodL d) = n2 at hC hsum hn2
  have w1 : IntKind.i64.wrap (n1 + n0) = n1 + n0 := wrap_eq (by omega) (by omega)
  have w2 : IntKind.i64.wrap (n1 + n0 + n2) = n1 + n0 + n2 := wrap_eq (by omega) (by omega)
  rw [aE_eq a] at hS hC
  rw [aE_eq a, aE_eq b] at hI
  rw [aE_eq eX] at hCX
  refine callq [[1], [0, 0, 0, 0, 0, 6]] [] (hS) ?_
  simp -implicitDefEqProofs only [↓steps, push_cast, simprocAttr, tte]
  refine callq [[1], [0, 0, 0, 0, 0, 6]] [] (hC) ?_
  simp -implicitDefEqProofs only [w1, w2, bne_self_eq_false, ↓steps, push_cast, simprocAttr, tte]
  refine callq [[1]] [] (hP) ?_
  simp -implicitDefEqProofs only [hsum, hsc, bne_self_eq_false, ↓steps, push_cast, simprocAttr, tte]
  refine loop_gen mixed ttok (fun k : Nat => DEs d a b x k) (fun k => prodL d - k) (fun k => k ≤ prodL d ∧ ∀ j, j < k → stopAt d x j = false) 0 ⟨Nat.zero_le _, fun j h => absurd h (Nat.not_lt_zero _)⟩ ?_ ?_
  · exact Weak.keepL (by simp [DEs, ends]) (by simp [DEs, vE, ends]) (by simp [DEs, ends])
  rintro I hI' k ⟨hk, hno⟩
  simp -implicitDefEqProofs only [DEs, vE, ↓steps, push_cast, simprocAttr, tte]
  refine callq [[1]] [] (hP) ?_
  simp -implicitDefEqProofs only [↓steps, push_cast, simprocAttr, tte]
  refine bcase_intro (fun h1 => ?_) fun h1 => ?_
  · have h1' : k < prodL d := by simpa using h1
    have hw := wrap_succ h1' (by omega)
    have nxt : stopAt d x k = false → ∀ j, j < k + 1 → stopAt d x j = false := fun h3 j hj => by
      rcases Nat.lt_or_eq_of_le (Nat.lt_succ_iff.1 hj) with q | q
      · exact hno j q
      · rw [q]; exact h3
    have hH := c_holds a (ptM d k) hA.ok12
    have hHd : holdsAt d a k = (truthM (evalM (ptM d k) a) == 1) := rfl
    rw [aE_eq] at hH
    refine callq [[1], []] [(1000, 600)] (c_point d hD.good k (by omega)) ?_
    have hpl := ptM_length d k
    simp -implicitDefEqProofs only [xOb, ↓steps, push_cast, simprocAttr, tte]
    refine bcase_intro (fun h2 => ?_) fun h2 => ?_
    · have e2 : (x.2 == 0) = true := h2
      refine callq [[3], [3]] [] (c_same23 x.1 (ptM d k) hxl) ?_
      simp -implicitDefEqProofs only [↓steps, push_cast, simprocAttr, tte]
      refine bcase_intro (fun h3 => ?_) fun h3 => ?_
      · have := 0
        refine callq [[1], [0, 0, 0, 0, 0, 6], [0, 0, 0, 0, 0, 6]] [] (hI) ?_
        simp -implicitDefEqProofs only [↓steps, push_cast, simprocAttr, tte]
        refine callq [[], [6]] [] hd1 ?_ (hargs := by simp [ends, bs, rE_eq, rowsOf_cons, rowsOf_nil])
        simp -implicitDefEqProofs only [↓steps, push_cast, simprocAttr, tte]
        refine callq [[], [6]] [] hd2 ?_ (hargs := by simp [ends, bs, rE_eq, rowsOf_cons, rowsOf_nil])
        simp -implicitDefEqProofs only [↓steps, push_cast, simprocAttr, tte]
        refine callq [[], [6]] [] hd3 ?_ (hargs := by simp [ends, bs, rE_eq, rowsOf_cons, rowsOf_nil])
        simp -implicitDefEqProofs only [↓steps, push_cast, simprocAttr, tte]
        refine callq [[], [6]] [] hd4 ?_ (hargs := by simp [ends, bs, rE_eq, rowsOf_cons, rowsOf_nil])
        simp -implicitDefEqProofs only [↓steps, push_cast, simprocAttr, tte]
        refine callq [[1], [0, 0, 0, 0, 0, 6]] [] (hCX) ?_
        simp -implicitDefEqProofs only [beq_self_eq_true, ↓steps, push_cast, simprocAttr, tte]
        refine ⟨drawx_intro (by kernel_rfl), ?_⟩
        refine callq [] [] (c_awake) ?_
        simp -implicitDefEqProofs only [↓steps, push_cast, simprocAttr, tte]
        exact ret_d trivial rfl (by simp [ends])
      · have hs : stopAt d x k = false := by rw [stopAt, e2, h3]; rfl
        rw [← hHd, hst k h1' (nxt hs)] at hH
        refine callq [[0, 0, 0, 0, 0, 6], [3]] [] (hH) ?_
        simp -implicitDefEqProofs only [↓steps, push_cast, simprocAttr, tte]
        exact gen_again hI' (k + 1) ⟨h1', nxt hs⟩ (by show prodL d - (k + 1) < prodL d - k; omega) (Weak.keepL (by simp [DEs, hw, ends]) (by simp [DEs, vE, ends]) (by simp [DEs, ends]))
    · have e2 : (x.2 == 0) = false := h2
      have hs : stopAt d x k = false := by rw [stopAt, e2]; rfl
      rw [← hHd, hst k h1' (nxt hs)] at hH
      refine callq [[0, 0, 0, 0, 0, 6], [3]] [] (hH) ?_
      simp -implicitDefEqProofs only [↓steps, push_cast, simprocAttr, tte]
      exact gen_again hI' (k + 1) ⟨h1', nxt hs⟩ (by show prodL d - (k + 1) < prodL d - k; omega) (Weak.keepL (by simp [DEs, hw, ends]) (by simp [DEs, vE, ends]) (by simp [DEs, ends]))
  · have := 0
    refine callq [[1], [0, 0, 0, 0, 0, 6], [0, 0, 0, 0, 0, 6]] [] (hI) ?_
    simp -implicitDefEqProofs only [↓steps, push_cast, simprocAttr, tte]
    refine callq [[], [6]] [] hd1 ?_ (hargs := by simp [ends, bs, rE_eq, rowsOf_cons, rowsOf_nil])
    simp -implicitDefEqProofs only [↓steps, push_cast, simprocAttr, tte]
    refine callq [[], [6]] [] hd2 ?_ (hargs := by simp [ends, bs, rE_eq, rowsOf_cons, rowsOf_nil])
    simp -implicitDefEqProofs only [↓steps, push_cast, simprocAttr, tte]
    refine callq [[], [6]] [] hd3 ?_ (hargs := by simp [ends, bs, rE_eq, rowsOf_cons, rowsOf_nil])
    simp -implicitDefEqProofs only [↓steps, push_cast, simprocAttr, tte]
    refine callq [[], [6]] [] hd4 ?_ (hargs := by simp [ends, bs, rE_eq, rowsOf_cons, rowsOf_nil])
    simp -implicitDefEqProofs only [↓steps, push_cast, simprocAttr, tte]
    refine callq [[1], [0, 0, 0, 0, 0, 6]] [] (hCX) ?_
    simp -implicitDefEqProofs only [beq_self_eq_true, ↓steps, push_cast, simprocAttr, tte]
    refine ⟨drawx_intro (by kernel_rfl), ?_⟩
    refine callq [] [] (c_awake) ?_
    simp -implicitDefEqProofs only [↓steps, push_cast, simprocAttr, tte]
    exact ret_d trivial rfl (by simp [ends])
end Go.Proofs.YtiagabnddihchaaGreatDoor
