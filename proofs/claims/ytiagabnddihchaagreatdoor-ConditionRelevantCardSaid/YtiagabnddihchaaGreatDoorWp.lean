/- Conditions over finite domains (part Wp) -/
import Derived.Test.YtiagabnddihchaaGreatDoorWn
set_option linter.all false
namespace Go.Proofs.YtiagabnddihchaaGreatDoor
open Go.Am
attribute [local simp, local push_cast] num boo str ints aV aTab aRow rRow vE tapeO
set_option linter.unusedVariables false
set_option maxRecDepth 100000
set_option maxHeartbeats 4000000
/-! The law of logic. -/
theorem Made.valid {d : List Row} {n : Nat} {e : Ex} (h : Made (typesM d) n 2 e) (hn : n ≤ 4) (hd : DomOk d) : validC d e = 0 := by
  have hP : 4 ^ n ≤ 4 ^ 4 := Nat.pow_le_pow_right (by omega) hn
  have h1 := h.dep
  have h2 := h.size
  exact hd.valid (h.type (by omega) (by omega))
theorem imp_iff {d : List Row} {a b : Ex} (ha : validC d a = 0) (hb : validC d b = 0) : (impM d a b).2.1 = true ↔ ∀ k, k < prodL d → holdsAt d a k = true → holdsAt d b k = true := by
  rw [impM, if_neg (by omega), if_neg (by omega)]
  cases hF : firstP (impAt d a b) (prodL d) with
  | none =>
    refine ⟨fun _ k hk h => ?_, fun _ => rfl⟩
    have := first_none hF k hk
    unfold impAt at this
    rw [h] at this
    simpa using this
  | some k =>
    obtain ⟨h1, h2, h3⟩ := first_some hF
    refine ⟨fun h => absurd h (by simp), fun h => ?_⟩
    unfold impAt at h2
    simp only [Bool.and_eq_true, Bool.not_eq_true'] at h2
    have := h k h1 h2.1
    rw [h2.2] at this
    cases this
theorem truth3 (v : Val) : truthM v = 0 ∨ truthM v = 1 ∨ truthM v = 2 := by unfold truthM; split <;> (try split) <;> simp
theorem truth_null2 : truthM nullV = 2 := rfl
theorem truth_and (v w : Val) : truthM (andM v w) = 1 ↔ truthM v = 1 ∧ truthM w = 1 := by
  have h1 := truth3 v
  have h2 := truth3 w
  unfold andM
  split
  · show (0 : Int) = 1 ↔ _; omega
  · split
    · show (2 : Int) = 1 ↔ _; omega
    · show (1 : Int) = 1 ↔ _; omega
theorem truth_or (v w : Val) : truthM (orM v w) = 1 ↔ truthM v = 1 ∨ truthM w = 1 := by
  have h1 := truth3 v
  have h2 := truth3 w
  unfold orM
  split
  · show (1 : Int) = 1 ↔ _; omega
  · split
    · show (2 : Int) = 1 ↔ _; omega
    · show (0 : Int) = 1 ↔ _; omega
theorem holds_iff (d : List Row) (e : Ex) (k : Nat) : holdsAt d e k = true ↔ truthM (evalM (ptM d k) e) = 1 := by unfold holdsAt; simp
theorem holds_and (d : List Row) (a b : Ex) (k : Nat) : holdsAt d (bin 22 [a, b]) k = true ↔ holdsAt d a k = true ∧ holdsAt d b k = true := by
  rw [holds_iff, holds_iff, holds_iff, eval_op _ _ _ (by decide) (by decide) rfl, ← truth_and]
  rfl
theorem holds_or (d : List Row) (a b : Ex) (k : Nat) : holdsAt d (bin 23 [a, b]) k = true ↔ holdsAt d a k = true ∨ holdsAt d b k = true := by
  rw [holds_iff, holds_iff, holds_iff, eval_op _ _ _ (by decide) (by decide) rfl, ← truth_or]
  rfl
theorem eq_of_iff {a b : Bool} (h : a = true ↔ b = true) : a = b := by cases a <;> cases b <;> simp_all
theorem c_fexprN {xs types : List Int} (hx : TapeF xs) (ht : types.length ≤ 1000) (d : Nat) (n : Int) (hn : n = d) (hd : d ≤ 99) : CE xs types n (exprF xs types d) := by rw [hn]; exact c_fexpr hx ht d hd
theorem tape_of {t : List Int} (ht : ∀ x ∈ t, i64 x) : TapeF (t.take 2000) := ⟨by rw [List.length_take]; omega, fun x hx => ht x (List.mem_of_mem_take hx)⟩
theorem kn2 : Kn 2 := .inr (.inl rfl)
theorem c_lawL (t : List Int) (ht : ∀ x ∈ t, i64 x) : ACall Tryz.prog 4 [ints t] [] (boo true) [] := by
  have hN := c_new t
  have hx := tape_of ht
  generalize t.take 2000 = xs at hx hN
  refine enterq mixed ttok Tryz.func4 Tryz.ntmps4 Tryz.results4 ?_
  simp -implicitDefEqProofs only [argT, ↓steps, push_cast, simprocAttr, tte]
  refine callq [[1]] [(1000, 400)] (hN) ?_
  simp -implicitDefEqProofs only [↓steps, push_cast, simprocAttr, tte]
  refine callq [[]] [(1000, 400)] (c_domains (p := 0) hx) ?_
  have hD := domF_ok xs 0
  generalize domF xs 0 = dp at hD ⊢
  obtain ⟨d, p⟩ := dp
  dsimp only at hD ⊢
  have hsm := hD.small
  have htl : (typesM d).length ≤ 1000 := by have := hD.tlen; have := hD.len; omega
  simp -implicitDefEqProofs only [aTab, ↓steps, push_cast, simprocAttr, tte]
  refine callq [[1]] [] (c_types23 d hsm) ?_
  simp -implicitDefEqProofs only [↓steps, push_cast, simprocAttr, tte]
  refine callq [[], [1], [], []] [(1000, 400)] (c_fexprN hx htl 3 3 rfl (by decide) 2 p kn2) ?_
  have hA := made_expr xs (typesM d) 2 2 kn2 p
  generalize exprF xs (typesM d) 3 2 p = ap at hA ⊢
  obtain ⟨a, p⟩ := ap
  dsimp only at hA ⊢
  simp -implicitDefEqProofs only [↓steps, push_cast, simprocAttr, tte]
  refine callq [[], [1], [], []] [(1000, 400)] (c_fexprN hx htl 3 3 rfl (by decide) 2 p kn2) ?_
  have hB := made_expr xs (typesM d) 2 2 kn2 p
  generalize exprF xs (typesM d) 3 2 p = bp at hB ⊢
  obtain ⟨b, p⟩ := bp
  dsimp only at hB ⊢
  simp -implicitDefEqProofs only [↓steps, push_cast, simprocAttr, tte]
  refine callq [[], [1], [], []] [(1000, 400)] (c_fexprN hx htl 2 2 rfl (by decide) 2 p kn2) ?_
  have hC := made_expr xs (typesM d) 1 2 kn2 p
  generalize exprF xs (typesM d) 2 2 p = cp at hC ⊢
  obtain ⟨c, p⟩ := cp
  dsimp only at hC ⊢
  simp -implicitDefEqProofs only [↓steps, push_cast, simprocAttr, tte]
  refine callq [[], [6]] [] (c_do 22 [a, b] (by simp)) ?_ (hargs := by simp [ends, bs, rE_eq, rowsOf_cons, rowsOf_nil])
  have hAnd : Made (typesM d) 4 2 (bin 22 [a, b]) := made_op (l := [2, 2]) (by decide) (by decide) (.cons hA (.cons hB .nil))
  have hOr : Made (typesM d) 4 2 (bin 23 [a, b]) := made_op (l := [2, 2]) (by decide) (by decide) (.cons hA (.cons hB .nil))
  have vA := hA.valid (by decide) hD
  have vB := hB.valid (by decide) hD
  have vC := hC.valid (by decide) hD
  have vAnd := hAnd.valid (by decide) hD
  have vOr := hOr.valid (by decide) hD
  have hAA := c_implies d hsm a a hA.ok12 hA.ok12
  have hAB := c_implies d hsm a b hA.ok12 hB.ok12
  have hBC := c_implies d hsm b c hB.ok12 hC.ok12
  have hAC := c_implies d hsm a c hA.ok12 hC.ok12
  have hCA := c_implies d hsm c a hC.ok12 hA.ok12
  have hCB := c_implies d hsm c b hC.ok12 hB.ok12
  have hCN := c_implies d hsm c _ hC.ok12 hAnd.ok12
  have hAO := c_implies d hsm a _ hA.ok12 hOr.ok12
  have hBO := c_implies d hsm b _ hB.ok12 hOr.ok12
  have hOC := c_implies d hsm _ c hOr.ok12 hC.ok12
  have iAA : (impM d a a).2.1 = true := (imp_iff vA vA).2 fun k _ h => h
  have iAO : (impM d a (bin 23 [a, b])).2.1 = true := (imp_iff vA vOr).2 fun k _ h => (holds_or d a b k).2 (.inl h)
  have iBO : (impM d b (bin 23 [a, b])).2.1 = true := (imp_iff vB vOr).2 fun k _ h => (holds_or d a b k).2 (.inr h)
  have iCN : (impM d c (bin 22 [a, b])).2.1 = ((impM d c a).2.1 && (impM d c b).2.1) := eq_of_iff (by
    rw [Bool.and_eq_true, imp_iff vC vAnd, imp_iff vC vA, imp_iff vC vB]
    exact ⟨fun h => ⟨fun k hk q => ((holds_and d a b k).1 (h k hk q)).1, fun k hk q => ((holds_and d a b k).1 (h k hk q)).2⟩, fun h k hk q => (holds_and d a b k).2 ⟨h.1 k hk q, h.2 k hk q⟩⟩)
  have iOC : (impM d (bin 23 [a, b]) c).2.1 = ((impM d a c).2.1 && (impM d b c).2.1) := eq_of_iff (by
    rw [Bool.and_eq_true, imp_iff vOr vC, imp_iff vA vC, imp_iff vB vC]
    exact ⟨fun h => ⟨fun k hk q => h k hk ((holds_or d a b k).2 (.inl q)), fun k hk q => h k hk ((holds_or d a b k).2 (.inr q))⟩, fun h k hk q => ((holds_or d a b k).1 q).elim (h.1 k hk) (h.2 k hk)⟩)
  have iT : (impM d a b).2.1 = true → (impM d b c).2.1 = true → (impM d a c).2.1 = true := fun h1 h2 => (imp_iff vA vC).2 fun k hk q => (imp_iff vB vC).1 h2 k hk ((imp_iff vA vB).1 h1 k hk q)
  rw [iAA] at hAA
  rw [iAO] at hAO
  rw [iBO] at hBO
  rw [iCN] at hCN
  rw [iOC] at hOC
  have hdo := c_do 23 [a, b] (by simp)
  clear vA vB vC vAnd vOr iAA iAO iBO iCN iOC hAnd hOr hA hB hC
  generalize (impM d a b).2.1 = ab at hAB iT
  generalize (impM d b c).2.1 = bc at hBC iT hOC
  generalize (impM d a c).2.1 = ac at hAC iT hOC
  generalize (impM d c a).2.1 = ca at hCA hCN
  generalize (impM d c b).2.1 = cb at hCB hCN
  generalize bin 22 [a, b] = eN at hCN ⊢
  generalize bin 23 [a, b] = eO at hAO hBO hOC hdo
  rw [aE_eq a, aE_eq b] at hAB
  rw [aE_eq b, aE_eq c] at hBC
  rw [aE_eq a, aE_eq c] at hAC
  rw [aE_eq c, aE_eq a] at hCA
  rw [aE_eq c, aE_eq b] at hCB
  rw [aE_eq c, aE_eq eN] at hCN
  rw [aE_eq a, aE_eq eO] at hAO
  rw [aE_eq b, aE_eq eO] at hBO
  rw [aE_eq eO, aE_eq c] at hOC
  rw [aE_eq a] at hAA
  simp -implicitDefEqProofs only [↓steps, push_cast, simprocAttr, tte]
  refine callq [[], [6]] [] hdo ?_ (hargs := by simp [ends, bs, rE_eq, rowsOf_cons, rowsOf_nil])
  simp -implicitDefEqProofs only [↓steps, push_cast, simprocAttr, tte]
  refine ⟨drawx_intro (by kernel_rfl), ?_⟩
  refine callq [[1], [0, 0, 0, 0, 0, 6], [0, 0, 0, 0, 0, 6]] [] (hAA) ?_
  simp -implicitDefEqProofs only [Bool.true_and, Bool.false_and, Bool.and_true, Bool.and_false, beq_self_eq_true, Bool.not_true, Bool.not_false, ↓steps, push_cast, simprocAttr, tte]
  cases ab
  · have := 0
    refine callq [[1], [0, 0, 0, 0, 0, 6], [0, 0, 0, 0, 0, 6]] [] (hAB) ?_
    simp -implicitDefEqProofs only [Bool.true_and, Bool.false_and, Bool.and_true, Bool.and_false, beq_self_eq_true, Bool.not_true, Bool.not_false, ↓steps, push_cast, simprocAttr, tte]
    refine callq [[1], [0, 0, 0, 0, 0, 6], [0, 0, 0, 0, 0, 6]] [] (hCN) ?_
    simp -implicitDefEqProofs only [Bool.true_and, Bool.false_and, Bool.and_true, Bool.and_false, beq_self_eq_true, Bool.not_true, Bool.not_false, ↓steps, push_cast, simprocAttr, tte]
    cases ca
    · have := 0
      refine callq [[1], [0, 0, 0, 0, 0, 6], [0, 0, 0, 0, 0, 6]] [] (hCA) ?_
      simp -implicitDefEqProofs only [Bool.true_and, Bool.false_and, Bool.and_true, Bool.and_false, beq_self_eq_true, Bool.not_true, Bool.not_false, ↓steps, push_cast, simprocAttr, tte]
      refine callq [[1], [0, 0, 0, 0, 0, 6], [0, 0, 0, 0, 0, 6]] [] (hAO) ?_
      simp -implicitDefEqProofs only [Bool.true_and, Bool.false_and, Bool.and_true, Bool.and_false, beq_self_eq_true, Bool.not_true, Bool.not_false, ↓steps, push_cast, simprocAttr, tte]
      refine callq [[1], [0, 0, 0, 0, 0, 6], [0, 0, 0, 0, 0, 6]] [] (hBO) ?_
      simp -implicitDefEqProofs only [Bool.true_and, Bool.false_and, Bool.and_true, Bool.and_false, beq_self_eq_true, Bool.not_true, Bool.not_false, ↓steps, push_cast, simprocAttr, tte]
      refine callq [[1], [0, 0, 0, 0, 0, 6], [0, 0, 0, 0, 0, 6]] [] (hOC) ?_
      simp -implicitDefEqProofs only [Bool.true_and, Bool.false_and, Bool.and_true, Bool.and_false, beq_self_eq_true, Bool.not_true, Bool.not_false, ↓steps, push_cast, simprocAttr, tte]
      cases ac
      · have := 0
        refine callq [[1], [0, 0, 0, 0, 0, 6], [0, 0, 0, 0, 0, 6]] [] (hAC) ?_
        simp -implicitDefEqProofs only [Bool.true_and, Bool.false_and, Bool.and_true, Bool.and_false, beq_self_eq_true, Bool.not_true, Bool.not_false, ↓steps, push_cast, simprocAttr, tte]
        refine callq [] [] (c_awake) ?_
        simp -implicitDefEqProofs only [Bool.true_and, Bool.false_and, Bool.and_true, Bool.and_false, beq_self_eq_true, Bool.not_true, Bool.not_false, ↓steps, push_cast, simprocAttr, tte]
        exact ⟨drawx_intro (by kernel_rfl), ret_d trivial rfl (by simp [ends])⟩
      · have := 0
        refine callq [[1], [0, 0, 0, 0, 0, 6], [0, 0, 0, 0, 0, 6]] [] (hAC) ?_
        simp -implicitDefEqProofs only [Bool.true_and, Bool.false_and, Bool.and_true, Bool.and_false, beq_self_eq_true, Bool.not_true, Bool.not_false, ↓steps, push_cast, simprocAttr, tte]
        refine callq [[1], [0, 0, 0, 0, 0, 6], [0, 0, 0, 0, 0, 6]] [] (hBC) ?_
        simp -implicitDefEqProofs only [Bool.true_and, Bool.false_and, Bool.and_true, Bool.and_false, beq_self_eq_true, Bool.not_true, Bool.not_false, ↓steps, push_cast, simprocAttr, tte]
        refine callq [] [] (c_awake) ?_
        simp -implicitDefEqProofs only [Bool.true_and, Bool.false_and, Bool.and_true, Bool.and_false, beq_self_eq_true, Bool.not_true, Bool.not_false, ↓steps, push_cast, simprocAttr, tte]
        exact ⟨drawx_intro (by kernel_rfl), ret_d trivial rfl (by simp [ends])⟩
    · have := 0
      refine callq [[1], [0, 0, 0, 0, 0, 6], [0, 0, 0, 0, 0, 6]] [] (hCA) ?_
      simp -implicitDefEqProofs only [Bool.true_and, Bool.false_and, Bool.and_true, Bool.and_false, beq_self_eq_true, Bool.not_true, Bool.not_false, ↓steps, push_cast, simprocAttr, tte]
      refine callq [[1], [0, 0, 0, 0, 0, 6], [0, 0, 0, 0, 0, 6]] [] (hCB) ?_
      simp -implicitDefEqProofs only [Bool.true_and, Bool.false_and, Bool.and_true, Bool.and_false, beq_self_eq_true, Bool.not_true, Bool.not_false, ↓steps, push_cast, simprocAttr, tte]
      refine callq [[1], [0, 0, 0, 0, 0, 6], [0, 0, 0, 0, 0, 6]] [] (hAO) ?_
      simp -implicitDefEqProofs only [Bool.true_and, Bool.false_and, Bool.and_true, Bool.and_false, beq_self_eq_true, Bool.not_true, Bool.not_false, ↓steps, push_cast, simprocAttr, tte]
      refine callq [[1], [0, 0, 0, 0, 0, 6], [0, 0, 0, 0, 0, 6]] [] (hBO) ?_
      simp -implicitDefEqProofs only [Bool.true_and, Bool.false_and, Bool.and_true, Bool.and_false, beq_self_eq_true, Bool.not_true, Bool.not_false, ↓steps, push_cast, simprocAttr, tte]
      refine callq [[1], [0, 0, 0, 0, 0, 6], [0, 0, 0, 0, 0, 6]] [] (hOC) ?_
      simp -implicitDefEqProofs only [Bool.true_and, Bool.false_and, Bool.and_true, Bool.and_false, beq_self_eq_true, Bool.not_true, Bool.not_false, ↓steps, push_cast, simprocAttr, tte]
      cases ac
      · have := 0
        refine callq [[1], [0, 0, 0, 0, 0, 6], [0, 0, 0, 0, 0, 6]] [] (hAC) ?_
        simp -implicitDefEqProofs only [Bool.true_and, Bool.false_and, Bool.and_true, Bool.and_false, beq_self_eq_true, Bool.not_true, Bool.not_false, ↓steps, push_cast, simprocAttr, tte]
        refine callq [] [] (c_awake) ?_
        simp -implicitDefEqProofs only [Bool.true_and, Bool.false_and, Bool.and_true, Bool.and_false, beq_self_eq_true, Bool.not_true, Bool.not_false, ↓steps, push_cast, simprocAttr, tte]
        exact ⟨drawx_intro (by kernel_rfl), ret_d trivial rfl (by simp [ends])⟩
      · have := 0
        refine callq [[1], [0, 0, 0, 0, 0, 6], [0, 0, 0, 0, 0, 6]] [] (hAC) ?_
        simp -implicitDefEqProofs only [Bool.true_and, Bool.false_and, Bool.and_true, Bool.and_false, beq_self_eq_true, Bool.not_true, Bool.not_false, ↓steps, push_cast, simprocAttr, tte]
        refine callq [[1], [0, 0, 0, 0, 0, 6], [0, 0, 0, 0, 0, 6]] [] (hBC) ?_
        simp -implicitDefEqProofs only [Bool.true_and, Bool.false_and, Bool.and_true, Bool.and_false, beq_self_eq_true, Bool.not_true, Bool.not_false, ↓steps, push_cast, simprocAttr, tte]
        refine callq [] [] (c_awake) ?_
        simp -implicitDefEqProofs only [Bool.true_and, Bool.false_and, Bool.and_true, Bool.and_false, beq_self_eq_true, Bool.not_true, Bool.not_false, ↓steps, push_cast, simprocAttr, tte]
        exact ⟨drawx_intro (by kernel_rfl), ret_d trivial rfl (by simp [ends])⟩
  · have := 0
    refine callq [[1], [0, 0, 0, 0, 0, 6], [0, 0, 0, 0, 0, 6]] [] (hAB) ?_
    simp -implicitDefEqProofs only [Bool.true_and, Bool.false_and, Bool.and_true, Bool.and_false, beq_self_eq_true, Bool.not_true, Bool.not_false, ↓steps, push_cast, simprocAttr, tte]
    cases bc
    · have := 0
      refine callq [[1], [0, 0, 0, 0, 0, 6], [0, 0, 0, 0, 0, 6]] [] (hBC) ?_
      simp -implicitDefEqProofs only [Bool.true_and, Bool.false_and, Bool.and_true, Bool.and_false, beq_self_eq_true, Bool.not_true, Bool.not_false, ↓steps, push_cast, simprocAttr, tte]
      refine callq [[1], [0, 0, 0, 0, 0, 6], [0, 0, 0, 0, 0, 6]] [] (hCN) ?_
      simp -implicitDefEqProofs only [Bool.true_and, Bool.false_and, Bool.and_true, Bool.and_false, beq_self_eq_true, Bool.not_true, Bool.not_false, ↓steps, push_cast, simprocAttr, tte]
      cases ca
      · have := 0
        refine callq [[1], [0, 0, 0, 0, 0, 6], [0, 0, 0, 0, 0, 6]] [] (hCA) ?_
        simp -implicitDefEqProofs only [Bool.true_and, Bool.false_and, Bool.and_true, Bool.and_false, beq_self_eq_true, Bool.not_true, Bool.not_false, ↓steps, push_cast, simprocAttr, tte]
        refine callq [[1], [0, 0, 0, 0, 0, 6], [0, 0, 0, 0, 0, 6]] [] (hAO) ?_
        simp -implicitDefEqProofs only [Bool.true_and, Bool.false_and, Bool.and_true, Bool.and_false, beq_self_eq_true, Bool.not_true, Bool.not_false, ↓steps, push_cast, simprocAttr, tte]
        refine callq [[1], [0, 0, 0, 0, 0, 6], [0, 0, 0, 0, 0, 6]] [] (hBO) ?_
        simp -implicitDefEqProofs only [Bool.true_and, Bool.false_and, Bool.and_true, Bool.and_false, beq_self_eq_true, Bool.not_true, Bool.not_false, ↓steps, push_cast, simprocAttr, tte]
        refine callq [[1], [0, 0, 0, 0, 0, 6], [0, 0, 0, 0, 0, 6]] [] (hOC) ?_
        simp -implicitDefEqProofs only [Bool.true_and, Bool.false_and, Bool.and_true, Bool.and_false, beq_self_eq_true, Bool.not_true, Bool.not_false, ↓steps, push_cast, simprocAttr, tte]
        cases ac
        · have := 0
          refine callq [[1], [0, 0, 0, 0, 0, 6], [0, 0, 0, 0, 0, 6]] [] (hAC) ?_
          simp -implicitDefEqProofs only [Bool.true_and, Bool.false_and, Bool.and_true, Bool.and_false, beq_self_eq_true, Bool.not_true, Bool.not_false, ↓steps, push_cast, simprocAttr, tte]
          refine callq [] [] (c_awake) ?_
          simp -implicitDefEqProofs only [Bool.true_and, Bool.false_and, Bool.and_true, Bool.and_false, beq_self_eq_true, Bool.not_true, Bool.not_false, ↓steps, push_cast, simprocAttr, tte]
          exact ⟨drawx_intro (by kernel_rfl), ret_d trivial rfl (by simp [ends])⟩
        · have := 0
          refine callq [[1], [0, 0, 0, 0, 0, 6], [0, 0, 0, 0, 0, 6]] [] (hAC) ?_
          simp -implicitDefEqProofs only [Bool.true_and, Bool.false_and, Bool.and_true, Bool.and_false, beq_self_eq_true, Bool.not_true, Bool.not_false, ↓steps, push_cast, simprocAttr, tte]
          refine callq [[1], [0, 0, 0, 0, 0, 6], [0, 0, 0, 0, 0, 6]] [] (hBC) ?_
          simp -implicitDefEqProofs only [Bool.true_and, Bool.false_and, Bool.and_true, Bool.and_false, beq_self_eq_true, Bool.not_true, Bool.not_false, ↓steps, push_cast, simprocAttr, tte]
          refine callq [] [] (c_awake) ?_
          simp -implicitDefEqProofs only [Bool.true_and, Bool.false_and, Bool.and_true, Bool.and_false, beq_self_eq_true, Bool.not_true, Bool.not_false, ↓steps, push_cast, simprocAttr, tte]
          exact ⟨drawx_intro (by kernel_rfl), ret_d trivial rfl (by simp [ends])⟩
      · have := 0
        refine callq [[1], [0, 0, 0, 0, 0, 6], [0, 0, 0, 0, 0, 6]] [] (hCA) ?_
        simp -implicitDefEqProofs only [Bool.true_and, Bool.false_and, Bool.and_true, Bool.and_false, beq_self_eq_true, Bool.not_true, Bool.not_false, ↓steps, push_cast, simprocAttr, tte]
        refine callq [[1], [0, 0, 0, 0, 0, 6], [0, 0, 0, 0, 0, 6]] [] (hCB) ?_
        simp -implicitDefEqProofs only [Bool.true_and, Bool.false_and, Bool.and_true, Bool.and_false, beq_self_eq_true, Bool.not_true, Bool.not_false, ↓steps, push_cast, simprocAttr, tte]
        refine callq [[1], [0, 0, 0, 0, 0, 6], [0, 0, 0, 0, 0, 6]] [] (hAO) ?_
        simp -implicitDefEqProofs only [Bool.true_and, Bool.false_and, Bool.and_true, Bool.and_false, beq_self_eq_true, Bool.not_true, Bool.not_false, ↓steps, push_cast, simprocAttr, tte]
        refine callq [[1], [0, 0, 0, 0, 0, 6], [0, 0, 0, 0, 0, 6]] [] (hBO) ?_
        simp -implicitDefEqProofs only [Bool.true_and, Bool.false_and, Bool.and_true, Bool.and_false, beq_self_eq_true, Bool.not_true, Bool.not_false, ↓steps, push_cast, simprocAttr, tte]
        refine callq [[1], [0, 0, 0, 0, 0, 6], [0, 0, 0, 0, 0, 6]] [] (hOC) ?_
        simp -implicitDefEqProofs only [Bool.true_and, Bool.false_and, Bool.and_true, Bool.and_false, beq_self_eq_true, Bool.not_true, Bool.not_false, ↓steps, push_cast, simprocAttr, tte]
        cases ac
        · have := 0
          refine callq [[1], [0, 0, 0, 0, 0, 6], [0, 0, 0, 0, 0, 6]] [] (hAC) ?_
          simp -implicitDefEqProofs only [Bool.true_and, Bool.false_and, Bool.and_true, Bool.and_false, beq_self_eq_true, Bool.not_true, Bool.not_false, ↓steps, push_cast, simprocAttr, tte]
          refine callq [] [] (c_awake) ?_
          simp -implicitDefEqProofs only [Bool.true_and, Bool.false_and, Bool.and_true, Bool.and_false, beq_self_eq_true, Bool.not_true, Bool.not_false, ↓steps, push_cast, simprocAttr, tte]
          exact ⟨drawx_intro (by kernel_rfl), ret_d trivial rfl (by simp [ends])⟩
        · have := 0
          refine callq [[1], [0, 0, 0, 0, 0, 6], [0, 0, 0, 0, 0, 6]] [] (hAC) ?_
          simp -implicitDefEqProofs only [Bool.true_and, Bool.false_and, Bool.and_true, Bool.and_false, beq_self_eq_true, Bool.not_true, Bool.not_false, ↓steps, push_cast, simprocAttr, tte]
          refine callq [[1], [0, 0, 0, 0, 0, 6], [0, 0, 0, 0, 0, 6]] [] (hBC) ?_
          simp -implicitDefEqProofs only [Bool.true_and, Bool.false_and, Bool.and_true, Bool.and_false, beq_self_eq_true, Bool.not_true, Bool.not_false, ↓steps, push_cast, simprocAttr, tte]
          refine callq [] [] (c_awake) ?_
          simp -implicitDefEqProofs only [Bool.true_and, Bool.false_and, Bool.and_true, Bool.and_false, beq_self_eq_true, Bool.not_true, Bool.not_false, ↓steps, push_cast, simprocAttr, tte]
          exact ⟨drawx_intro (by kernel_rfl), ret_d trivial rfl (by simp [ends])⟩
    · have := 0
      refine callq [[1], [0, 0, 0, 0, 0, 6], [0, 0, 0, 0, 0, 6]] [] (hBC) ?_
      simp -implicitDefEqProofs only [Bool.true_and, Bool.false_and, Bool.and_true, Bool.and_false, beq_self_eq_true, Bool.not_true, Bool.not_false, ↓steps, push_cast, simprocAttr, tte]
      have iac := iT rfl rfl
      subst iac
      refine callq [[1], [0, 0, 0, 0, 0, 6], [0, 0, 0, 0, 0, 6]] [] (hAC) ?_
      simp -implicitDefEqProofs only [Bool.true_and, Bool.false_and, Bool.and_true, Bool.and_false, beq_self_eq_true, Bool.not_true, Bool.not_false, ↓steps, push_cast, simprocAttr, tte]
      refine callq [[1], [0, 0, 0, 0, 0, 6], [0, 0, 0, 0, 0, 6]] [] (hCN) ?_
      simp -implicitDefEqProofs only [Bool.true_and, Bool.false_and, Bool.and_true, Bool.and_false, beq_self_eq_true, Bool.not_true, Bool.not_false, ↓steps, push_cast, simprocAttr, tte]
      cases ca
      · have := 0
        refine callq [[1], [0, 0, 0, 0, 0, 6], [0, 0, 0, 0, 0, 6]] [] (hCA) ?_
        simp -implicitDefEqProofs only [Bool.true_and, Bool.false_and, Bool.and_true, Bool.and_false, beq_self_eq_true, Bool.not_true, Bool.not_false, ↓steps, push_cast, simprocAttr, tte]
        refine callq [[1], [0, 0, 0, 0, 0, 6], [0, 0, 0, 0, 0, 6]] [] (hAO) ?_
        simp -implicitDefEqProofs only [Bool.true_and, Bool.false_and, Bool.and_true, Bool.and_false, beq_self_eq_true, Bool.not_true, Bool.not_false, ↓steps, push_cast, simprocAttr, tte]
        refine callq [[1], [0, 0, 0, 0, 0, 6], [0, 0, 0, 0, 0, 6]] [] (hBO) ?_
        simp -implicitDefEqProofs only [Bool.true_and, Bool.false_and, Bool.and_true, Bool.and_false, beq_self_eq_true, Bool.not_true, Bool.not_false, ↓steps, push_cast, simprocAttr, tte]
        refine callq [[1], [0, 0, 0, 0, 0, 6], [0, 0, 0, 0, 0, 6]] [] (hOC) ?_
        simp -implicitDefEqProofs only [Bool.true_and, Bool.false_and, Bool.and_true, Bool.and_false, beq_self_eq_true, Bool.not_true, Bool.not_false, ↓steps, push_cast, simprocAttr, tte]
        refine callq [[1], [0, 0, 0, 0, 0, 6], [0, 0, 0, 0, 0, 6]] [] (hAC) ?_
        simp -implicitDefEqProofs only [Bool.true_and, Bool.false_and, Bool.and_true, Bool.and_false, beq_self_eq_true, Bool.not_true, Bool.not_false, ↓steps, push_cast, simprocAttr, tte]
        refine callq [[1], [0, 0, 0, 0, 0, 6], [0, 0, 0, 0, 0, 6]] [] (hBC) ?_
        simp -implicitDefEqProofs only [Bool.true_and, Bool.false_and, Bool.and_true, Bool.and_false, beq_self_eq_true, Bool.not_true, Bool.not_false, ↓steps, push_cast, simprocAttr, tte]
        refine callq [] [] (c_awake) ?_
        simp -implicitDefEqProofs only [Bool.true_and, Bool.false_and, Bool.and_true, Bool.and_false, beq_self_eq_true, Bool.not_true, Bool.not_false, ↓steps, push_cast, simprocAttr, tte]
        exact ⟨drawx_intro (by kernel_rfl), ret_d trivial rfl (by simp [ends])⟩
      · have := 0
        refine callq [[1], [0, 0, 0, 0, 0, 6], [0, 0, 0, 0, 0, 6]] [] (hCA) ?_
        simp -implicitDefEqProofs only [Bool.true_and, Bool.false_and, Bool.and_true, Bool.and_false, beq_self_eq_true, Bool.not_true, Bool.not_false, ↓steps, push_cast, simprocAttr, tte]
        refine callq [[1], [0, 0, 0, 0, 0, 6], [0, 0, 0, 0, 0, 6]] [] (hCB) ?_
        simp -implicitDefEqProofs only [Bool.true_and, Bool.false_and, Bool.and_true, Bool.and_false, beq_self_eq_true, Bool.not_true, Bool.not_false, ↓steps, push_cast, simprocAttr, tte]
        refine callq [[1], [0, 0, 0, 0, 0, 6], [0, 0, 0, 0, 0, 6]] [] (hAO) ?_
        simp -implicitDefEqProofs only [Bool.true_and, Bool.false_and, Bool.and_true, Bool.and_false, beq_self_eq_true, Bool.not_true, Bool.not_false, ↓steps, push_cast, simprocAttr, tte]
        refine callq [[1], [0, 0, 0, 0, 0, 6], [0, 0, 0, 0, 0, 6]] [] (hBO) ?_
        simp -implicitDefEqProofs only [Bool.true_and, Bool.false_and, Bool.and_true, Bool.and_false, beq_self_eq_true, Bool.not_true, Bool.not_false, ↓steps, push_cast, simprocAttr, tte]
        refine callq [[1], [0, 0, 0, 0, 0, 6], [0, 0, 0, 0, 0, 6]] [] (hOC) ?_
        simp -implicitDefEqProofs only [Bool.true_and, Bool.false_and, Bool.and_true, Bool.and_false, beq_self_eq_true, Bool.not_true, Bool.not_false, ↓steps, push_cast, simprocAttr, tte]
        refine callq [[1], [0, 0, 0, 0, 0, 6], [0, 0, 0, 0, 0, 6]] [] (hAC) ?_
        simp -implicitDefEqProofs only [Bool.true_and, Bool.false_and, Bool.and_true, Bool.and_false, beq_self_eq_true, Bool.not_true, Bool.not_false, ↓steps, push_cast, simprocAttr, tte]
        refine callq [[1], [0, 0, 0, 0, 0, 6], [0, 0, 0, 0, 0, 6]] [] (hBC) ?_
        simp -implicitDefEqProofs only [Bool.true_and, Bool.false_and, Bool.and_true, Bool.and_false, beq_self_eq_true, Bool.not_true, Bool.not_false, ↓steps, push_cast, simprocAttr, tte]
        refine callq [] [] (c_awake) ?_
        simp -implicitDefEqProofs only [Bool.true_and, Bool.false_and, Bool.and_true, Bool.and_false, beq_self_eq_true, Bool.not_true, Bool.not_false, ↓steps, push_cast, simprocAttr, tte]
        exact ⟨drawx_intro (by kernel_rfl), ret_d trivial rfl (by simp [ends])⟩
end Go.Proofs.YtiagabnddihchaaGreatDoor
