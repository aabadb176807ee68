/- Conditions over finite domains (part Wc) -/
import Derived.Test.YtiagabnddihchaaGreatDoorWb
set_option linter.all false
namespace Go.Proofs.YtiagabnddihchaaGreatDoor
open Go.Am
attribute [local simp, local push_cast] num boo str ints aV aTab aInst aS aT aC found pairA aFk vT rTab rRow
set_option linter.unusedVariables false
set_option maxRecDepth 100000
set_option maxHeartbeats 4000000
structure SmallI (i : Inst) : Prop where
  len : i.length ≤ 1000
  tab : ∀ l ∈ i, l.length ≤ 1000
  row : ∀ l ∈ i, ∀ r ∈ l, r.length ≤ 1000
end Go.Proofs.YtiagabnddihchaaGreatDoor
namespace Go.Proofs.YtiagabnddihchaaGreatDoor
open Go.Am
attribute [local simp, local push_cast] num boo str ints aV aTab aInst aS aT aC found pairA aFk vT
set_option linter.unusedVariables false
set_option maxRecDepth 100000
set_option maxHeartbeats 4000000
def kidsR (op n : Int) : Bool :=
  if op ≤ 5 then n == 0 else if (((op == 11 || op == 13) || op == 21) || op == 24) || op == 25 then n == 1
  else if op == 26 then n == 3 else if op == 28 then decide (n ≥ 2) else n == 2
theorem c_rkids (op n : Int) : ACall Tryz.prog 63 [num op, num n] [] (boo (kidsR op n)) [] := by
  refine enterq mixed ttok Tryz.func63 Tryz.ntmps63 Tryz.results63 ?_
  generalize hr : boo (kidsR op n) = R
  simp -implicitDefEqProofs only [argT, ↓steps, push_cast, simprocAttr, tte]
  refine bcase_intro (fun h1 => ?_) fun h1 => ?_
  · exact ret_d trivial (by rw [← hr, kidsR, if_pos (of_decide_eq_true h1)]; rfl) (by simp [ends])
  have hk : kidsR op n = if (((op == 11 || op == 13) || op == 21) || op == 24) || op == 25 then n == 1 else if op == 26 then n == 3 else if op == 28 then decide (n ≥ 2) else n == 2 := if_neg (of_decide_eq_false h1)
  repeat' first
    | exact ret_d trivial (by rw [← hr, hk]; simp only [*, Bool.true_or, Bool.or_true, Bool.or_false, Bool.false_or, Bool.false_eq_true, if_true, if_false, boo]) (by simp [ends])
    | (refine bcase_intro (fun _ => ?_) fun _ => ?_)
theorem op_cases {op : Int} (h : isOp op = true) : ∃ n : Nat, n < 29 ∧ 1 ≤ n ∧ op = n := by
  simp only [isOp, Bool.and_eq_true, decide_eq_true_eq] at h
  exact ⟨op.toNat, by omega, by omega, by omega⟩
set_option synthInstance.maxSize 4000 in
set_option synthInstance.maxHeartbeats 400000 in
theorem kids_tab0 : ∀ n ∈ List.range 29, n = 0 ∨ (n = 1 ∨ n = 2 ∨ n = 3 ∨ n = 4 ∨ n = 5) ∧ (opTab.getD n default).kids = 0 ∨ (n = 11 ∨ n = 13 ∨ n = 21 ∨ n = 24 ∨ n = 25) ∧ (opTab.getD n default).kids = 1 ∨
    n = 26 ∧ (opTab.getD n default).kids = 3 ∨ n = 28 ∧ (opTab.getD n default).kids = 2 ∨
    (n = 6 ∨ n = 7 ∨ n = 8 ∨ n = 9 ∨ n = 10 ∨ n = 12 ∨ n = 14 ∨ n = 15 ∨ n = 16 ∨ n = 17 ∨ n = 18 ∨ n = 19 ∨ n = 20 ∨ n = 22 ∨ n = 23 ∨ n = 27) ∧ (opTab.getD n default).kids = 2 := by decide
theorem kids_tab (n : Nat) (h1 : n < 29) (h2 : 1 ≤ n) : (((n : Int) ≤ 5 ↔ (opTab.getD n default).kids = 0) ∧ (((((n : Int) = 11 ∨ (n : Int) = 13) ∨ (n : Int) = 21) ∨ (n : Int) = 24) ∨ (n : Int) = 25 ↔ (opTab.getD n default).kids = 1) ∧
    ((n : Int) = 26 ↔ (opTab.getD n default).kids = 3) ∧ ((opTab.getD n default).kids = 0 ∨ (opTab.getD n default).kids = 1 ∨ (opTab.getD n default).kids = 2 ∨ (opTab.getD n default).kids = 3) ∧
    ((n : Int) = 28 → (opTab.getD n default).kids = 2)) := by
  have := kids_tab0 n (by simpa using h1)
  generalize (opTab.getD n default).kids = k at this
  omega
theorem kids_count {e : Ex} (h : isOp e.op = true) : kidsR e.op e.kids.length = countM e := by
  obtain ⟨n, h1, h2, h3⟩ := op_cases h
  have hf : (findM e.op).kids = (opTab.getD n default).kids := by rw [findM, h, if_pos rfl, opAt, h3, Int.toNat_natCast]
  obtain ⟨a1, a2, a3, a4, a5⟩ := kids_tab n h1 h2
  rw [countM, h, hf, Bool.true_and, kidsR, h3]
  generalize (opTab.getD n default).kids = k at a1 a2 a3 a4 a5
  generalize e.kids.length = m
  rw [Bool.eq_iff_iff]
  simp only [Bool.or_eq_true, Bool.and_eq_true, beq_iff_eq, decide_eq_true_eq]
  by_cases b1 : (n : Int) ≤ 5
  · rw [if_pos b1]; simp only [beq_iff_eq]; have := a1.1 b1; omega
  · rw [if_neg b1]
    by_cases b2 : ((((n : Int) = 11 ∨ (n : Int) = 13) ∨ (n : Int) = 21) ∨ (n : Int) = 24) ∨ (n : Int) = 25
    · rw [if_pos b2]; simp only [beq_iff_eq]; have := a2.1 b2; omega
    · rw [if_neg b2]
      by_cases b3 : (n : Int) = 26
      · rw [if_pos b3]; simp only [beq_iff_eq]; have := a3.1 b3; omega
      · rw [if_neg b3]
        have c1 : ¬ k = 0 := fun e => b1 (a1.2 e)
        have c2 : ¬ k = 1 := fun e => b2 (a2.2 e)
        have c3 : ¬ k = 3 := fun e => b3 (a3.2 e)
        by_cases b4 : (n : Int) = 28
        · rw [if_pos b4]; simp only [decide_eq_true_eq]; have := a5 b4; omega
        · rw [if_neg b4]; simp only [beq_iff_eq]; omega
end Go.Proofs.YtiagabnddihchaaGreatDoor
namespace Go.Proofs.YtiagabnddihchaaGreatDoor
open Go.Am
attribute [local simp, local push_cast] num boo str ints aV aTab aInst aS aT aC found pairA aFk vT
set_option linter.unusedVariables false
set_option maxRecDepth 100000
set_option maxHeartbeats 4000000
end Go.Proofs.YtiagabnddihchaaGreatDoor
namespace Go.Proofs.YtiagabnddihchaaGreatDoor
open Go.Am
attribute [local simp, local push_cast] num boo str ints aV aTab aInst aS aT aC found pairA aFk vT
set_option linter.unusedVariables false
set_option maxRecDepth 100000
set_option maxHeartbeats 4000000
end Go.Proofs.YtiagabnddihchaaGreatDoor
namespace Go.Proofs.YtiagabnddihchaaGreatDoor
open Go.Am
attribute [local simp, local push_cast] num boo str ints aV aTab aInst aS aT aC found pairA aFk vT
set_option linter.unusedVariables false
set_option maxRecDepth 100000
set_option maxHeartbeats 4000000
end Go.Proofs.YtiagabnddihchaaGreatDoor
