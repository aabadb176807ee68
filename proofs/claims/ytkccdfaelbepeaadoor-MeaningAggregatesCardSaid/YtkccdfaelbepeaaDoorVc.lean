/- Any aggregate over any rows is what the specification says: a proof over an abstract machine of our own (part Vc) -/
import Derived.Test.YtkccdfaelbepeaaDoorVb
import Derived.Test.YtkccdfaelbepeaaDoorVa
import Derived.Test.YtkccdfaelbepeaaDoorLd
set_option linter.all false

namespace Go.Proofs.YtkccdfaelbepeaaDoor
open Go.Am
set_option linter.unusedVariables false
set_option maxRecDepth 100000
set_option maxHeartbeats 4000000

def aRow (l : List Val) : A := .d (.sl 3 (rowsOf rV l))
def inM (v : Val) : Val → List Val → Val
  | out, [] => out
  | out, x :: l => inM v (orM out (equalM v x)) l
/-- What an operation makes of the values of its operands. -/
def applyM (op : Int) (l : List Val) : Val :=
  if op = 6 ∨ op = 7 ∨ op = 8 ∨ op = 9 ∨ op = 10 ∨ op = 12 then arithM op (l.getD 0 default) (l.getD 1 default)
  else if op = 11 then arithM 7 ⟨1, 0, ByteArray.empty⟩ (l.getD 0 default)
  else if op = 13 then (if (l.getD 0 default).kind = 3 then ⟨1, (l.getD 0 default).text.size, ByteArray.empty⟩ else nullV)
  else if op = 14 then equalM (l.getD 0 default) (l.getD 1 default)
  else if op = 15 then notM (equalM (l.getD 0 default) (l.getD 1 default))
  else if op = 16 then lessM (l.getD 0 default) (l.getD 1 default)
  else if op = 17 then notM (lessM (l.getD 1 default) (l.getD 0 default))
  else if op = 18 then lessM (l.getD 1 default) (l.getD 0 default)
  else if op = 19 then notM (lessM (l.getD 0 default) (l.getD 1 default))
  else if op = 20 then ofV (sameM (l.getD 0 default) (l.getD 1 default))
  else if op = 21 then ofV ((l.getD 0 default).kind == 0)
  else if op = 22 then andM (l.getD 0 default) (l.getD 1 default)
  else if op = 23 then orM (l.getD 0 default) (l.getD 1 default)
  else if op = 24 then notM (l.getD 0 default)
  else if op = 25 then ofV (truthM (l.getD 0 default) == 1)
  else if op = 27 then (if (l.getD 0 default).kind = 0 then l.getD 1 default else l.getD 0 default)
  else if op = 28 then inM (l.getD 0 default) (ofV false) (l.drop 1)
  else nullV
theorem inM_snoc (v : Val) : ∀ (r : List Val) (out x : Val), inM v out (r ++ [x]) = orM (inM v out r) (equalM v x)
  | [], out, x => rfl
  | y :: r, out, x => by simp only [List.cons_append, inM, inM_snoc v r]
theorem c_bool0 : ACall Tryd.prog 92 [num 0] [] (aV (ofV false)) [] := by
  have : boolV 0 = ofV false := by simp [boolV, ofV]
  rw [← this]; exact c_bool 0
theorem len2 {n : Nat} (h : (n : Int) = 2) : 2 ≤ n := by omega
theorem len1 {n : Nat} (h : (n : Int) = 1) : 1 ≤ n := by omega

theorem c_apply (op : Int) (l : List Val) (hk : kidsR op l.length = true) (hll : l.length ≤ 1000) : ACall Tryd.prog 42 [num op, aRow l] [] (aV (applyM op l)) [] := by
  refine ACall.enter mixed ttok Tryd.func42 rfl rfl _ Tryd.ntmps42 (Nat.le_of_ble_eq_true rfl) (by kernel_rfl) _ (congrArg Array.toList Tryd.results42) ?_
  generalize hr : aV (applyM op l) = R
  simp -implicitDefEqProofs only [argT, tabN, ↓steps, push_cast, reduceIte, Nat.reduceEqDiff, Nat.reduceAdd, Nat.reduceMul, Nat.reduceLT, Nat.reduceLeDiff, Int.reduceToNat, Int.reduceLE, Int.reduceLT, reduceCtorEq, tte, num, boo, str, ints, aV, aTab, aInst, aS, aT, aC, aRow]
  refine bcase_intro (fun h6 => ?_) fun h6 => ?_
  · have e : op = 6 := by simpa using h6
    subst e
    have hl : 2 ≤ l.length := len2 (by simpa [kidsR] using hk)
    refine bcase_intro (fun _ => ?_) (fun h => absurd h (by decide))
    refine ⟨by omega, by omega, ?_⟩
    refine callx_of [[0], [0, 0, 0], [0, 0, 0]] [] rfl (c_arith 6 (l.getD 0 default) (l.getD 1 default)) (by first | (simp; done) | (simp [rowsOf_length]; done) | (simp [rowsOf_length]; omega)) (by first | (simp only [ends, ite_true, ite_false, reduceIte, Nat.reduceEqDiff, Nat.reduceLeDiff, Nat.reduceLT, Nat.reduceAdd, reduceCtorEq, num, boo, str, ints, aV, aTab, aInst, aS, aT, aC, aRow, num, boo, str, aE_eq, aV]; done) | simp [ends, ite_true, ite_false, reduceIte, Nat.reduceEqDiff, Nat.reduceLeDiff, Nat.reduceLT, Nat.reduceAdd, reduceCtorEq, num, boo, str, ints, aV, aTab, aInst, aS, aT, aC, aRow, num, boo, str, aE_eq, aV]) (by first | rfl | (simp only [ends, ite_true, ite_false, reduceIte, Nat.reduceEqDiff, Nat.reduceLeDiff, Nat.reduceLT, Nat.reduceAdd, reduceCtorEq, num, boo, str, ints, aV, aTab, aInst, aS, aT, aC, aRow, num, boo, str, aE_eq, aV]; done) | simp [ends, ite_true, ite_false, reduceIte, Nat.reduceEqDiff, Nat.reduceLeDiff, Nat.reduceLT, Nat.reduceAdd, reduceCtorEq, num, boo, str, ints, aV, aTab, aInst, aS, aT, aC, aRow, num, boo, str, aE_eq, aV]) (by simp only [ends, ite_true, ite_false, reduceIte, Nat.reduceEqDiff, Nat.reduceLeDiff, Nat.reduceLT, Nat.reduceAdd, reduceCtorEq, num, boo, str, ints, aV, aTab, aInst, aS, aT, aC, aRow]) (by simp [idsOk, lookO, updO, ren1]) ?_
    simp -implicitDefEqProofs only [tabN, aV, ↓steps, push_cast, reduceIte, Nat.reduceEqDiff, Nat.reduceAdd, Nat.reduceMul, Nat.reduceLT, Nat.reduceLeDiff, Int.reduceToNat, Int.reduceLE, Int.reduceLT, reduceCtorEq, tte, num, boo, str, ints, aV, aTab, aInst, aS, aT, aC, aRow]
    refine ⟨drawx_intro (by kernel_rfl), ?_⟩
    exact ret_v (by first | trivial | (simp; done) | (simp; omega)) (by rw [← hr] <;> first | rfl | (simp [applyM]; done) | (simp_all [applyM]; done)) (by simp only [ends, ite_true, ite_false, reduceIte, Nat.reduceEqDiff, Nat.reduceLeDiff, Nat.reduceLT, Nat.reduceAdd, reduceCtorEq, num, boo, str, ints, aV, aTab, aInst, aS, aT, aC, aRow])
  refine bcase_intro (fun h7 => ?_) fun h7 => ?_
  · have e : op = 7 := by simpa using h7
    subst e
    have hl : 2 ≤ l.length := len2 (by simpa [kidsR] using hk)
    refine bcase_intro (fun _ => ?_) (fun h => absurd h (by decide))
    refine ⟨by omega, by omega, ?_⟩
    refine callx_of [[0], [0, 0, 0], [0, 0, 0]] [] rfl (c_arith 7 (l.getD 0 default) (l.getD 1 default)) (by first | (simp; done) | (simp [rowsOf_length]; done) | (simp [rowsOf_length]; omega)) (by first | (simp only [ends, ite_true, ite_false, reduceIte, Nat.reduceEqDiff, Nat.reduceLeDiff, Nat.reduceLT, Nat.reduceAdd, reduceCtorEq, num, boo, str, ints, aV, aTab, aInst, aS, aT, aC, aRow, num, boo, str, aE_eq, aV]; done) | simp [ends, ite_true, ite_false, reduceIte, Nat.reduceEqDiff, Nat.reduceLeDiff, Nat.reduceLT, Nat.reduceAdd, reduceCtorEq, num, boo, str, ints, aV, aTab, aInst, aS, aT, aC, aRow, num, boo, str, aE_eq, aV]) (by first | rfl | (simp only [ends, ite_true, ite_false, reduceIte, Nat.reduceEqDiff, Nat.reduceLeDiff, Nat.reduceLT, Nat.reduceAdd, reduceCtorEq, num, boo, str, ints, aV, aTab, aInst, aS, aT, aC, aRow, num, boo, str, aE_eq, aV]; done) | simp [ends, ite_true, ite_false, reduceIte, Nat.reduceEqDiff, Nat.reduceLeDiff, Nat.reduceLT, Nat.reduceAdd, reduceCtorEq, num, boo, str, ints, aV, aTab, aInst, aS, aT, aC, aRow, num, boo, str, aE_eq, aV]) (by simp only [ends, ite_true, ite_false, reduceIte, Nat.reduceEqDiff, Nat.reduceLeDiff, Nat.reduceLT, Nat.reduceAdd, reduceCtorEq, num, boo, str, ints, aV, aTab, aInst, aS, aT, aC, aRow]) (by simp [idsOk, lookO, updO, ren1]) ?_
    simp -implicitDefEqProofs only [tabN, aV, ↓steps, push_cast, reduceIte, Nat.reduceEqDiff, Nat.reduceAdd, Nat.reduceMul, Nat.reduceLT, Nat.reduceLeDiff, Int.reduceToNat, Int.reduceLE, Int.reduceLT, reduceCtorEq, tte, num, boo, str, ints, aV, aTab, aInst, aS, aT, aC, aRow]
    refine ⟨drawx_intro (by kernel_rfl), ?_⟩
    exact ret_v (by first | trivial | (simp; done) | (simp; omega)) (by rw [← hr] <;> first | rfl | (simp [applyM]; done) | (simp_all [applyM]; done)) (by simp only [ends, ite_true, ite_false, reduceIte, Nat.reduceEqDiff, Nat.reduceLeDiff, Nat.reduceLT, Nat.reduceAdd, reduceCtorEq, num, boo, str, ints, aV, aTab, aInst, aS, aT, aC, aRow])
  refine bcase_intro (fun h8 => ?_) fun h8 => ?_
  · have e : op = 8 := by simpa using h8
    subst e
    have hl : 2 ≤ l.length := len2 (by simpa [kidsR] using hk)
    refine bcase_intro (fun _ => ?_) (fun h => absurd h (by decide))
    refine ⟨by omega, by omega, ?_⟩
    refine callx_of [[0], [0, 0, 0], [0, 0, 0]] [] rfl (c_arith 8 (l.getD 0 default) (l.getD 1 default)) (by first | (simp; done) | (simp [rowsOf_length]; done) | (simp [rowsOf_length]; omega)) (by first | (simp only [ends, ite_true, ite_false, reduceIte, Nat.reduceEqDiff, Nat.reduceLeDiff, Nat.reduceLT, Nat.reduceAdd, reduceCtorEq, num, boo, str, ints, aV, aTab, aInst, aS, aT, aC, aRow, num, boo, str, aE_eq, aV]; done) | simp [ends, ite_true, ite_false, reduceIte, Nat.reduceEqDiff, Nat.reduceLeDiff, Nat.reduceLT, Nat.reduceAdd, reduceCtorEq, num, boo, str, ints, aV, aTab, aInst, aS, aT, aC, aRow, num, boo, str, aE_eq, aV]) (by first | rfl | (simp only [ends, ite_true, ite_false, reduceIte, Nat.reduceEqDiff, Nat.reduceLeDiff, Nat.reduceLT, Nat.reduceAdd, reduceCtorEq, num, boo, str, ints, aV, aTab, aInst, aS, aT, aC, aRow, num, boo, str, aE_eq, aV]; done) | simp [ends, ite_true, ite_false, reduceIte, Nat.reduceEqDiff, Nat.reduceLeDiff, Nat.reduceLT, Nat.reduceAdd, reduceCtorEq, num, boo, str, ints, aV, aTab, aInst, aS, aT, aC, aRow, num, boo, str, aE_eq, aV]) (by simp only [ends, ite_true, ite_false, reduceIte, Nat.reduceEqDiff, Nat.reduceLeDiff, Nat.reduceLT, Nat.reduceAdd, reduceCtorEq, num, boo, str, ints, aV, aTab, aInst, aS, aT, aC, aRow]) (by simp [idsOk, lookO, updO, ren1]) ?_
    simp -implicitDefEqProofs only [tabN, aV, ↓steps, push_cast, reduceIte, Nat.reduceEqDiff, Nat.reduceAdd, Nat.reduceMul, Nat.reduceLT, Nat.reduceLeDiff, Int.reduceToNat, Int.reduceLE, Int.reduceLT, reduceCtorEq, tte, num, boo, str, ints, aV, aTab, aInst, aS, aT, aC, aRow]
    refine ⟨drawx_intro (by kernel_rfl), ?_⟩
    exact ret_v (by first | trivial | (simp; done) | (simp; omega)) (by rw [← hr] <;> first | rfl | (simp [applyM]; done) | (simp_all [applyM]; done)) (by simp only [ends, ite_true, ite_false, reduceIte, Nat.reduceEqDiff, Nat.reduceLeDiff, Nat.reduceLT, Nat.reduceAdd, reduceCtorEq, num, boo, str, ints, aV, aTab, aInst, aS, aT, aC, aRow])
  refine bcase_intro (fun h9 => ?_) fun h9 => ?_
  · have e : op = 9 := by simpa using h9
    subst e
    have hl : 2 ≤ l.length := len2 (by simpa [kidsR] using hk)
    refine bcase_intro (fun _ => ?_) (fun h => absurd h (by decide))
    refine ⟨by omega, by omega, ?_⟩
    refine callx_of [[0], [0, 0, 0], [0, 0, 0]] [] rfl (c_arith 9 (l.getD 0 default) (l.getD 1 default)) (by first | (simp; done) | (simp [rowsOf_length]; done) | (simp [rowsOf_length]; omega)) (by first | (simp only [ends, ite_true, ite_false, reduceIte, Nat.reduceEqDiff, Nat.reduceLeDiff, Nat.reduceLT, Nat.reduceAdd, reduceCtorEq, num, boo, str, ints, aV, aTab, aInst, aS, aT, aC, aRow, num, boo, str, aE_eq, aV]; done) | simp [ends, ite_true, ite_false, reduceIte, Nat.reduceEqDiff, Nat.reduceLeDiff, Nat.reduceLT, Nat.reduceAdd, reduceCtorEq, num, boo, str, ints, aV, aTab, aInst, aS, aT, aC, aRow, num, boo, str, aE_eq, aV]) (by first | rfl | (simp only [ends, ite_true, ite_false, reduceIte, Nat.reduceEqDiff, Nat.reduceLeDiff, Nat.reduceLT, Nat.reduceAdd, reduceCtorEq, num, boo, str, ints, aV, aTab, aInst, aS, aT, aC, aRow, num, boo, str, aE_eq, aV]; done) | simp [ends, ite_true, ite_false, reduceIte, Nat.reduceEqDiff, Nat.reduceLeDiff, Nat.reduceLT, Nat.reduceAdd, reduceCtorEq, num, boo, str, ints, aV, aTab, aInst, aS, aT, aC, aRow, num, boo, str, aE_eq, aV]) (by simp only [ends, ite_true, ite_false, reduceIte, Nat.reduceEqDiff, Nat.reduceLeDiff, Nat.reduceLT, Nat.reduceAdd, reduceCtorEq, num, boo, str, ints, aV, aTab, aInst, aS, aT, aC, aRow]) (by simp [idsOk, lookO, updO, ren1]) ?_
    simp -implicitDefEqProofs only [tabN, aV, ↓steps, push_cast, reduceIte, Nat.reduceEqDiff, Nat.reduceAdd, Nat.reduceMul, Nat.reduceLT, Nat.reduceLeDiff, Int.reduceToNat, Int.reduceLE, Int.reduceLT, reduceCtorEq, tte, num, boo, str, ints, aV, aTab, aInst, aS, aT, aC, aRow]
    refine ⟨drawx_intro (by kernel_rfl), ?_⟩
    exact ret_v (by first | trivial | (simp; done) | (simp; omega)) (by rw [← hr] <;> first | rfl | (simp [applyM]; done) | (simp_all [applyM]; done)) (by simp only [ends, ite_true, ite_false, reduceIte, Nat.reduceEqDiff, Nat.reduceLeDiff, Nat.reduceLT, Nat.reduceAdd, reduceCtorEq, num, boo, str, ints, aV, aTab, aInst, aS, aT, aC, aRow])
  refine bcase_intro (fun h10 => ?_) fun h10 => ?_
  · have e : op = 10 := by simpa using h10
    subst e
    have hl : 2 ≤ l.length := len2 (by simpa [kidsR] using hk)
    refine bcase_intro (fun _ => ?_) (fun h => absurd h (by decide))
    refine ⟨by omega, by omega, ?_⟩
    refine callx_of [[0], [0, 0, 0], [0, 0, 0]] [] rfl (c_arith 10 (l.getD 0 default) (l.getD 1 default)) (by first | (simp; done) | (simp [rowsOf_length]; done) | (simp [rowsOf_length]; omega)) (by first | (simp only [ends, ite_true, ite_false, reduceIte, Nat.reduceEqDiff, Nat.reduceLeDiff, Nat.reduceLT, Nat.reduceAdd, reduceCtorEq, num, boo, str, ints, aV, aTab, aInst, aS, aT, aC, aRow, num, boo, str, aE_eq, aV]; done) | simp [ends, ite_true, ite_false, reduceIte, Nat.reduceEqDiff, Nat.reduceLeDiff, Nat.reduceLT, Nat.reduceAdd, reduceCtorEq, num, boo, str, ints, aV, aTab, aInst, aS, aT, aC, aRow, num, boo, str, aE_eq, aV]) (by first | rfl | (simp only [ends, ite_true, ite_false, reduceIte, Nat.reduceEqDiff, Nat.reduceLeDiff, Nat.reduceLT, Nat.reduceAdd, reduceCtorEq, num, boo, str, ints, aV, aTab, aInst, aS, aT, aC, aRow, num, boo, str, aE_eq, aV]; done) | simp [ends, ite_true, ite_false, reduceIte, Nat.reduceEqDiff, Nat.reduceLeDiff, Nat.reduceLT, Nat.reduceAdd, reduceCtorEq, num, boo, str, ints, aV, aTab, aInst, aS, aT, aC, aRow, num, boo, str, aE_eq, aV]) (by simp only [ends, ite_true, ite_false, reduceIte, Nat.reduceEqDiff, Nat.reduceLeDiff, Nat.reduceLT, Nat.reduceAdd, reduceCtorEq, num, boo, str, ints, aV, aTab, aInst, aS, aT, aC, aRow]) (by simp [idsOk, lookO, updO, ren1]) ?_
    simp -implicitDefEqProofs only [tabN, aV, ↓steps, push_cast, reduceIte, Nat.reduceEqDiff, Nat.reduceAdd, Nat.reduceMul, Nat.reduceLT, Nat.reduceLeDiff, Int.reduceToNat, Int.reduceLE, Int.reduceLT, reduceCtorEq, tte, num, boo, str, ints, aV, aTab, aInst, aS, aT, aC, aRow]
    refine ⟨drawx_intro (by kernel_rfl), ?_⟩
    exact ret_v (by first | trivial | (simp; done) | (simp; omega)) (by rw [← hr] <;> first | rfl | (simp [applyM]; done) | (simp_all [applyM]; done)) (by simp only [ends, ite_true, ite_false, reduceIte, Nat.reduceEqDiff, Nat.reduceLeDiff, Nat.reduceLT, Nat.reduceAdd, reduceCtorEq, num, boo, str, ints, aV, aTab, aInst, aS, aT, aC, aRow])
  refine bcase_intro (fun h12 => ?_) fun h12 => ?_
  · have e : op = 12 := by simpa using h12
    subst e
    have hl : 2 ≤ l.length := len2 (by simpa [kidsR] using hk)
    refine ⟨by omega, by omega, ?_⟩
    refine callx_of [[0], [0, 0, 0], [0, 0, 0]] [] rfl (c_arith 12 (l.getD 0 default) (l.getD 1 default)) (by first | (simp; done) | (simp [rowsOf_length]; done) | (simp [rowsOf_length]; omega)) (by first | (simp only [ends, ite_true, ite_false, reduceIte, Nat.reduceEqDiff, Nat.reduceLeDiff, Nat.reduceLT, Nat.reduceAdd, reduceCtorEq, num, boo, str, ints, aV, aTab, aInst, aS, aT, aC, aRow, num, boo, str, aE_eq, aV]; done) | simp [ends, ite_true, ite_false, reduceIte, Nat.reduceEqDiff, Nat.reduceLeDiff, Nat.reduceLT, Nat.reduceAdd, reduceCtorEq, num, boo, str, ints, aV, aTab, aInst, aS, aT, aC, aRow, num, boo, str, aE_eq, aV]) (by first | rfl | (simp only [ends, ite_true, ite_false, reduceIte, Nat.reduceEqDiff, Nat.reduceLeDiff, Nat.reduceLT, Nat.reduceAdd, reduceCtorEq, num, boo, str, ints, aV, aTab, aInst, aS, aT, aC, aRow, num, boo, str, aE_eq, aV]; done) | simp [ends, ite_true, ite_false, reduceIte, Nat.reduceEqDiff, Nat.reduceLeDiff, Nat.reduceLT, Nat.reduceAdd, reduceCtorEq, num, boo, str, ints, aV, aTab, aInst, aS, aT, aC, aRow, num, boo, str, aE_eq, aV]) (by simp only [ends, ite_true, ite_false, reduceIte, Nat.reduceEqDiff, Nat.reduceLeDiff, Nat.reduceLT, Nat.reduceAdd, reduceCtorEq, num, boo, str, ints, aV, aTab, aInst, aS, aT, aC, aRow]) (by simp [idsOk, lookO, updO, ren1]) ?_
    simp -implicitDefEqProofs only [tabN, aV, ↓steps, push_cast, reduceIte, Nat.reduceEqDiff, Nat.reduceAdd, Nat.reduceMul, Nat.reduceLT, Nat.reduceLeDiff, Int.reduceToNat, Int.reduceLE, Int.reduceLT, reduceCtorEq, tte, num, boo, str, ints, aV, aTab, aInst, aS, aT, aC, aRow]
    refine ⟨drawx_intro (by kernel_rfl), ?_⟩
    exact ret_v (by first | trivial | (simp; done) | (simp; omega)) (by rw [← hr] <;> first | rfl | (simp [applyM]; done) | (simp_all [applyM]; done)) (by simp only [ends, ite_true, ite_false, reduceIte, Nat.reduceEqDiff, Nat.reduceLeDiff, Nat.reduceLT, Nat.reduceAdd, reduceCtorEq, num, boo, str, ints, aV, aTab, aInst, aS, aT, aC, aRow])
  refine bcase_intro (fun h11 => ?_) fun h11 => ?_
  · have e : op = 11 := by simpa using h11
    subst e
    have hl : 1 ≤ l.length := len1 (by simpa [kidsR] using hk)
    refine ⟨by omega, ?_⟩
    refine callx_of [[0], [0, 0, 0], [0, 0, 0]] [] rfl (c_arith 7 ⟨1, 0, ByteArray.empty⟩ (l.getD 0 default)) (by first | (simp; done) | (simp [rowsOf_length]; done) | (simp [rowsOf_length]; omega)) (by first | (simp only [ends, ite_true, ite_false, reduceIte, Nat.reduceEqDiff, Nat.reduceLeDiff, Nat.reduceLT, Nat.reduceAdd, reduceCtorEq, num, boo, str, ints, aV, aTab, aInst, aS, aT, aC, aRow, num, boo, str, aE_eq, aV]; done) | simp [ends, ite_true, ite_false, reduceIte, Nat.reduceEqDiff, Nat.reduceLeDiff, Nat.reduceLT, Nat.reduceAdd, reduceCtorEq, num, boo, str, ints, aV, aTab, aInst, aS, aT, aC, aRow, num, boo, str, aE_eq, aV]) (by first | rfl | (simp only [ends, ite_true, ite_false, reduceIte, Nat.reduceEqDiff, Nat.reduceLeDiff, Nat.reduceLT, Nat.reduceAdd, reduceCtorEq, num, boo, str, ints, aV, aTab, aInst, aS, aT, aC, aRow, num, boo, str, aE_eq, aV]; done) | simp [ends, ite_true, ite_false, reduceIte, Nat.reduceEqDiff, Nat.reduceLeDiff, Nat.reduceLT, Nat.reduceAdd, reduceCtorEq, num, boo, str, ints, aV, aTab, aInst, aS, aT, aC, aRow, num, boo, str, aE_eq, aV]) (by simp only [ends, ite_true, ite_false, reduceIte, Nat.reduceEqDiff, Nat.reduceLeDiff, Nat.reduceLT, Nat.reduceAdd, reduceCtorEq, num, boo, str, ints, aV, aTab, aInst, aS, aT, aC, aRow]) (by simp [idsOk, lookO, updO, ren1]) ?_
    simp -implicitDefEqProofs only [tabN, aV, ↓steps, push_cast, reduceIte, Nat.reduceEqDiff, Nat.reduceAdd, Nat.reduceMul, Nat.reduceLT, Nat.reduceLeDiff, Int.reduceToNat, Int.reduceLE, Int.reduceLT, reduceCtorEq, tte, num, boo, str, ints, aV, aTab, aInst, aS, aT, aC, aRow]
    exact ret_v (by first | trivial | (simp; done) | (simp; omega)) (by rw [← hr] <;> first | rfl | (simp [applyM]; done) | (simp_all [applyM]; done)) (by simp only [ends, ite_true, ite_false, reduceIte, Nat.reduceEqDiff, Nat.reduceLeDiff, Nat.reduceLT, Nat.reduceAdd, reduceCtorEq, num, boo, str, ints, aV, aTab, aInst, aS, aT, aC, aRow])
  refine bcase_intro (fun h13 => ?_) fun h13 => ?_
  · have e : op = 13 := by simpa using h13
    subst e
    have hl : 1 ≤ l.length := len1 (by simpa [kidsR] using hk)
    refine ⟨by omega, ?_⟩
    refine bcase_intro (fun g => ?_) fun g => ?_
    · refine ⟨by omega, ?_⟩
      have g1 : (l.getD 0 default).kind = 3 := by simpa using g
      have hM : applyM 13 l = ⟨1, (l.getD 0 default).text.size, ByteArray.empty⟩ := if_pos g1
      rw [hM] at hr
      exact ret_v (by first | trivial | (simp; done) | (simp; omega)) (by rw [← hr] <;> first | rfl | (simp [applyM]; done) | (simp_all [applyM]; done)) (by simp only [ends, ite_true, ite_false, reduceIte, Nat.reduceEqDiff, Nat.reduceLeDiff, Nat.reduceLT, Nat.reduceAdd, reduceCtorEq, num, boo, str, ints, aV, aTab, aInst, aS, aT, aC, aRow])
    · have g1 : ¬ (l.getD 0 default).kind = 3 := by simpa using g
      have hM : applyM 13 l = nullV := if_neg g1
      rw [hM] at hr
      exact ret_v (by first | trivial | (simp; done) | (simp; omega)) (by rw [← hr] <;> first | rfl | (simp [nullV]; done) | (simp_all [nullV]; done)) (by simp only [ends, ite_true, ite_false, reduceIte, Nat.reduceEqDiff, Nat.reduceLeDiff, Nat.reduceLT, Nat.reduceAdd, reduceCtorEq, num, boo, str, ints, aV, aTab, aInst, aS, aT, aC, aRow])
  refine bcase_intro (fun h14 => ?_) fun h14 => ?_
  · have e : op = 14 := by simpa using h14
    subst e
    have hl : 2 ≤ l.length := len2 (by simpa [kidsR] using hk)
    refine ⟨by omega, by omega, ?_⟩
    refine callx_of [[0, 0, 0], [0, 0, 0]] [] rfl (c_equal (l.getD 0 default) (l.getD 1 default)) (by first | (simp; done) | (simp [rowsOf_length]; done) | (simp [rowsOf_length]; omega)) (by first | (simp only [ends, ite_true, ite_false, reduceIte, Nat.reduceEqDiff, Nat.reduceLeDiff, Nat.reduceLT, Nat.reduceAdd, reduceCtorEq, num, boo, str, ints, aV, aTab, aInst, aS, aT, aC, aRow, num, boo, str, aE_eq, aV]; done) | simp [ends, ite_true, ite_false, reduceIte, Nat.reduceEqDiff, Nat.reduceLeDiff, Nat.reduceLT, Nat.reduceAdd, reduceCtorEq, num, boo, str, ints, aV, aTab, aInst, aS, aT, aC, aRow, num, boo, str, aE_eq, aV]) (by first | rfl | (simp only [ends, ite_true, ite_false, reduceIte, Nat.reduceEqDiff, Nat.reduceLeDiff, Nat.reduceLT, Nat.reduceAdd, reduceCtorEq, num, boo, str, ints, aV, aTab, aInst, aS, aT, aC, aRow, num, boo, str, aE_eq, aV]; done) | simp [ends, ite_true, ite_false, reduceIte, Nat.reduceEqDiff, Nat.reduceLeDiff, Nat.reduceLT, Nat.reduceAdd, reduceCtorEq, num, boo, str, ints, aV, aTab, aInst, aS, aT, aC, aRow, num, boo, str, aE_eq, aV]) (by simp only [ends, ite_true, ite_false, reduceIte, Nat.reduceEqDiff, Nat.reduceLeDiff, Nat.reduceLT, Nat.reduceAdd, reduceCtorEq, num, boo, str, ints, aV, aTab, aInst, aS, aT, aC, aRow]) (by simp [idsOk, lookO, updO, ren1]) ?_
    simp -implicitDefEqProofs only [tabN, aV, ↓steps, push_cast, reduceIte, Nat.reduceEqDiff, Nat.reduceAdd, Nat.reduceMul, Nat.reduceLT, Nat.reduceLeDiff, Int.reduceToNat, Int.reduceLE, Int.reduceLT, reduceCtorEq, tte, num, boo, str, ints, aV, aTab, aInst, aS, aT, aC, aRow]
    refine ⟨drawx_intro (by kernel_rfl), ?_⟩
    exact ret_v (by first | trivial | (simp; done) | (simp; omega)) (by rw [← hr] <;> first | rfl | (simp [applyM]; done) | (simp_all [applyM]; done)) (by simp only [ends, ite_true, ite_false, reduceIte, Nat.reduceEqDiff, Nat.reduceLeDiff, Nat.reduceLT, Nat.reduceAdd, reduceCtorEq, num, boo, str, ints, aV, aTab, aInst, aS, aT, aC, aRow])
  refine bcase_intro (fun h15 => ?_) fun h15 => ?_
  · have e : op = 15 := by simpa using h15
    subst e
    have hl : 2 ≤ l.length := len2 (by simpa [kidsR] using hk)
    refine ⟨by omega, by omega, ?_⟩
    refine callx_of [[0, 0, 0], [0, 0, 0]] [] rfl (c_equal (l.getD 0 default) (l.getD 1 default)) (by first | (simp; done) | (simp [rowsOf_length]; done) | (simp [rowsOf_length]; omega)) (by first | (simp only [ends, ite_true, ite_false, reduceIte, Nat.reduceEqDiff, Nat.reduceLeDiff, Nat.reduceLT, Nat.reduceAdd, reduceCtorEq, num, boo, str, ints, aV, aTab, aInst, aS, aT, aC, aRow, num, boo, str, aE_eq, aV]; done) | simp [ends, ite_true, ite_false, reduceIte, Nat.reduceEqDiff, Nat.reduceLeDiff, Nat.reduceLT, Nat.reduceAdd, reduceCtorEq, num, boo, str, ints, aV, aTab, aInst, aS, aT, aC, aRow, num, boo, str, aE_eq, aV]) (by first | rfl | (simp only [ends, ite_true, ite_false, reduceIte, Nat.reduceEqDiff, Nat.reduceLeDiff, Nat.reduceLT, Nat.reduceAdd, reduceCtorEq, num, boo, str, ints, aV, aTab, aInst, aS, aT, aC, aRow, num, boo, str, aE_eq, aV]; done) | simp [ends, ite_true, ite_false, reduceIte, Nat.reduceEqDiff, Nat.reduceLeDiff, Nat.reduceLT, Nat.reduceAdd, reduceCtorEq, num, boo, str, ints, aV, aTab, aInst, aS, aT, aC, aRow, num, boo, str, aE_eq, aV]) (by simp only [ends, ite_true, ite_false, reduceIte, Nat.reduceEqDiff, Nat.reduceLeDiff, Nat.reduceLT, Nat.reduceAdd, reduceCtorEq, num, boo, str, ints, aV, aTab, aInst, aS, aT, aC, aRow]) (by simp [idsOk, lookO, updO, ren1]) ?_
    simp -implicitDefEqProofs only [tabN, aV, ↓steps, push_cast, reduceIte, Nat.reduceEqDiff, Nat.reduceAdd, Nat.reduceMul, Nat.reduceLT, Nat.reduceLeDiff, Int.reduceToNat, Int.reduceLE, Int.reduceLT, reduceCtorEq, tte, num, boo, str, ints, aV, aTab, aInst, aS, aT, aC, aRow]
    refine callx_of [[0, 0, 0]] [] rfl (c_not (equalM (l.getD 0 default) (l.getD 1 default))) (by first | (simp; done) | (simp [rowsOf_length]; done) | (simp [rowsOf_length]; omega)) (by first | (simp only [ends, ite_true, ite_false, reduceIte, Nat.reduceEqDiff, Nat.reduceLeDiff, Nat.reduceLT, Nat.reduceAdd, reduceCtorEq, num, boo, str, ints, aV, aTab, aInst, aS, aT, aC, aRow, num, boo, str, aE_eq, aV]; done) | simp [ends, ite_true, ite_false, reduceIte, Nat.reduceEqDiff, Nat.reduceLeDiff, Nat.reduceLT, Nat.reduceAdd, reduceCtorEq, num, boo, str, ints, aV, aTab, aInst, aS, aT, aC, aRow, num, boo, str, aE_eq, aV]) (by first | rfl | (simp only [ends, ite_true, ite_false, reduceIte, Nat.reduceEqDiff, Nat.reduceLeDiff, Nat.reduceLT, Nat.reduceAdd, reduceCtorEq, num, boo, str, ints, aV, aTab, aInst, aS, aT, aC, aRow, num, boo, str, aE_eq, aV]; done) | simp [ends, ite_true, ite_false, reduceIte, Nat.reduceEqDiff, Nat.reduceLeDiff, Nat.reduceLT, Nat.reduceAdd, reduceCtorEq, num, boo, str, ints, aV, aTab, aInst, aS, aT, aC, aRow, num, boo, str, aE_eq, aV]) (by simp only [ends, ite_true, ite_false, reduceIte, Nat.reduceEqDiff, Nat.reduceLeDiff, Nat.reduceLT, Nat.reduceAdd, reduceCtorEq, num, boo, str, ints, aV, aTab, aInst, aS, aT, aC, aRow]) (by simp [idsOk, lookO, updO, ren1]) ?_
    simp -implicitDefEqProofs only [tabN, aV, ↓steps, push_cast, reduceIte, Nat.reduceEqDiff, Nat.reduceAdd, Nat.reduceMul, Nat.reduceLT, Nat.reduceLeDiff, Int.reduceToNat, Int.reduceLE, Int.reduceLT, reduceCtorEq, tte, num, boo, str, ints, aV, aTab, aInst, aS, aT, aC, aRow]
    refine ⟨drawx_intro (by kernel_rfl), ?_⟩
    exact ret_v (by first | trivial | (simp; done) | (simp; omega)) (by rw [← hr] <;> first | rfl | (simp [applyM]; done) | (simp_all [applyM]; done)) (by simp only [ends, ite_true, ite_false, reduceIte, Nat.reduceEqDiff, Nat.reduceLeDiff, Nat.reduceLT, Nat.reduceAdd, reduceCtorEq, num, boo, str, ints, aV, aTab, aInst, aS, aT, aC, aRow])
  refine bcase_intro (fun h16 => ?_) fun h16 => ?_
  · have e : op = 16 := by simpa using h16
    subst e
    have hl : 2 ≤ l.length := len2 (by simpa [kidsR] using hk)
    refine ⟨by omega, by omega, ?_⟩
    refine callx_of [[0, 0, 0], [0, 0, 0]] [] rfl (c_less (l.getD 0 default) (l.getD 1 default)) (by first | (simp; done) | (simp [rowsOf_length]; done) | (simp [rowsOf_length]; omega)) (by first | (simp only [ends, ite_true, ite_false, reduceIte, Nat.reduceEqDiff, Nat.reduceLeDiff, Nat.reduceLT, Nat.reduceAdd, reduceCtorEq, num, boo, str, ints, aV, aTab, aInst, aS, aT, aC, aRow, num, boo, str, aE_eq, aV]; done) | simp [ends, ite_true, ite_false, reduceIte, Nat.reduceEqDiff, Nat.reduceLeDiff, Nat.reduceLT, Nat.reduceAdd, reduceCtorEq, num, boo, str, ints, aV, aTab, aInst, aS, aT, aC, aRow, num, boo, str, aE_eq, aV]) (by first | rfl | (simp only [ends, ite_true, ite_false, reduceIte, Nat.reduceEqDiff, Nat.reduceLeDiff, Nat.reduceLT, Nat.reduceAdd, reduceCtorEq, num, boo, str, ints, aV, aTab, aInst, aS, aT, aC, aRow, num, boo, str, aE_eq, aV]; done) | simp [ends, ite_true, ite_false, reduceIte, Nat.reduceEqDiff, Nat.reduceLeDiff, Nat.reduceLT, Nat.reduceAdd, reduceCtorEq, num, boo, str, ints, aV, aTab, aInst, aS, aT, aC, aRow, num, boo, str, aE_eq, aV]) (by simp only [ends, ite_true, ite_false, reduceIte, Nat.reduceEqDiff, Nat.reduceLeDiff, Nat.reduceLT, Nat.reduceAdd, reduceCtorEq, num, boo, str, ints, aV, aTab, aInst, aS, aT, aC, aRow]) (by simp [idsOk, lookO, updO, ren1]) ?_
    simp -implicitDefEqProofs only [tabN, aV, ↓steps, push_cast, reduceIte, Nat.reduceEqDiff, Nat.reduceAdd, Nat.reduceMul, Nat.reduceLT, Nat.reduceLeDiff, Int.reduceToNat, Int.reduceLE, Int.reduceLT, reduceCtorEq, tte, num, boo, str, ints, aV, aTab, aInst, aS, aT, aC, aRow]
    refine ⟨drawx_intro (by kernel_rfl), ?_⟩
    exact ret_v (by first | trivial | (simp; done) | (simp; omega)) (by rw [← hr] <;> first | rfl | (simp [applyM]; done) | (simp_all [applyM]; done)) (by simp only [ends, ite_true, ite_false, reduceIte, Nat.reduceEqDiff, Nat.reduceLeDiff, Nat.reduceLT, Nat.reduceAdd, reduceCtorEq, num, boo, str, ints, aV, aTab, aInst, aS, aT, aC, aRow])
  refine bcase_intro (fun h17 => ?_) fun h17 => ?_
  · have e : op = 17 := by simpa using h17
    subst e
    have hl : 2 ≤ l.length := len2 (by simpa [kidsR] using hk)
    refine ⟨by omega, by omega, ?_⟩
    refine callx_of [[0, 0, 0], [0, 0, 0]] [] rfl (c_less (l.getD 1 default) (l.getD 0 default)) (by first | (simp; done) | (simp [rowsOf_length]; done) | (simp [rowsOf_length]; omega)) (by first | (simp only [ends, ite_true, ite_false, reduceIte, Nat.reduceEqDiff, Nat.reduceLeDiff, Nat.reduceLT, Nat.reduceAdd, reduceCtorEq, num, boo, str, ints, aV, aTab, aInst, aS, aT, aC, aRow, num, boo, str, aE_eq, aV]; done) | simp [ends, ite_true, ite_false, reduceIte, Nat.reduceEqDiff, Nat.reduceLeDiff, Nat.reduceLT, Nat.reduceAdd, reduceCtorEq, num, boo, str, ints, aV, aTab, aInst, aS, aT, aC, aRow, num, boo, str, aE_eq, aV]) (by first | rfl | (simp only [ends, ite_true, ite_false, reduceIte, Nat.reduceEqDiff, Nat.reduceLeDiff, Nat.reduceLT, Nat.reduceAdd, reduceCtorEq, num, boo, str, ints, aV, aTab, aInst, aS, aT, aC, aRow, num, boo, str, aE_eq, aV]; done) | simp [ends, ite_true, ite_false, reduceIte, Nat.reduceEqDiff, Nat.reduceLeDiff, Nat.reduceLT, Nat.reduceAdd, reduceCtorEq, num, boo, str, ints, aV, aTab, aInst, aS, aT, aC, aRow, num, boo, str, aE_eq, aV]) (by simp only [ends, ite_true, ite_false, reduceIte, Nat.reduceEqDiff, Nat.reduceLeDiff, Nat.reduceLT, Nat.reduceAdd, reduceCtorEq, num, boo, str, ints, aV, aTab, aInst, aS, aT, aC, aRow]) (by simp [idsOk, lookO, updO, ren1]) ?_
    simp -implicitDefEqProofs only [tabN, aV, ↓steps, push_cast, reduceIte, Nat.reduceEqDiff, Nat.reduceAdd, Nat.reduceMul, Nat.reduceLT, Nat.reduceLeDiff, Int.reduceToNat, Int.reduceLE, Int.reduceLT, reduceCtorEq, tte, num, boo, str, ints, aV, aTab, aInst, aS, aT, aC, aRow]
    refine callx_of [[0, 0, 0]] [] rfl (c_not (lessM (l.getD 1 default) (l.getD 0 default))) (by first | (simp; done) | (simp [rowsOf_length]; done) | (simp [rowsOf_length]; omega)) (by first | (simp only [ends, ite_true, ite_false, reduceIte, Nat.reduceEqDiff, Nat.reduceLeDiff, Nat.reduceLT, Nat.reduceAdd, reduceCtorEq, num, boo, str, ints, aV, aTab, aInst, aS, aT, aC, aRow, num, boo, str, aE_eq, aV]; done) | simp [ends, ite_true, ite_false, reduceIte, Nat.reduceEqDiff, Nat.reduceLeDiff, Nat.reduceLT, Nat.reduceAdd, reduceCtorEq, num, boo, str, ints, aV, aTab, aInst, aS, aT, aC, aRow, num, boo, str, aE_eq, aV]) (by first | rfl | (simp only [ends, ite_true, ite_false, reduceIte, Nat.reduceEqDiff, Nat.reduceLeDiff, Nat.reduceLT, Nat.reduceAdd, reduceCtorEq, num, boo, str, ints, aV, aTab, aInst, aS, aT, aC, aRow, num, boo, str, aE_eq, aV]; done) | simp [ends, ite_true, ite_false, reduceIte, Nat.reduceEqDiff, Nat.reduceLeDiff, Nat.reduceLT, Nat.reduceAdd, reduceCtorEq, num, boo, str, ints, aV, aTab, aInst, aS, aT, aC, aRow, num, boo, str, aE_eq, aV]) (by simp only [ends, ite_true, ite_false, reduceIte, Nat.reduceEqDiff, Nat.reduceLeDiff, Nat.reduceLT, Nat.reduceAdd, reduceCtorEq, num, boo, str, ints, aV, aTab, aInst, aS, aT, aC, aRow]) (by simp [idsOk, lookO, updO, ren1]) ?_
    simp -implicitDefEqProofs only [tabN, aV, ↓steps, push_cast, reduceIte, Nat.reduceEqDiff, Nat.reduceAdd, Nat.reduceMul, Nat.reduceLT, Nat.reduceLeDiff, Int.reduceToNat, Int.reduceLE, Int.reduceLT, reduceCtorEq, tte, num, boo, str, ints, aV, aTab, aInst, aS, aT, aC, aRow]
    refine ⟨drawx_intro (by kernel_rfl), ?_⟩
    exact ret_v (by first | trivial | (simp; done) | (simp; omega)) (by rw [← hr] <;> first | rfl | (simp [applyM]; done) | (simp_all [applyM]; done)) (by simp only [ends, ite_true, ite_false, reduceIte, Nat.reduceEqDiff, Nat.reduceLeDiff, Nat.reduceLT, Nat.reduceAdd, reduceCtorEq, num, boo, str, ints, aV, aTab, aInst, aS, aT, aC, aRow])
  refine bcase_intro (fun h18 => ?_) fun h18 => ?_
  · have e : op = 18 := by simpa using h18
    subst e
    have hl : 2 ≤ l.length := len2 (by simpa [kidsR] using hk)
    refine ⟨by omega, by omega, ?_⟩
    refine callx_of [[0, 0, 0], [0, 0, 0]] [] rfl (c_less (l.getD 1 default) (l.getD 0 default)) (by first | (simp; done) | (simp [rowsOf_length]; done) | (simp [rowsOf_length]; omega)) (by first | (simp only [ends, ite_true, ite_false, reduceIte, Nat.reduceEqDiff, Nat.reduceLeDiff, Nat.reduceLT, Nat.reduceAdd, reduceCtorEq, num, boo, str, ints, aV, aTab, aInst, aS, aT, aC, aRow, num, boo, str, aE_eq, aV]; done) | simp [ends, ite_true, ite_false, reduceIte, Nat.reduceEqDiff, Nat.reduceLeDiff, Nat.reduceLT, Nat.reduceAdd, reduceCtorEq, num, boo, str, ints, aV, aTab, aInst, aS, aT, aC, aRow, num, boo, str, aE_eq, aV]) (by first | rfl | (simp only [ends, ite_true, ite_false, reduceIte, Nat.reduceEqDiff, Nat.reduceLeDiff, Nat.reduceLT, Nat.reduceAdd, reduceCtorEq, num, boo, str, ints, aV, aTab, aInst, aS, aT, aC, aRow, num, boo, str, aE_eq, aV]; done) | simp [ends, ite_true, ite_false, reduceIte, Nat.reduceEqDiff, Nat.reduceLeDiff, Nat.reduceLT, Nat.reduceAdd, reduceCtorEq, num, boo, str, ints, aV, aTab, aInst, aS, aT, aC, aRow, num, boo, str, aE_eq, aV]) (by simp only [ends, ite_true, ite_false, reduceIte, Nat.reduceEqDiff, Nat.reduceLeDiff, Nat.reduceLT, Nat.reduceAdd, reduceCtorEq, num, boo, str, ints, aV, aTab, aInst, aS, aT, aC, aRow]) (by simp [idsOk, lookO, updO, ren1]) ?_
    simp -implicitDefEqProofs only [tabN, aV, ↓steps, push_cast, reduceIte, Nat.reduceEqDiff, Nat.reduceAdd, Nat.reduceMul, Nat.reduceLT, Nat.reduceLeDiff, Int.reduceToNat, Int.reduceLE, Int.reduceLT, reduceCtorEq, tte, num, boo, str, ints, aV, aTab, aInst, aS, aT, aC, aRow]
    refine ⟨drawx_intro (by kernel_rfl), ?_⟩
    exact ret_v (by first | trivial | (simp; done) | (simp; omega)) (by rw [← hr] <;> first | rfl | (simp [applyM]; done) | (simp_all [applyM]; done)) (by simp only [ends, ite_true, ite_false, reduceIte, Nat.reduceEqDiff, Nat.reduceLeDiff, Nat.reduceLT, Nat.reduceAdd, reduceCtorEq, num, boo, str, ints, aV, aTab, aInst, aS, aT, aC, aRow])
  refine bcase_intro (fun h19 => ?_) fun h19 => ?_
  · have e : op = 19 := by simpa using h19
    subst e
    have hl : 2 ≤ l.length := len2 (by simpa [kidsR] using hk)
    refine ⟨by omega, by omega, ?_⟩
    refine callx_of [[0, 0, 0], [0, 0, 0]] [] rfl (c_less (l.getD 0 default) (l.getD 1 default)) (by first | (simp; done) | (simp [rowsOf_length]; done) | (simp [rowsOf_length]; omega)) (by first | (simp only [ends, ite_true, ite_false, reduceIte, Nat.reduceEqDiff, Nat.reduceLeDiff, Nat.reduceLT, Nat.reduceAdd, reduceCtorEq, num, boo, str, ints, aV, aTab, aInst, aS, aT, aC, aRow, num, boo, str, aE_eq, aV]; done) | simp [ends, ite_true, ite_false, reduceIte, Nat.reduceEqDiff, Nat.reduceLeDiff, Nat.reduceLT, Nat.reduceAdd, reduceCtorEq, num, boo, str, ints, aV, aTab, aInst, aS, aT, aC, aRow, num, boo, str, aE_eq, aV]) (by first | rfl | (simp only [ends, ite_true, ite_false, reduceIte, Nat.reduceEqDiff, Nat.reduceLeDiff, Nat.reduceLT, Nat.reduceAdd, reduceCtorEq, num, boo, str, ints, aV, aTab, aInst, aS, aT, aC, aRow, num, boo, str, aE_eq, aV]; done) | simp [ends, ite_true, ite_false, reduceIte, Nat.reduceEqDiff, Nat.reduceLeDiff, Nat.reduceLT, Nat.reduceAdd, reduceCtorEq, num, boo, str, ints, aV, aTab, aInst, aS, aT, aC, aRow, num, boo, str, aE_eq, aV]) (by simp only [ends, ite_true, ite_false, reduceIte, Nat.reduceEqDiff, Nat.reduceLeDiff, Nat.reduceLT, Nat.reduceAdd, reduceCtorEq, num, boo, str, ints, aV, aTab, aInst, aS, aT, aC, aRow]) (by simp [idsOk, lookO, updO, ren1]) ?_
    simp -implicitDefEqProofs only [tabN, aV, ↓steps, push_cast, reduceIte, Nat.reduceEqDiff, Nat.reduceAdd, Nat.reduceMul, Nat.reduceLT, Nat.reduceLeDiff, Int.reduceToNat, Int.reduceLE, Int.reduceLT, reduceCtorEq, tte, num, boo, str, ints, aV, aTab, aInst, aS, aT, aC, aRow]
    refine callx_of [[0, 0, 0]] [] rfl (c_not (lessM (l.getD 0 default) (l.getD 1 default))) (by first | (simp; done) | (simp [rowsOf_length]; done) | (simp [rowsOf_length]; omega)) (by first | (simp only [ends, ite_true, ite_false, reduceIte, Nat.reduceEqDiff, Nat.reduceLeDiff, Nat.reduceLT, Nat.reduceAdd, reduceCtorEq, num, boo, str, ints, aV, aTab, aInst, aS, aT, aC, aRow, num, boo, str, aE_eq, aV]; done) | simp [ends, ite_true, ite_false, reduceIte, Nat.reduceEqDiff, Nat.reduceLeDiff, Nat.reduceLT, Nat.reduceAdd, reduceCtorEq, num, boo, str, ints, aV, aTab, aInst, aS, aT, aC, aRow, num, boo, str, aE_eq, aV]) (by first | rfl | (simp only [ends, ite_true, ite_false, reduceIte, Nat.reduceEqDiff, Nat.reduceLeDiff, Nat.reduceLT, Nat.reduceAdd, reduceCtorEq, num, boo, str, ints, aV, aTab, aInst, aS, aT, aC, aRow, num, boo, str, aE_eq, aV]; done) | simp [ends, ite_true, ite_false, reduceIte, Nat.reduceEqDiff, Nat.reduceLeDiff, Nat.reduceLT, Nat.reduceAdd, reduceCtorEq, num, boo, str, ints, aV, aTab, aInst, aS, aT, aC, aRow, num, boo, str, aE_eq, aV]) (by simp only [ends, ite_true, ite_false, reduceIte, Nat.reduceEqDiff, Nat.reduceLeDiff, Nat.reduceLT, Nat.reduceAdd, reduceCtorEq, num, boo, str, ints, aV, aTab, aInst, aS, aT, aC, aRow]) (by simp [idsOk, lookO, updO, ren1]) ?_
    simp -implicitDefEqProofs only [tabN, aV, ↓steps, push_cast, reduceIte, Nat.reduceEqDiff, Nat.reduceAdd, Nat.reduceMul, Nat.reduceLT, Nat.reduceLeDiff, Int.reduceToNat, Int.reduceLE, Int.reduceLT, reduceCtorEq, tte, num, boo, str, ints, aV, aTab, aInst, aS, aT, aC, aRow]
    refine ⟨drawx_intro (by kernel_rfl), ?_⟩
    exact ret_v (by first | trivial | (simp; done) | (simp; omega)) (by rw [← hr] <;> first | rfl | (simp [applyM]; done) | (simp_all [applyM]; done)) (by simp only [ends, ite_true, ite_false, reduceIte, Nat.reduceEqDiff, Nat.reduceLeDiff, Nat.reduceLT, Nat.reduceAdd, reduceCtorEq, num, boo, str, ints, aV, aTab, aInst, aS, aT, aC, aRow])
  refine bcase_intro (fun h20 => ?_) fun h20 => ?_
  · have e : op = 20 := by simpa using h20
    subst e
    have hl : 2 ≤ l.length := len2 (by simpa [kidsR] using hk)
    refine ⟨by omega, by omega, ?_⟩
    refine callx_of [[0, 0, 0], [0, 0, 0]] [] rfl (c_same (l.getD 0 default) (l.getD 1 default)) (by first | (simp; done) | (simp [rowsOf_length]; done) | (simp [rowsOf_length]; omega)) (by first | (simp only [ends, ite_true, ite_false, reduceIte, Nat.reduceEqDiff, Nat.reduceLeDiff, Nat.reduceLT, Nat.reduceAdd, reduceCtorEq, num, boo, str, ints, aV, aTab, aInst, aS, aT, aC, aRow, num, boo, str, aE_eq, aV]; done) | simp [ends, ite_true, ite_false, reduceIte, Nat.reduceEqDiff, Nat.reduceLeDiff, Nat.reduceLT, Nat.reduceAdd, reduceCtorEq, num, boo, str, ints, aV, aTab, aInst, aS, aT, aC, aRow, num, boo, str, aE_eq, aV]) (by first | rfl | (simp only [ends, ite_true, ite_false, reduceIte, Nat.reduceEqDiff, Nat.reduceLeDiff, Nat.reduceLT, Nat.reduceAdd, reduceCtorEq, num, boo, str, ints, aV, aTab, aInst, aS, aT, aC, aRow, num, boo, str, aE_eq, aV]; done) | simp [ends, ite_true, ite_false, reduceIte, Nat.reduceEqDiff, Nat.reduceLeDiff, Nat.reduceLT, Nat.reduceAdd, reduceCtorEq, num, boo, str, ints, aV, aTab, aInst, aS, aT, aC, aRow, num, boo, str, aE_eq, aV]) (by simp only [ends, ite_true, ite_false, reduceIte, Nat.reduceEqDiff, Nat.reduceLeDiff, Nat.reduceLT, Nat.reduceAdd, reduceCtorEq, num, boo, str, ints, aV, aTab, aInst, aS, aT, aC, aRow]) (by simp [idsOk, lookO, updO, ren1]) ?_
    simp -implicitDefEqProofs only [tabN, aV, ↓steps, push_cast, reduceIte, Nat.reduceEqDiff, Nat.reduceAdd, Nat.reduceMul, Nat.reduceLT, Nat.reduceLeDiff, Int.reduceToNat, Int.reduceLE, Int.reduceLT, reduceCtorEq, tte, num, boo, str, ints, aV, aTab, aInst, aS, aT, aC, aRow]
    refine callx_of [[0]] [] rfl (c_etruth (sameM (l.getD 0 default) (l.getD 1 default))) (by first | (simp; done) | (simp [rowsOf_length]; done) | (simp [rowsOf_length]; omega)) (by first | (simp only [ends, ite_true, ite_false, reduceIte, Nat.reduceEqDiff, Nat.reduceLeDiff, Nat.reduceLT, Nat.reduceAdd, reduceCtorEq, num, boo, str, ints, aV, aTab, aInst, aS, aT, aC, aRow, num, boo, str, aE_eq, aV]; done) | simp [ends, ite_true, ite_false, reduceIte, Nat.reduceEqDiff, Nat.reduceLeDiff, Nat.reduceLT, Nat.reduceAdd, reduceCtorEq, num, boo, str, ints, aV, aTab, aInst, aS, aT, aC, aRow, num, boo, str, aE_eq, aV]) (by first | rfl | (simp only [ends, ite_true, ite_false, reduceIte, Nat.reduceEqDiff, Nat.reduceLeDiff, Nat.reduceLT, Nat.reduceAdd, reduceCtorEq, num, boo, str, ints, aV, aTab, aInst, aS, aT, aC, aRow, num, boo, str, aE_eq, aV]; done) | simp [ends, ite_true, ite_false, reduceIte, Nat.reduceEqDiff, Nat.reduceLeDiff, Nat.reduceLT, Nat.reduceAdd, reduceCtorEq, num, boo, str, ints, aV, aTab, aInst, aS, aT, aC, aRow, num, boo, str, aE_eq, aV]) (by simp only [ends, ite_true, ite_false, reduceIte, Nat.reduceEqDiff, Nat.reduceLeDiff, Nat.reduceLT, Nat.reduceAdd, reduceCtorEq, num, boo, str, ints, aV, aTab, aInst, aS, aT, aC, aRow]) (by simp [idsOk, lookO, updO, ren1]) ?_
    simp -implicitDefEqProofs only [tabN, aV, ↓steps, push_cast, reduceIte, Nat.reduceEqDiff, Nat.reduceAdd, Nat.reduceMul, Nat.reduceLT, Nat.reduceLeDiff, Int.reduceToNat, Int.reduceLE, Int.reduceLT, reduceCtorEq, tte, num, boo, str, ints, aV, aTab, aInst, aS, aT, aC, aRow]
    refine ⟨drawx_intro (by kernel_rfl), ?_⟩
    exact ret_v (by first | trivial | (simp; done) | (simp; omega)) (by rw [← hr] <;> first | rfl | (simp [applyM]; done) | (simp_all [applyM]; done)) (by simp only [ends, ite_true, ite_false, reduceIte, Nat.reduceEqDiff, Nat.reduceLeDiff, Nat.reduceLT, Nat.reduceAdd, reduceCtorEq, num, boo, str, ints, aV, aTab, aInst, aS, aT, aC, aRow])
  refine bcase_intro (fun h21 => ?_) fun h21 => ?_
  · have e : op = 21 := by simpa using h21
    subst e
    have hl : 1 ≤ l.length := len1 (by simpa [kidsR] using hk)
    refine ⟨by omega, ?_⟩
    refine callx_of [[0]] [] rfl (c_etruth ((l.getD 0 default).kind == 0)) (by first | (simp; done) | (simp [rowsOf_length]; done) | (simp [rowsOf_length]; omega)) (by first | (simp only [ends, ite_true, ite_false, reduceIte, Nat.reduceEqDiff, Nat.reduceLeDiff, Nat.reduceLT, Nat.reduceAdd, reduceCtorEq, num, boo, str, ints, aV, aTab, aInst, aS, aT, aC, aRow, num, boo, str, aE_eq, aV]; done) | simp [ends, ite_true, ite_false, reduceIte, Nat.reduceEqDiff, Nat.reduceLeDiff, Nat.reduceLT, Nat.reduceAdd, reduceCtorEq, num, boo, str, ints, aV, aTab, aInst, aS, aT, aC, aRow, num, boo, str, aE_eq, aV]) (by first | rfl | (simp only [ends, ite_true, ite_false, reduceIte, Nat.reduceEqDiff, Nat.reduceLeDiff, Nat.reduceLT, Nat.reduceAdd, reduceCtorEq, num, boo, str, ints, aV, aTab, aInst, aS, aT, aC, aRow, num, boo, str, aE_eq, aV]; done) | simp [ends, ite_true, ite_false, reduceIte, Nat.reduceEqDiff, Nat.reduceLeDiff, Nat.reduceLT, Nat.reduceAdd, reduceCtorEq, num, boo, str, ints, aV, aTab, aInst, aS, aT, aC, aRow, num, boo, str, aE_eq, aV]) (by simp only [ends, ite_true, ite_false, reduceIte, Nat.reduceEqDiff, Nat.reduceLeDiff, Nat.reduceLT, Nat.reduceAdd, reduceCtorEq, num, boo, str, ints, aV, aTab, aInst, aS, aT, aC, aRow]) (by simp [idsOk, lookO, updO, ren1]) ?_
    simp -implicitDefEqProofs only [tabN, aV, ↓steps, push_cast, reduceIte, Nat.reduceEqDiff, Nat.reduceAdd, Nat.reduceMul, Nat.reduceLT, Nat.reduceLeDiff, Int.reduceToNat, Int.reduceLE, Int.reduceLT, reduceCtorEq, tte, num, boo, str, ints, aV, aTab, aInst, aS, aT, aC, aRow]
    exact ret_v (by first | trivial | (simp; done) | (simp; omega)) (by rw [← hr] <;> first | rfl | (simp [applyM]; done) | (simp_all [applyM]; done)) (by simp only [ends, ite_true, ite_false, reduceIte, Nat.reduceEqDiff, Nat.reduceLeDiff, Nat.reduceLT, Nat.reduceAdd, reduceCtorEq, num, boo, str, ints, aV, aTab, aInst, aS, aT, aC, aRow])
  refine bcase_intro (fun h22 => ?_) fun h22 => ?_
  · have e : op = 22 := by simpa using h22
    subst e
    have hl : 2 ≤ l.length := len2 (by simpa [kidsR] using hk)
    refine ⟨by omega, by omega, ?_⟩
    refine callx_of [[0, 0, 0], [0, 0, 0]] [] rfl (c_and (l.getD 0 default) (l.getD 1 default)) (by first | (simp; done) | (simp [rowsOf_length]; done) | (simp [rowsOf_length]; omega)) (by first | (simp only [ends, ite_true, ite_false, reduceIte, Nat.reduceEqDiff, Nat.reduceLeDiff, Nat.reduceLT, Nat.reduceAdd, reduceCtorEq, num, boo, str, ints, aV, aTab, aInst, aS, aT, aC, aRow, num, boo, str, aE_eq, aV]; done) | simp [ends, ite_true, ite_false, reduceIte, Nat.reduceEqDiff, Nat.reduceLeDiff, Nat.reduceLT, Nat.reduceAdd, reduceCtorEq, num, boo, str, ints, aV, aTab, aInst, aS, aT, aC, aRow, num, boo, str, aE_eq, aV]) (by first | rfl | (simp only [ends, ite_true, ite_false, reduceIte, Nat.reduceEqDiff, Nat.reduceLeDiff, Nat.reduceLT, Nat.reduceAdd, reduceCtorEq, num, boo, str, ints, aV, aTab, aInst, aS, aT, aC, aRow, num, boo, str, aE_eq, aV]; done) | simp [ends, ite_true, ite_false, reduceIte, Nat.reduceEqDiff, Nat.reduceLeDiff, Nat.reduceLT, Nat.reduceAdd, reduceCtorEq, num, boo, str, ints, aV, aTab, aInst, aS, aT, aC, aRow, num, boo, str, aE_eq, aV]) (by simp only [ends, ite_true, ite_false, reduceIte, Nat.reduceEqDiff, Nat.reduceLeDiff, Nat.reduceLT, Nat.reduceAdd, reduceCtorEq, num, boo, str, ints, aV, aTab, aInst, aS, aT, aC, aRow]) (by simp [idsOk, lookO, updO, ren1]) ?_
    simp -implicitDefEqProofs only [tabN, aV, ↓steps, push_cast, reduceIte, Nat.reduceEqDiff, Nat.reduceAdd, Nat.reduceMul, Nat.reduceLT, Nat.reduceLeDiff, Int.reduceToNat, Int.reduceLE, Int.reduceLT, reduceCtorEq, tte, num, boo, str, ints, aV, aTab, aInst, aS, aT, aC, aRow]
    refine ⟨drawx_intro (by kernel_rfl), ?_⟩
    exact ret_v (by first | trivial | (simp; done) | (simp; omega)) (by rw [← hr] <;> first | rfl | (simp [applyM]; done) | (simp_all [applyM]; done)) (by simp only [ends, ite_true, ite_false, reduceIte, Nat.reduceEqDiff, Nat.reduceLeDiff, Nat.reduceLT, Nat.reduceAdd, reduceCtorEq, num, boo, str, ints, aV, aTab, aInst, aS, aT, aC, aRow])
  refine bcase_intro (fun h23 => ?_) fun h23 => ?_
  · have e : op = 23 := by simpa using h23
    subst e
    have hl : 2 ≤ l.length := len2 (by simpa [kidsR] using hk)
    refine ⟨by omega, by omega, ?_⟩
    refine callx_of [[0, 0, 0], [0, 0, 0]] [] rfl (c_or2 (l.getD 0 default) (l.getD 1 default)) (by first | (simp; done) | (simp [rowsOf_length]; done) | (simp [rowsOf_length]; omega)) (by first | (simp only [ends, ite_true, ite_false, reduceIte, Nat.reduceEqDiff, Nat.reduceLeDiff, Nat.reduceLT, Nat.reduceAdd, reduceCtorEq, num, boo, str, ints, aV, aTab, aInst, aS, aT, aC, aRow, num, boo, str, aE_eq, aV]; done) | simp [ends, ite_true, ite_false, reduceIte, Nat.reduceEqDiff, Nat.reduceLeDiff, Nat.reduceLT, Nat.reduceAdd, reduceCtorEq, num, boo, str, ints, aV, aTab, aInst, aS, aT, aC, aRow, num, boo, str, aE_eq, aV]) (by first | rfl | (simp only [ends, ite_true, ite_false, reduceIte, Nat.reduceEqDiff, Nat.reduceLeDiff, Nat.reduceLT, Nat.reduceAdd, reduceCtorEq, num, boo, str, ints, aV, aTab, aInst, aS, aT, aC, aRow, num, boo, str, aE_eq, aV]; done) | simp [ends, ite_true, ite_false, reduceIte, Nat.reduceEqDiff, Nat.reduceLeDiff, Nat.reduceLT, Nat.reduceAdd, reduceCtorEq, num, boo, str, ints, aV, aTab, aInst, aS, aT, aC, aRow, num, boo, str, aE_eq, aV]) (by simp only [ends, ite_true, ite_false, reduceIte, Nat.reduceEqDiff, Nat.reduceLeDiff, Nat.reduceLT, Nat.reduceAdd, reduceCtorEq, num, boo, str, ints, aV, aTab, aInst, aS, aT, aC, aRow]) (by simp [idsOk, lookO, updO, ren1]) ?_
    simp -implicitDefEqProofs only [tabN, aV, ↓steps, push_cast, reduceIte, Nat.reduceEqDiff, Nat.reduceAdd, Nat.reduceMul, Nat.reduceLT, Nat.reduceLeDiff, Int.reduceToNat, Int.reduceLE, Int.reduceLT, reduceCtorEq, tte, num, boo, str, ints, aV, aTab, aInst, aS, aT, aC, aRow]
    refine ⟨drawx_intro (by kernel_rfl), ?_⟩
    exact ret_v (by first | trivial | (simp; done) | (simp; omega)) (by rw [← hr] <;> first | rfl | (simp [applyM]; done) | (simp_all [applyM]; done)) (by simp only [ends, ite_true, ite_false, reduceIte, Nat.reduceEqDiff, Nat.reduceLeDiff, Nat.reduceLT, Nat.reduceAdd, reduceCtorEq, num, boo, str, ints, aV, aTab, aInst, aS, aT, aC, aRow])
  refine bcase_intro (fun h24 => ?_) fun h24 => ?_
  · have e : op = 24 := by simpa using h24
    subst e
    have hl : 1 ≤ l.length := len1 (by simpa [kidsR] using hk)
    refine ⟨by omega, ?_⟩
    refine callx_of [[0, 0, 0]] [] rfl (c_not (l.getD 0 default)) (by first | (simp; done) | (simp [rowsOf_length]; done) | (simp [rowsOf_length]; omega)) (by first | (simp only [ends, ite_true, ite_false, reduceIte, Nat.reduceEqDiff, Nat.reduceLeDiff, Nat.reduceLT, Nat.reduceAdd, reduceCtorEq, num, boo, str, ints, aV, aTab, aInst, aS, aT, aC, aRow, num, boo, str, aE_eq, aV]; done) | simp [ends, ite_true, ite_false, reduceIte, Nat.reduceEqDiff, Nat.reduceLeDiff, Nat.reduceLT, Nat.reduceAdd, reduceCtorEq, num, boo, str, ints, aV, aTab, aInst, aS, aT, aC, aRow, num, boo, str, aE_eq, aV]) (by first | rfl | (simp only [ends, ite_true, ite_false, reduceIte, Nat.reduceEqDiff, Nat.reduceLeDiff, Nat.reduceLT, Nat.reduceAdd, reduceCtorEq, num, boo, str, ints, aV, aTab, aInst, aS, aT, aC, aRow, num, boo, str, aE_eq, aV]; done) | simp [ends, ite_true, ite_false, reduceIte, Nat.reduceEqDiff, Nat.reduceLeDiff, Nat.reduceLT, Nat.reduceAdd, reduceCtorEq, num, boo, str, ints, aV, aTab, aInst, aS, aT, aC, aRow, num, boo, str, aE_eq, aV]) (by simp only [ends, ite_true, ite_false, reduceIte, Nat.reduceEqDiff, Nat.reduceLeDiff, Nat.reduceLT, Nat.reduceAdd, reduceCtorEq, num, boo, str, ints, aV, aTab, aInst, aS, aT, aC, aRow]) (by simp [idsOk, lookO, updO, ren1]) ?_
    simp -implicitDefEqProofs only [tabN, aV, ↓steps, push_cast, reduceIte, Nat.reduceEqDiff, Nat.reduceAdd, Nat.reduceMul, Nat.reduceLT, Nat.reduceLeDiff, Int.reduceToNat, Int.reduceLE, Int.reduceLT, reduceCtorEq, tte, num, boo, str, ints, aV, aTab, aInst, aS, aT, aC, aRow]
    exact ret_v (by first | trivial | (simp; done) | (simp; omega)) (by rw [← hr] <;> first | rfl | (simp [applyM]; done) | (simp_all [applyM]; done)) (by simp only [ends, ite_true, ite_false, reduceIte, Nat.reduceEqDiff, Nat.reduceLeDiff, Nat.reduceLT, Nat.reduceAdd, reduceCtorEq, num, boo, str, ints, aV, aTab, aInst, aS, aT, aC, aRow])
  refine bcase_intro (fun h25 => ?_) fun h25 => ?_
  · have e : op = 25 := by simpa using h25
    subst e
    have hl : 1 ≤ l.length := len1 (by simpa [kidsR] using hk)
    refine ⟨by omega, ?_⟩
    refine callx_of [[0, 0, 0]] [] rfl (c_Truth (l.getD 0 default)) (by first | (simp; done) | (simp [rowsOf_length]; done) | (simp [rowsOf_length]; omega)) (by first | (simp only [ends, ite_true, ite_false, reduceIte, Nat.reduceEqDiff, Nat.reduceLeDiff, Nat.reduceLT, Nat.reduceAdd, reduceCtorEq, num, boo, str, ints, aV, aTab, aInst, aS, aT, aC, aRow, num, boo, str, aE_eq, aV]; done) | simp [ends, ite_true, ite_false, reduceIte, Nat.reduceEqDiff, Nat.reduceLeDiff, Nat.reduceLT, Nat.reduceAdd, reduceCtorEq, num, boo, str, ints, aV, aTab, aInst, aS, aT, aC, aRow, num, boo, str, aE_eq, aV]) (by first | rfl | (simp only [ends, ite_true, ite_false, reduceIte, Nat.reduceEqDiff, Nat.reduceLeDiff, Nat.reduceLT, Nat.reduceAdd, reduceCtorEq, num, boo, str, ints, aV, aTab, aInst, aS, aT, aC, aRow, num, boo, str, aE_eq, aV]; done) | simp [ends, ite_true, ite_false, reduceIte, Nat.reduceEqDiff, Nat.reduceLeDiff, Nat.reduceLT, Nat.reduceAdd, reduceCtorEq, num, boo, str, ints, aV, aTab, aInst, aS, aT, aC, aRow, num, boo, str, aE_eq, aV]) (by simp only [ends, ite_true, ite_false, reduceIte, Nat.reduceEqDiff, Nat.reduceLeDiff, Nat.reduceLT, Nat.reduceAdd, reduceCtorEq, num, boo, str, ints, aV, aTab, aInst, aS, aT, aC, aRow]) (by simp [idsOk, lookO, updO, ren1]) ?_
    simp -implicitDefEqProofs only [tabN, aV, ↓steps, push_cast, reduceIte, Nat.reduceEqDiff, Nat.reduceAdd, Nat.reduceMul, Nat.reduceLT, Nat.reduceLeDiff, Int.reduceToNat, Int.reduceLE, Int.reduceLT, reduceCtorEq, tte, num, boo, str, ints, aV, aTab, aInst, aS, aT, aC, aRow]
    refine callx_of [[0]] [] rfl (c_etruth (truthM (l.getD 0 default) == 1)) (by first | (simp; done) | (simp [rowsOf_length]; done) | (simp [rowsOf_length]; omega)) (by first | (simp only [ends, ite_true, ite_false, reduceIte, Nat.reduceEqDiff, Nat.reduceLeDiff, Nat.reduceLT, Nat.reduceAdd, reduceCtorEq, num, boo, str, ints, aV, aTab, aInst, aS, aT, aC, aRow, num, boo, str, aE_eq, aV]; done) | simp [ends, ite_true, ite_false, reduceIte, Nat.reduceEqDiff, Nat.reduceLeDiff, Nat.reduceLT, Nat.reduceAdd, reduceCtorEq, num, boo, str, ints, aV, aTab, aInst, aS, aT, aC, aRow, num, boo, str, aE_eq, aV]) (by first | rfl | (simp only [ends, ite_true, ite_false, reduceIte, Nat.reduceEqDiff, Nat.reduceLeDiff, Nat.reduceLT, Nat.reduceAdd, reduceCtorEq, num, boo, str, ints, aV, aTab, aInst, aS, aT, aC, aRow, num, boo, str, aE_eq, aV]; done) | simp [ends, ite_true, ite_false, reduceIte, Nat.reduceEqDiff, Nat.reduceLeDiff, Nat.reduceLT, Nat.reduceAdd, reduceCtorEq, num, boo, str, ints, aV, aTab, aInst, aS, aT, aC, aRow, num, boo, str, aE_eq, aV]) (by simp only [ends, ite_true, ite_false, reduceIte, Nat.reduceEqDiff, Nat.reduceLeDiff, Nat.reduceLT, Nat.reduceAdd, reduceCtorEq, num, boo, str, ints, aV, aTab, aInst, aS, aT, aC, aRow]) (by simp [idsOk, lookO, updO, ren1]) ?_
    simp -implicitDefEqProofs only [tabN, aV, ↓steps, push_cast, reduceIte, Nat.reduceEqDiff, Nat.reduceAdd, Nat.reduceMul, Nat.reduceLT, Nat.reduceLeDiff, Int.reduceToNat, Int.reduceLE, Int.reduceLT, reduceCtorEq, tte, num, boo, str, ints, aV, aTab, aInst, aS, aT, aC, aRow]
    exact ret_v (by first | trivial | (simp; done) | (simp; omega)) (by rw [← hr] <;> first | rfl | (simp [applyM]; done) | (simp_all [applyM]; done)) (by simp only [ends, ite_true, ite_false, reduceIte, Nat.reduceEqDiff, Nat.reduceLeDiff, Nat.reduceLT, Nat.reduceAdd, reduceCtorEq, num, boo, str, ints, aV, aTab, aInst, aS, aT, aC, aRow])
  refine bcase_intro (fun h27 => ?_) fun h27 => ?_
  · have e : op = 27 := by simpa using h27
    subst e
    have hl : 2 ≤ l.length := len2 (by simpa [kidsR] using hk)
    refine ⟨by omega, ?_⟩
    refine bcase_intro (fun g => ?_) fun g => ?_
    · refine ⟨by omega, ?_⟩
      have g1 : (l.getD 0 default).kind = 0 := by simpa using g
      have hM : applyM 27 l = (l.getD 1 default) := if_pos g1
      rw [hM] at hr
      exact ret_v (by first | trivial | (simp; done) | (simp; omega)) (by rw [← hr] <;> first | rfl | (simp [applyM]; done) | (simp_all [applyM]; done)) (by simp only [ends, ite_true, ite_false, reduceIte, Nat.reduceEqDiff, Nat.reduceLeDiff, Nat.reduceLT, Nat.reduceAdd, reduceCtorEq, num, boo, str, ints, aV, aTab, aInst, aS, aT, aC, aRow])
    · refine ⟨by omega, ?_⟩
      have g1 : ¬ (l.getD 0 default).kind = 0 := by simpa using g
      have hM : applyM 27 l = (l.getD 0 default) := if_neg g1
      rw [hM] at hr
      exact ret_v (by first | trivial | (simp; done) | (simp; omega)) (by rw [← hr] <;> first | rfl | (simp [applyM]; done) | (simp_all [applyM]; done)) (by simp only [ends, ite_true, ite_false, reduceIte, Nat.reduceEqDiff, Nat.reduceLeDiff, Nat.reduceLT, Nat.reduceAdd, reduceCtorEq, num, boo, str, ints, aV, aTab, aInst, aS, aT, aC, aRow])
  refine bcase_intro (fun h28 => ?_) fun h28 => ?_
  · have e : op = 28 := by simpa using h28
    subst e
    have hl : 2 ≤ l.length := by have : (l.length : Int) ≥ 2 := by simpa [kidsR] using hk
                                 omega
    refine callx_of [[0]] [] rfl (c_bool0) (by first | (simp; done) | (simp [rowsOf_length]; done) | (simp [rowsOf_length]; omega)) (by first | (simp only [ends, ite_true, ite_false, reduceIte, Nat.reduceEqDiff, Nat.reduceLeDiff, Nat.reduceLT, Nat.reduceAdd, reduceCtorEq, num, boo, str, ints, aV, aTab, aInst, aS, aT, aC, aRow, num, boo, str, aE_eq, aV]; done) | simp [ends, ite_true, ite_false, reduceIte, Nat.reduceEqDiff, Nat.reduceLeDiff, Nat.reduceLT, Nat.reduceAdd, reduceCtorEq, num, boo, str, ints, aV, aTab, aInst, aS, aT, aC, aRow, num, boo, str, aE_eq, aV]) (by first | rfl | (simp only [ends, ite_true, ite_false, reduceIte, Nat.reduceEqDiff, Nat.reduceLeDiff, Nat.reduceLT, Nat.reduceAdd, reduceCtorEq, num, boo, str, ints, aV, aTab, aInst, aS, aT, aC, aRow, num, boo, str, aE_eq, aV]; done) | simp [ends, ite_true, ite_false, reduceIte, Nat.reduceEqDiff, Nat.reduceLeDiff, Nat.reduceLT, Nat.reduceAdd, reduceCtorEq, num, boo, str, ints, aV, aTab, aInst, aS, aT, aC, aRow, num, boo, str, aE_eq, aV]) (by simp only [ends, ite_true, ite_false, reduceIte, Nat.reduceEqDiff, Nat.reduceLeDiff, Nat.reduceLT, Nat.reduceAdd, reduceCtorEq, num, boo, str, ints, aV, aTab, aInst, aS, aT, aC, aRow]) (by simp [idsOk, lookO, updO, ren1]) ?_
    simp -implicitDefEqProofs only [tabN, aV, ↓steps, push_cast, reduceIte, Nat.reduceEqDiff, Nat.reduceAdd, Nat.reduceMul, Nat.reduceLT, Nat.reduceLeDiff, Int.reduceToNat, Int.reduceLE, Int.reduceLT, reduceCtorEq, tte, num, boo, str, ints, aV, aTab, aInst, aS, aT, aC, aRow]
    refine ⟨by omega, ?_⟩
    have hM : applyM 28 l = inM (l.getD 0 default) (ofV false) (l.drop 1) := rfl
    rw [hM] at hr
    have hdl : (l.drop 1).length ≤ 1000 := by simp; omega
    simp only [List.take_length]
    generalize l.drop 1 = r at hr hdl ⊢
    have hsn : ∀ n, n < r.length → inM (l.getD 0 default) (ofV false) (r.take (n + 1)) = orM (inM (l.getD 0 default) (ofV false) (r.take n)) (equalM (l.getD 0 default) (r.getD n default)) := fun n h => by
      rw [take_snoc _ _ h, inM_snoc]
    generalize hv0 : l.getD 0 default = v0 at hr hsn
    generalize ha : (fun n : Nat => inM v0 (ofV false) (r.take n)) = acc
    have ha0 : acc 0 = ofV false := by rw [← ha]; rfl
    have hsn : ∀ n, n < r.length → acc (n + 1) = orM (acc n) (equalM v0 (r.getD n default)) := fun n h => by rw [← ha]; exact hsn n h
    have haN : acc r.length = inM v0 (ofV false) r := by rw [← ha]; simp
    rw [← haN] at hr
    refine loop_count mixed ttok 170 [1, 4, 5, 168, 169] [4] (by simp only [pickT, ends, ite_true, ite_false, reduceIte, Nat.reduceEqDiff, Nat.reduceLeDiff, Nat.reduceLT, Nat.reduceAdd, reduceCtorEq, num, boo, str, ints, aV, aTab, aInst, aS, aT, aC, aRow]; rfl) (by simp only [pickO, consO_some, ends, ite_true, ite_false, reduceIte, Nat.reduceEqDiff, Nat.reduceLeDiff, Nat.reduceLT, Nat.reduceAdd, reduceCtorEq, num, boo, str, ints, aV, aTab, aInst, aS, aT, aC, aRow]; rfl) r.length (fun _ => True) (fun _ => []) (fun n => [(5, .var [.d (.lit (.int .i64 (acc n).kind)), .d (.lit (.int .i64 (acc n).num)), .d (.lit (.string (acc n).text))])]) trivial ?_ ?_
    · exact Weak.keepL (by simp [cst, ha0, ends, ite_true, ite_false, reduceIte, Nat.reduceEqDiff, Nat.reduceLeDiff, Nat.reduceLT, Nat.reduceAdd, reduceCtorEq, num, boo, str, ints, aV, aTab, aInst, aS, aT, aC, aRow]) (by simp [cst, ha0, ends, ite_true, ite_false, reduceIte, Nat.reduceEqDiff, Nat.reduceLeDiff, Nat.reduceLT, Nat.reduceAdd, reduceCtorEq, num, boo, str, ints, aV, aTab, aInst, aS, aT, aC, aRow]) (by simp [cst, ha0, ends, ite_true, ite_false, reduceIte, Nat.reduceEqDiff, Nat.reduceLeDiff, Nat.reduceLT, Nat.reduceAdd, reduceCtorEq, num, boo, str, ints, aV, aTab, aInst, aS, aT, aC, aRow])
    intro I hI n hn hi
    simp -implicitDefEqProofs only [cst, ↓steps, push_cast, reduceIte, Nat.reduceEqDiff, Nat.reduceAdd, Nat.reduceMul, Nat.reduceLT, Nat.reduceLeDiff, Int.reduceToNat, Int.reduceLE, Int.reduceLT, reduceCtorEq, tte, num, boo, str, ints, aV, aTab, aInst, aS, aT, aC, aRow]
    refine bcase_intro (fun h => ?_) fun h => ?_
    · simp only [decide_eq_true_eq] at h
      have h' : n < r.length := by omega
      have hw := wrap_succ h' (by omega)
      refine ⟨(by first | omega | trivial | (refine ⟨?_, ?_⟩ <;> first | omega | trivial | (refine ⟨?_, ?_⟩ <;> first | omega | trivial | (refine ⟨?_, ?_⟩ <;> first | omega | trivial | rfl)))), by omega, ?_⟩
      rw [hv0]
      refine callx_of [[0, 0, 0], [0, 0, 0]] [] rfl (c_equal v0 (r.getD n default)) (by first | (simp; done) | (simp [rowsOf_length]; done) | (simp [rowsOf_length]; omega)) (by first | (simp only [ends, ite_true, ite_false, reduceIte, Nat.reduceEqDiff, Nat.reduceLeDiff, Nat.reduceLT, Nat.reduceAdd, reduceCtorEq, num, boo, str, ints, aV, aTab, aInst, aS, aT, aC, aRow, num, boo, str, aE_eq, aV]; done) | simp [ends, ite_true, ite_false, reduceIte, Nat.reduceEqDiff, Nat.reduceLeDiff, Nat.reduceLT, Nat.reduceAdd, reduceCtorEq, num, boo, str, ints, aV, aTab, aInst, aS, aT, aC, aRow, num, boo, str, aE_eq, aV]) (by first | rfl | (simp only [ends, ite_true, ite_false, reduceIte, Nat.reduceEqDiff, Nat.reduceLeDiff, Nat.reduceLT, Nat.reduceAdd, reduceCtorEq, num, boo, str, ints, aV, aTab, aInst, aS, aT, aC, aRow, num, boo, str, aE_eq, aV]; done) | simp [ends, ite_true, ite_false, reduceIte, Nat.reduceEqDiff, Nat.reduceLeDiff, Nat.reduceLT, Nat.reduceAdd, reduceCtorEq, num, boo, str, ints, aV, aTab, aInst, aS, aT, aC, aRow, num, boo, str, aE_eq, aV]) (by simp only [ends, ite_true, ite_false, reduceIte, Nat.reduceEqDiff, Nat.reduceLeDiff, Nat.reduceLT, Nat.reduceAdd, reduceCtorEq, num, boo, str, ints, aV, aTab, aInst, aS, aT, aC, aRow]) (by simp [idsOk, lookO, updO, ren1]) ?_
      simp -implicitDefEqProofs only [tabN, aV, ↓steps, push_cast, reduceIte, Nat.reduceEqDiff, Nat.reduceAdd, Nat.reduceMul, Nat.reduceLT, Nat.reduceLeDiff, Int.reduceToNat, Int.reduceLE, Int.reduceLT, reduceCtorEq, tte, num, boo, str, ints, aV, aTab, aInst, aS, aT, aC, aRow]
      refine callx_of [[0, 0, 0], [0, 0, 0]] [] rfl (c_or2 (acc n) (equalM v0 (r.getD n default))) (by first | (simp; done) | (simp [rowsOf_length]; done) | (simp [rowsOf_length]; omega)) (by first | (simp only [ends, ite_true, ite_false, reduceIte, Nat.reduceEqDiff, Nat.reduceLeDiff, Nat.reduceLT, Nat.reduceAdd, reduceCtorEq, num, boo, str, ints, aV, aTab, aInst, aS, aT, aC, aRow, num, boo, str, aE_eq, aV]; done) | simp [ends, ite_true, ite_false, reduceIte, Nat.reduceEqDiff, Nat.reduceLeDiff, Nat.reduceLT, Nat.reduceAdd, reduceCtorEq, num, boo, str, ints, aV, aTab, aInst, aS, aT, aC, aRow, num, boo, str, aE_eq, aV]) (by first | rfl | (simp only [ends, ite_true, ite_false, reduceIte, Nat.reduceEqDiff, Nat.reduceLeDiff, Nat.reduceLT, Nat.reduceAdd, reduceCtorEq, num, boo, str, ints, aV, aTab, aInst, aS, aT, aC, aRow, num, boo, str, aE_eq, aV]; done) | simp [ends, ite_true, ite_false, reduceIte, Nat.reduceEqDiff, Nat.reduceLeDiff, Nat.reduceLT, Nat.reduceAdd, reduceCtorEq, num, boo, str, ints, aV, aTab, aInst, aS, aT, aC, aRow, num, boo, str, aE_eq, aV]) (by simp only [ends, ite_true, ite_false, reduceIte, Nat.reduceEqDiff, Nat.reduceLeDiff, Nat.reduceLT, Nat.reduceAdd, reduceCtorEq, num, boo, str, ints, aV, aTab, aInst, aS, aT, aC, aRow]) (by simp [idsOk, lookO, updO, ren1]) ?_
      simp -implicitDefEqProofs only [tabN, aV, ↓steps, push_cast, reduceIte, Nat.reduceEqDiff, Nat.reduceAdd, Nat.reduceMul, Nat.reduceLT, Nat.reduceLeDiff, Int.reduceToNat, Int.reduceLE, Int.reduceLT, reduceCtorEq, tte, num, boo, str, ints, aV, aTab, aInst, aS, aT, aC, aRow]
      refine ⟨drawx_intro (by kernel_rfl), ?_⟩
      rw [← hsn n h']
      exact cnt_again hI n rfl h' trivial (by simp only [hw, ends, ite_true, ite_false, reduceIte, Nat.reduceEqDiff, Nat.reduceLeDiff, Nat.reduceLT, Nat.reduceAdd, reduceCtorEq, num, boo, str, ints, aV, aTab, aInst, aS, aT, aC, aRow]) (by simp [hw, ends, ite_true, ite_false, reduceIte, Nat.reduceEqDiff, Nat.reduceLeDiff, Nat.reduceLT, Nat.reduceAdd, reduceCtorEq, num, boo, str, ints, aV, aTab, aInst, aS, aT, aC, aRow]) (by simp [hw, ends, ite_true, ite_false, reduceIte, Nat.reduceEqDiff, Nat.reduceLeDiff, Nat.reduceLT, Nat.reduceAdd, reduceCtorEq, num, boo, str, ints, aV, aTab, aInst, aS, aT, aC, aRow]) (by simp [hw, ends, ite_true, ite_false, reduceIte, Nat.reduceEqDiff, Nat.reduceLeDiff, Nat.reduceLT, Nat.reduceAdd, reduceCtorEq, num, boo, str, ints, aV, aTab, aInst, aS, aT, aC, aRow])
    · have hn' : n = r.length := by simp at h; omega
      subst hn'
      exact ret_v (by first | trivial | (simp; done) | (simp; omega)) (by rw [← hr] <;> first | rfl | (simp [nullV]; done) | (simp_all [nullV]; done)) (by simp only [ends, ite_true, ite_false, reduceIte, Nat.reduceEqDiff, Nat.reduceLeDiff, Nat.reduceLT, Nat.reduceAdd, reduceCtorEq, num, boo, str, ints, aV, aTab, aInst, aS, aT, aC, aRow])
  · have hM : applyM op l = nullV := by
      simp only [beq_eq_false_iff_ne, ne_eq] at h6 h7 h8 h9 h10 h11 h12 h13 h14 h15 h16 h17 h18 h19 h20 h21 h22 h23 h24 h25 h27 h28
      simp only [applyM, *, or_self, if_false]
    rw [hM] at hr
    exact ret_v (by first | trivial | (simp; done) | (simp; omega)) (by rw [← hr] <;> first | rfl | (simp [nullV]; done) | (simp_all [nullV]; done)) (by simp only [ends, ite_true, ite_false, reduceIte, Nat.reduceEqDiff, Nat.reduceLeDiff, Nat.reduceLT, Nat.reduceAdd, reduceCtorEq, num, boo, str, ints, aV, aTab, aInst, aS, aT, aC, aRow])
end Go.Proofs.YtkccdfaelbepeaaDoor

namespace Go.Proofs.YtkccdfaelbepeaaDoor
open Go.Am
set_option linter.unusedVariables false
set_option maxRecDepth 100000
set_option maxHeartbeats 4000000

/-- The value of an expression whose operands have values. -/
def evalK (row : List Val) (e : Ex) (vs : List Val) : Val :=
  if countM e = false then nullV
  else if e.op = 2 then ⟨1, e.num, ByteArray.empty⟩ else if e.op = 3 then ⟨2, e.num, ByteArray.empty⟩ else if e.op = 4 then ⟨3, 0, e.text⟩
  else if e.op = 5 then (if 0 ≤ e.col ∧ e.col < row.length then row.getD e.col.toNat default else nullV)
  else if e.op = 26 then (if truthM (vs.getD 0 default) = 1 then vs.getD 1 default else vs.getD 2 default)
  else applyM e.op vs
mutual
def evalM (row : List Val) : Ex → Val
  | .mk a b c d g ks => evalK row (.mk a b c d g ks) (evalL row ks)
def evalL (row : List Val) : List Ex → List Val
  | [] => []
  | e :: l => evalM row e :: evalL row l
end
theorem evalL_eq (row : List Val) : ∀ l, evalL row l = l.map (evalM row)
  | [] => rfl
  | e :: l => by rw [evalL, evalL_eq row l]; rfl
theorem evalM_eq (row : List Val) (e : Ex) : evalM row e = evalK row e (e.kids.map (evalM row)) := by cases e; rw [evalM, evalL_eq]; rfl
def valsTo (row : List Val) (e : Ex) (n : Nat) : List Val := (e.kids.take n).map (evalM row)
theorem valsTo_succ (row : List Val) (e : Ex) (n : Nat) (h : n < e.kids.length) : valsTo row e (n + 1) = valsTo row e n ++ [evalM row (e.kids.getD n default)] := by
  rw [valsTo, take_snoc _ _ h, List.map_append]; rfl
theorem valsTo_length (row : List Val) (e : Ex) (n : Nat) (h : n ≤ e.kids.length) : (valsTo row e n).length = n := by simp [valsTo]; omega
theorem kids_op {e : Ex} (h : countM e = true) : kidsR e.op e.kids.length = true := by
  have : isOp e.op = true := by simp only [countM, Bool.and_eq_true] at h; exact h.1
  rw [kids_count this]; exact h
theorem getD_map {α β : Type} [Inhabited α] [Inhabited β] (f : α → β) (l : List α) (n : Nat) (h : n < l.length) : (l.map f).getD n default = f (l.getD n default) := by
  simp [List.getD_eq_getElem?_getD, h]

theorem c_eval (row : List Val) : ∀ e : Ex, Ok12 e → ACall Tryd.prog 20 [aE e, aRow row] [] (aV (evalM row e)) [] :=
  ex_ind (p := fun e => Ok12 e → ACall Tryd.prog 20 [aE e, aRow row] [] (aV (evalM row e)) []) fun e ih ho => by
  refine ACall.enter mixed ttok Tryd.func20 rfl rfl _ Tryd.ntmps20 (Nat.le_of_ble_eq_true rfl) (by kernel_rfl) _ (congrArg Array.toList Tryd.results20) ?_
  generalize hr : aV (evalM row e) = R
  have hl := ho.kids
  rw [evalM_eq] at hr
  unfold evalK at hr
  simp -implicitDefEqProofs only [argT, tabN, ↓steps, push_cast, reduceIte, Nat.reduceEqDiff, Nat.reduceAdd, Nat.reduceMul, Nat.reduceLT, Nat.reduceLeDiff, Int.reduceToNat, Int.reduceLE, Int.reduceLT, reduceCtorEq, tte, num, boo, str, ints, aV, aTab, aInst, aS, aT, aC, aRow, aOp]
  refine callx_of [[0, 0, 0, 0, 0, 6]] [] rfl (c_known e) (by first | (simp; done) | (simp [rowsOf_length]; done) | (simp [rowsOf_length]; omega)) (by first | (simp only [ends, ite_true, ite_false, reduceIte, Nat.reduceEqDiff, Nat.reduceLeDiff, Nat.reduceLT, Nat.reduceAdd, reduceCtorEq, num, boo, str, ints, aV, aTab, aInst, aS, aT, aC, aRow, aOp, num, boo, str, aE_eq, aV]; done) | simp [ends, ite_true, ite_false, reduceIte, Nat.reduceEqDiff, Nat.reduceLeDiff, Nat.reduceLT, Nat.reduceAdd, reduceCtorEq, num, boo, str, ints, aV, aTab, aInst, aS, aT, aC, aRow, aOp, num, boo, str, aE_eq, aV]) (by first | rfl | (simp only [ends, ite_true, ite_false, reduceIte, Nat.reduceEqDiff, Nat.reduceLeDiff, Nat.reduceLT, Nat.reduceAdd, reduceCtorEq, num, boo, str, ints, aV, aTab, aInst, aS, aT, aC, aRow, aOp, num, boo, str, aE_eq, aV]; done) | simp [ends, ite_true, ite_false, reduceIte, Nat.reduceEqDiff, Nat.reduceLeDiff, Nat.reduceLT, Nat.reduceAdd, reduceCtorEq, num, boo, str, ints, aV, aTab, aInst, aS, aT, aC, aRow, aOp, num, boo, str, aE_eq, aV]) (by simp only [ends, ite_true, ite_false, reduceIte, Nat.reduceEqDiff, Nat.reduceLeDiff, Nat.reduceLT, Nat.reduceAdd, reduceCtorEq, num, boo, str, ints, aV, aTab, aInst, aS, aT, aC, aRow, aOp]) (by simp [idsOk, lookO, updO, ren1]) ?_
  simp -implicitDefEqProofs only [tabN, aOp, ↓steps, push_cast, reduceIte, Nat.reduceEqDiff, Nat.reduceAdd, Nat.reduceMul, Nat.reduceLT, Nat.reduceLeDiff, Int.reduceToNat, Int.reduceLE, Int.reduceLT, reduceCtorEq, tte, num, boo, str, ints, aV, aTab, aInst, aS, aT, aC, aRow, aOp]
  refine bcase_intro (fun hc => ?_) fun hc => ?_
  · rw [if_pos (by simpa using hc)] at hr
    exact ret_v (by first | trivial | (simp; done) | (simp; omega)) (by rw [← hr] <;> first | rfl | (simp [nullV]; done) | (simp_all [nullV]; done)) (by simp only [ends, ite_true, ite_false, reduceIte, Nat.reduceEqDiff, Nat.reduceLeDiff, Nat.reduceLT, Nat.reduceAdd, reduceCtorEq, num, boo, str, ints, aV, aTab, aInst, aS, aT, aC, aRow, aOp])
  have hc' : countM e = true := by simpa using hc
  rw [if_neg (by rw [hc']; decide)] at hr
  have hkk := kids_op hc'
  refine bcase_intro (fun h2 => ?_) fun h2 => ?_
  · rw [if_pos (by simpa using h2)] at hr
    exact ret_v (by first | trivial | (simp; done) | (simp; omega)) (by rw [← hr] <;> first | rfl | (simp [nullV]; done) | (simp_all [nullV]; done)) (by simp only [ends, ite_true, ite_false, reduceIte, Nat.reduceEqDiff, Nat.reduceLeDiff, Nat.reduceLT, Nat.reduceAdd, reduceCtorEq, num, boo, str, ints, aV, aTab, aInst, aS, aT, aC, aRow, aOp])
  rw [if_neg (by simpa using h2)] at hr
  refine bcase_intro (fun h3 => ?_) fun h3 => ?_
  · rw [if_pos (by simpa using h3)] at hr
    exact ret_v (by first | trivial | (simp; done) | (simp; omega)) (by rw [← hr] <;> first | rfl | (simp [nullV]; done) | (simp_all [nullV]; done)) (by simp only [ends, ite_true, ite_false, reduceIte, Nat.reduceEqDiff, Nat.reduceLeDiff, Nat.reduceLT, Nat.reduceAdd, reduceCtorEq, num, boo, str, ints, aV, aTab, aInst, aS, aT, aC, aRow, aOp])
  rw [if_neg (by simpa using h3)] at hr
  refine bcase_intro (fun h4 => ?_) fun h4 => ?_
  · rw [if_pos (by simpa using h4)] at hr
    exact ret_v (by first | trivial | (simp; done) | (simp; omega)) (by rw [← hr] <;> first | rfl | (simp [nullV]; done) | (simp_all [nullV]; done)) (by simp only [ends, ite_true, ite_false, reduceIte, Nat.reduceEqDiff, Nat.reduceLeDiff, Nat.reduceLT, Nat.reduceAdd, reduceCtorEq, num, boo, str, ints, aV, aTab, aInst, aS, aT, aC, aRow, aOp])
  rw [if_neg (by simpa using h4)] at hr
  refine bcase_intro (fun h5 => ?_) fun h5 => ?_
  · rw [if_pos (by simpa using h5)] at hr
    refine bcase_intro (fun g1 => ?_) fun g1 => ?_
    · simp only [ge_iff_le, decide_eq_true_eq] at g1
      refine bcase_intro (fun g2 => ?_) fun g2 => ?_
      · simp only [decide_eq_true_eq] at g2
        rw [if_pos ⟨g1, g2⟩] at hr
        refine ⟨⟨g1, g2⟩, ?_⟩
        exact ret_v (by first | trivial | (simp; done) | (simp; omega)) (by rw [← hr] <;> first | rfl | (simp [nullV]; done) | (simp_all [nullV]; done)) (by simp only [ends, ite_true, ite_false, reduceIte, Nat.reduceEqDiff, Nat.reduceLeDiff, Nat.reduceLT, Nat.reduceAdd, reduceCtorEq, num, boo, str, ints, aV, aTab, aInst, aS, aT, aC, aRow, aOp])
      · simp only [decide_eq_false_iff_not] at g2
        rw [if_neg (fun h => g2 h.2)] at hr
        exact ret_v (by first | trivial | (simp; done) | (simp; omega)) (by rw [← hr] <;> first | rfl | (simp [nullV]; done) | (simp_all [nullV]; done)) (by simp only [ends, ite_true, ite_false, reduceIte, Nat.reduceEqDiff, Nat.reduceLeDiff, Nat.reduceLT, Nat.reduceAdd, reduceCtorEq, num, boo, str, ints, aV, aTab, aInst, aS, aT, aC, aRow, aOp])
    · simp only [ge_iff_le, decide_eq_false_iff_not] at g1
      rw [if_neg (fun h => g1 h.1)] at hr
      exact ret_v (by first | trivial | (simp; done) | (simp; omega)) (by rw [← hr] <;> first | rfl | (simp [nullV]; done) | (simp_all [nullV]; done)) (by simp only [ends, ite_true, ite_false, reduceIte, Nat.reduceEqDiff, Nat.reduceLeDiff, Nat.reduceLT, Nat.reduceAdd, reduceCtorEq, num, boo, str, ints, aV, aTab, aInst, aS, aT, aC, aRow, aOp])
  rw [if_neg (by simpa using h5)] at hr
  refine bcase_intro (fun h26 => ?_) fun h26 => ?_
  · have e26 : e.op = 26 := by simpa using h26
    rw [if_pos e26] at hr
    have hl3 : e.kids.length = 3 := by
      rw [e26] at hkk
      have : (e.kids.length : Int) = 3 := by simpa [kidsR] using hkk
      omega
    rw [getD_map _ _ _ (by omega), getD_map _ _ _ (by omega), getD_map _ _ _ (by omega)] at hr
    have hg : ∀ n, n < 3 → e.kids.getD n default ∈ e.kids := fun n h => getD_mem (by omega)
    refine ⟨by omega, ?_⟩
    refine callx_of [[0, 0, 0, 0, 0, 6], [3]] [] rfl (ih _ (hg 0 (by omega)) (ho.kid (hg 0 (by omega)))) (by first | (simp; done) | (simp [rowsOf_length]; done) | (simp [rowsOf_length]; omega)) (by first | (simp only [ends, ite_true, ite_false, reduceIte, Nat.reduceEqDiff, Nat.reduceLeDiff, Nat.reduceLT, Nat.reduceAdd, reduceCtorEq, num, boo, str, ints, aV, aTab, aInst, aS, aT, aC, aRow, aOp, num, boo, str, aE_eq, aV]; done) | simp [ends, ite_true, ite_false, reduceIte, Nat.reduceEqDiff, Nat.reduceLeDiff, Nat.reduceLT, Nat.reduceAdd, reduceCtorEq, num, boo, str, ints, aV, aTab, aInst, aS, aT, aC, aRow, aOp, num, boo, str, aE_eq, aV]) (by first | rfl | (simp only [ends, ite_true, ite_false, reduceIte, Nat.reduceEqDiff, Nat.reduceLeDiff, Nat.reduceLT, Nat.reduceAdd, reduceCtorEq, num, boo, str, ints, aV, aTab, aInst, aS, aT, aC, aRow, aOp, num, boo, str, aE_eq, aV]; done) | simp [ends, ite_true, ite_false, reduceIte, Nat.reduceEqDiff, Nat.reduceLeDiff, Nat.reduceLT, Nat.reduceAdd, reduceCtorEq, num, boo, str, ints, aV, aTab, aInst, aS, aT, aC, aRow, aOp, num, boo, str, aE_eq, aV]) (by simp only [ends, ite_true, ite_false, reduceIte, Nat.reduceEqDiff, Nat.reduceLeDiff, Nat.reduceLT, Nat.reduceAdd, reduceCtorEq, num, boo, str, ints, aV, aTab, aInst, aS, aT, aC, aRow, aOp]) (by simp [idsOk, lookO, updO, ren1]) ?_
    simp -implicitDefEqProofs only [tabN, aV, ↓steps, push_cast, reduceIte, Nat.reduceEqDiff, Nat.reduceAdd, Nat.reduceMul, Nat.reduceLT, Nat.reduceLeDiff, Int.reduceToNat, Int.reduceLE, Int.reduceLT, reduceCtorEq, tte, num, boo, str, ints, aV, aTab, aInst, aS, aT, aC, aRow, aOp]
    refine callx_of [[0, 0, 0]] [] rfl (c_Truth (evalM row (e.kids.getD 0 default))) (by first | (simp; done) | (simp [rowsOf_length]; done) | (simp [rowsOf_length]; omega)) (by first | (simp only [ends, ite_true, ite_false, reduceIte, Nat.reduceEqDiff, Nat.reduceLeDiff, Nat.reduceLT, Nat.reduceAdd, reduceCtorEq, num, boo, str, ints, aV, aTab, aInst, aS, aT, aC, aRow, aOp, num, boo, str, aE_eq, aV]; done) | simp [ends, ite_true, ite_false, reduceIte, Nat.reduceEqDiff, Nat.reduceLeDiff, Nat.reduceLT, Nat.reduceAdd, reduceCtorEq, num, boo, str, ints, aV, aTab, aInst, aS, aT, aC, aRow, aOp, num, boo, str, aE_eq, aV]) (by first | rfl | (simp only [ends, ite_true, ite_false, reduceIte, Nat.reduceEqDiff, Nat.reduceLeDiff, Nat.reduceLT, Nat.reduceAdd, reduceCtorEq, num, boo, str, ints, aV, aTab, aInst, aS, aT, aC, aRow, aOp, num, boo, str, aE_eq, aV]; done) | simp [ends, ite_true, ite_false, reduceIte, Nat.reduceEqDiff, Nat.reduceLeDiff, Nat.reduceLT, Nat.reduceAdd, reduceCtorEq, num, boo, str, ints, aV, aTab, aInst, aS, aT, aC, aRow, aOp, num, boo, str, aE_eq, aV]) (by simp only [ends, ite_true, ite_false, reduceIte, Nat.reduceEqDiff, Nat.reduceLeDiff, Nat.reduceLT, Nat.reduceAdd, reduceCtorEq, num, boo, str, ints, aV, aTab, aInst, aS, aT, aC, aRow, aOp]) (by simp [idsOk, lookO, updO, ren1]) ?_
    simp -implicitDefEqProofs only [tabN, aV, ↓steps, push_cast, reduceIte, Nat.reduceEqDiff, Nat.reduceAdd, Nat.reduceMul, Nat.reduceLT, Nat.reduceLeDiff, Int.reduceToNat, Int.reduceLE, Int.reduceLT, reduceCtorEq, tte, num, boo, str, ints, aV, aTab, aInst, aS, aT, aC, aRow, aOp]
    refine bcase_intro (fun g => ?_) fun g => ?_
    · rw [if_pos (by simpa using g)] at hr
      refine ⟨by omega, ?_⟩
      refine callx_of [[0, 0, 0, 0, 0, 6], [3]] [] rfl (ih _ (hg 1 (by omega)) (ho.kid (hg 1 (by omega)))) (by first | (simp; done) | (simp [rowsOf_length]; done) | (simp [rowsOf_length]; omega)) (by first | (simp only [ends, ite_true, ite_false, reduceIte, Nat.reduceEqDiff, Nat.reduceLeDiff, Nat.reduceLT, Nat.reduceAdd, reduceCtorEq, num, boo, str, ints, aV, aTab, aInst, aS, aT, aC, aRow, aOp, num, boo, str, aE_eq, aV]; done) | simp [ends, ite_true, ite_false, reduceIte, Nat.reduceEqDiff, Nat.reduceLeDiff, Nat.reduceLT, Nat.reduceAdd, reduceCtorEq, num, boo, str, ints, aV, aTab, aInst, aS, aT, aC, aRow, aOp, num, boo, str, aE_eq, aV]) (by first | rfl | (simp only [ends, ite_true, ite_false, reduceIte, Nat.reduceEqDiff, Nat.reduceLeDiff, Nat.reduceLT, Nat.reduceAdd, reduceCtorEq, num, boo, str, ints, aV, aTab, aInst, aS, aT, aC, aRow, aOp, num, boo, str, aE_eq, aV]; done) | simp [ends, ite_true, ite_false, reduceIte, Nat.reduceEqDiff, Nat.reduceLeDiff, Nat.reduceLT, Nat.reduceAdd, reduceCtorEq, num, boo, str, ints, aV, aTab, aInst, aS, aT, aC, aRow, aOp, num, boo, str, aE_eq, aV]) (by simp only [ends, ite_true, ite_false, reduceIte, Nat.reduceEqDiff, Nat.reduceLeDiff, Nat.reduceLT, Nat.reduceAdd, reduceCtorEq, num, boo, str, ints, aV, aTab, aInst, aS, aT, aC, aRow, aOp]) (by simp [idsOk, lookO, updO, ren1]) ?_
      simp -implicitDefEqProofs only [tabN, aV, ↓steps, push_cast, reduceIte, Nat.reduceEqDiff, Nat.reduceAdd, Nat.reduceMul, Nat.reduceLT, Nat.reduceLeDiff, Int.reduceToNat, Int.reduceLE, Int.reduceLT, reduceCtorEq, tte, num, boo, str, ints, aV, aTab, aInst, aS, aT, aC, aRow, aOp]
      exact ret_v (by first | trivial | (simp; done) | (simp; omega)) (by rw [← hr] <;> first | rfl | (simp [nullV]; done) | (simp_all [nullV]; done)) (by simp only [ends, ite_true, ite_false, reduceIte, Nat.reduceEqDiff, Nat.reduceLeDiff, Nat.reduceLT, Nat.reduceAdd, reduceCtorEq, num, boo, str, ints, aV, aTab, aInst, aS, aT, aC, aRow, aOp])
    · rw [if_neg (by simpa using g)] at hr
      refine ⟨by omega, ?_⟩
      refine callx_of [[0, 0, 0, 0, 0, 6], [3]] [] rfl (ih _ (hg 2 (by omega)) (ho.kid (hg 2 (by omega)))) (by first | (simp; done) | (simp [rowsOf_length]; done) | (simp [rowsOf_length]; omega)) (by first | (simp only [ends, ite_true, ite_false, reduceIte, Nat.reduceEqDiff, Nat.reduceLeDiff, Nat.reduceLT, Nat.reduceAdd, reduceCtorEq, num, boo, str, ints, aV, aTab, aInst, aS, aT, aC, aRow, aOp, num, boo, str, aE_eq, aV]; done) | simp [ends, ite_true, ite_false, reduceIte, Nat.reduceEqDiff, Nat.reduceLeDiff, Nat.reduceLT, Nat.reduceAdd, reduceCtorEq, num, boo, str, ints, aV, aTab, aInst, aS, aT, aC, aRow, aOp, num, boo, str, aE_eq, aV]) (by first | rfl | (simp only [ends, ite_true, ite_false, reduceIte, Nat.reduceEqDiff, Nat.reduceLeDiff, Nat.reduceLT, Nat.reduceAdd, reduceCtorEq, num, boo, str, ints, aV, aTab, aInst, aS, aT, aC, aRow, aOp, num, boo, str, aE_eq, aV]; done) | simp [ends, ite_true, ite_false, reduceIte, Nat.reduceEqDiff, Nat.reduceLeDiff, Nat.reduceLT, Nat.reduceAdd, reduceCtorEq, num, boo, str, ints, aV, aTab, aInst, aS, aT, aC, aRow, aOp, num, boo, str, aE_eq, aV]) (by simp only [ends, ite_true, ite_false, reduceIte, Nat.reduceEqDiff, Nat.reduceLeDiff, Nat.reduceLT, Nat.reduceAdd, reduceCtorEq, num, boo, str, ints, aV, aTab, aInst, aS, aT, aC, aRow, aOp]) (by simp [idsOk, lookO, updO, ren1]) ?_
      simp -implicitDefEqProofs only [tabN, aV, ↓steps, push_cast, reduceIte, Nat.reduceEqDiff, Nat.reduceAdd, Nat.reduceMul, Nat.reduceLT, Nat.reduceLeDiff, Int.reduceToNat, Int.reduceLE, Int.reduceLT, reduceCtorEq, tte, num, boo, str, ints, aV, aTab, aInst, aS, aT, aC, aRow, aOp]
      exact ret_v (by first | trivial | (simp; done) | (simp; omega)) (by rw [← hr] <;> first | rfl | (simp [nullV]; done) | (simp_all [nullV]; done)) (by simp only [ends, ite_true, ite_false, reduceIte, Nat.reduceEqDiff, Nat.reduceLeDiff, Nat.reduceLT, Nat.reduceAdd, reduceCtorEq, num, boo, str, ints, aV, aTab, aInst, aS, aT, aC, aRow, aOp])
  rw [if_neg (by simpa using h26)] at hr
  refine loop_count mixed ttok 80 [1, 2, 4, 78, 79] [2, 4] (by simp only [pickT, ends, ite_true, ite_false, reduceIte, Nat.reduceEqDiff, Nat.reduceLeDiff, Nat.reduceLT, Nat.reduceAdd, reduceCtorEq, num, boo, str, ints, aV, aTab, aInst, aS, aT, aC, aRow, aOp]; rfl) (by simp only [pickO, consO_some, ends, ite_true, ite_false, reduceIte, Nat.reduceEqDiff, Nat.reduceLeDiff, Nat.reduceLT, Nat.reduceAdd, reduceCtorEq, num, boo, str, ints, aV, aTab, aInst, aS, aT, aC, aRow, aOp]; rfl) e.kids.length (fun _ => True) (fun n => [(8, .vec 500 n)]) (fun n => [(500, .vec 42 3 (rowsOf rV (valsTo row e n)) 0)]) trivial ?_ ?_
  · exact (Weak.nilL 8 500 42 3 rfl rfl).trans (Weak.keepL (by simp [cst, ends, ite_true, ite_false, reduceIte, Nat.reduceEqDiff, Nat.reduceLeDiff, Nat.reduceLT, Nat.reduceAdd, reduceCtorEq, num, boo, str, ints, aV, aTab, aInst, aS, aT, aC, aRow, aOp]) (by simp [cst, valsTo, ends, ite_true, ite_false, reduceIte, Nat.reduceEqDiff, Nat.reduceLeDiff, Nat.reduceLT, Nat.reduceAdd, reduceCtorEq, num, boo, str, ints, aV, aTab, aInst, aS, aT, aC, aRow, aOp]) (by simp [cst, ends, ite_true, ite_false, reduceIte, Nat.reduceEqDiff, Nat.reduceLeDiff, Nat.reduceLT, Nat.reduceAdd, reduceCtorEq, num, boo, str, ints, aV, aTab, aInst, aS, aT, aC, aRow, aOp]))
  intro I hI n hn hi
  have hl2 := valsTo_length row e n hn
  simp -implicitDefEqProofs only [cst, ↓steps, push_cast, reduceIte, Nat.reduceEqDiff, Nat.reduceAdd, Nat.reduceMul, Nat.reduceLT, Nat.reduceLeDiff, Int.reduceToNat, Int.reduceLE, Int.reduceLT, reduceCtorEq, tte, num, boo, str, ints, aV, aTab, aInst, aS, aT, aC, aRow, aOp]
  refine bcase_intro (fun h => ?_) fun h => ?_
  · simp only [decide_eq_true_eq] at h
    have h' : n < e.kids.length := by omega
    have hw := wrap_succ h' (by omega)
    have hs := valsTo_succ row e n h'
    refine ⟨(by first | omega | trivial | (refine ⟨?_, ?_⟩ <;> first | omega | trivial | (refine ⟨?_, ?_⟩ <;> first | omega | trivial | (refine ⟨?_, ?_⟩ <;> first | omega | trivial | rfl)))), ?_⟩
    refine callx_of [[0, 0, 0, 0, 0, 6], [3]] [] rfl (ih _ (getD_mem h') (ho.kid (getD_mem h'))) (by first | (simp; done) | (simp [rowsOf_length]; done) | (simp [rowsOf_length]; omega)) (by first | (simp only [ends, ite_true, ite_false, reduceIte, Nat.reduceEqDiff, Nat.reduceLeDiff, Nat.reduceLT, Nat.reduceAdd, reduceCtorEq, num, boo, str, ints, aV, aTab, aInst, aS, aT, aC, aRow, aOp, num, boo, str, aE_eq, aV]; done) | simp [ends, ite_true, ite_false, reduceIte, Nat.reduceEqDiff, Nat.reduceLeDiff, Nat.reduceLT, Nat.reduceAdd, reduceCtorEq, num, boo, str, ints, aV, aTab, aInst, aS, aT, aC, aRow, aOp, num, boo, str, aE_eq, aV]) (by first | rfl | (simp only [ends, ite_true, ite_false, reduceIte, Nat.reduceEqDiff, Nat.reduceLeDiff, Nat.reduceLT, Nat.reduceAdd, reduceCtorEq, num, boo, str, ints, aV, aTab, aInst, aS, aT, aC, aRow, aOp, num, boo, str, aE_eq, aV]; done) | simp [ends, ite_true, ite_false, reduceIte, Nat.reduceEqDiff, Nat.reduceLeDiff, Nat.reduceLT, Nat.reduceAdd, reduceCtorEq, num, boo, str, ints, aV, aTab, aInst, aS, aT, aC, aRow, aOp, num, boo, str, aE_eq, aV]) (by simp only [ends, ite_true, ite_false, reduceIte, Nat.reduceEqDiff, Nat.reduceLeDiff, Nat.reduceLT, Nat.reduceAdd, reduceCtorEq, num, boo, str, ints, aV, aTab, aInst, aS, aT, aC, aRow, aOp]) (by simp [idsOk, lookO, updO, ren1]) ?_
    simp -implicitDefEqProofs only [tabN, aV, ↓steps, push_cast, reduceIte, Nat.reduceEqDiff, Nat.reduceAdd, Nat.reduceMul, Nat.reduceLT, Nat.reduceLeDiff, Int.reduceToNat, Int.reduceLE, Int.reduceLT, reduceCtorEq, tte, num, boo, str, ints, aV, aTab, aInst, aS, aT, aC, aRow, aOp]
    refine ⟨⟨hl2.symm, by rw [hl2]; omega⟩, ?_⟩
    exact cnt_again hI n rfl h' trivial (by simp only [hw, hs, hl2, rowsOf_append, rV, ends, ite_true, ite_false, reduceIte, Nat.reduceEqDiff, Nat.reduceLeDiff, Nat.reduceLT, Nat.reduceAdd, reduceCtorEq, num, boo, str, ints, aV, aTab, aInst, aS, aT, aC, aRow, aOp]) (by simp [hw, hs, hl2, rowsOf_append, rV, ends, ite_true, ite_false, reduceIte, Nat.reduceEqDiff, Nat.reduceLeDiff, Nat.reduceLT, Nat.reduceAdd, reduceCtorEq, num, boo, str, ints, aV, aTab, aInst, aS, aT, aC, aRow, aOp]) (by simp [hw, hs, hl2, rowsOf_append, rV, ends, ite_true, ite_false, reduceIte, Nat.reduceEqDiff, Nat.reduceLeDiff, Nat.reduceLT, Nat.reduceAdd, reduceCtorEq, num, boo, str, ints, aV, aTab, aInst, aS, aT, aC, aRow, aOp]) (by simp [hw, hs, hl2, rowsOf_append, rV, ends, ite_true, ite_false, reduceIte, Nat.reduceEqDiff, Nat.reduceLeDiff, Nat.reduceLT, Nat.reduceAdd, reduceCtorEq, num, boo, str, ints, aV, aTab, aInst, aS, aT, aC, aRow, aOp])
  simp only [decide_eq_false_iff_not] at h
  obtain rfl : n = e.kids.length := by omega
  clear hI
  have hT : valsTo row e e.kids.length = e.kids.map (evalM row) := by rw [valsTo, List.take_length]
  rw [← hT] at hr
  rw [← hl2] at hkk hl
  generalize valsTo row e e.kids.length = l at hl2 hr hkk hl ⊢
  refine callx_of [[0], [3]] [] rfl (c_apply e.op l hkk (by omega)) (by first | (simp; done) | (simp [rowsOf_length]; done) | (simp [rowsOf_length]; omega)) (by first | (simp only [ends, ite_true, ite_false, reduceIte, Nat.reduceEqDiff, Nat.reduceLeDiff, Nat.reduceLT, Nat.reduceAdd, reduceCtorEq, num, boo, str, ints, aV, aTab, aInst, aS, aT, aC, aRow, aOp, num, boo, str, aE_eq, aV]; done) | simp [ends, ite_true, ite_false, reduceIte, Nat.reduceEqDiff, Nat.reduceLeDiff, Nat.reduceLT, Nat.reduceAdd, reduceCtorEq, num, boo, str, ints, aV, aTab, aInst, aS, aT, aC, aRow, aOp, num, boo, str, aE_eq, aV]) (by first | rfl | (simp only [ends, ite_true, ite_false, reduceIte, Nat.reduceEqDiff, Nat.reduceLeDiff, Nat.reduceLT, Nat.reduceAdd, reduceCtorEq, num, boo, str, ints, aV, aTab, aInst, aS, aT, aC, aRow, aOp, num, boo, str, aE_eq, aV]; done) | simp [ends, ite_true, ite_false, reduceIte, Nat.reduceEqDiff, Nat.reduceLeDiff, Nat.reduceLT, Nat.reduceAdd, reduceCtorEq, num, boo, str, ints, aV, aTab, aInst, aS, aT, aC, aRow, aOp, num, boo, str, aE_eq, aV]) (by simp only [ends, ite_true, ite_false, reduceIte, Nat.reduceEqDiff, Nat.reduceLeDiff, Nat.reduceLT, Nat.reduceAdd, reduceCtorEq, num, boo, str, ints, aV, aTab, aInst, aS, aT, aC, aRow, aOp]) (by simp [idsOk, lookO, updO, ren1]) ?_
  simp -implicitDefEqProofs only [tabN, aV, ↓steps, push_cast, reduceIte, Nat.reduceEqDiff, Nat.reduceAdd, Nat.reduceMul, Nat.reduceLT, Nat.reduceLeDiff, Int.reduceToNat, Int.reduceLE, Int.reduceLT, reduceCtorEq, tte, num, boo, str, ints, aV, aTab, aInst, aS, aT, aC, aRow, aOp]
  exact ret_v (by first | trivial | (simp; done) | (simp; omega)) (by rw [← hr] <;> first | rfl | (simp [nullV]; done) | (simp_all [nullV]; done)) (by simp only [ends, ite_true, ite_false, reduceIte, Nat.reduceEqDiff, Nat.reduceLeDiff, Nat.reduceLT, Nat.reduceAdd, reduceCtorEq, num, boo, str, ints, aV, aTab, aInst, aS, aT, aC, aRow, aOp])
end Go.Proofs.YtkccdfaelbepeaaDoor

namespace Go.Proofs.YtkccdfaelbepeaaDoor
open Go.Am
set_option linter.unusedVariables false
set_option maxRecDepth 100000
set_option maxHeartbeats 4000000

theorem orM_false (a b : Val) : orM (ofV false) (equalM a b) = equalM a b := by
  unfold equalM
  split
  · rfl
  · cases sameM a b <;> rfl
theorem evalK_null {row : List Val} {e : Ex} {vs : List Val} (h : countM e = false) : evalK row e vs = nullV := by rw [evalK, if_pos h]
theorem c_reval (row : List Val) : ∀ e : Ex, Ok12 e → ACall Tryd.prog 25 [aE e, aRow row] [] (aV (evalM row e)) [] :=
  ex_ind (p := fun e => Ok12 e → ACall Tryd.prog 25 [aE e, aRow row] [] (aV (evalM row e)) []) fun e ih ho => by
  refine ACall.enter mixed ttok Tryd.func25 rfl rfl _ Tryd.ntmps25 (Nat.le_of_ble_eq_true rfl) (by kernel_rfl) _ (congrArg Array.toList Tryd.results25) ?_
  generalize hr : aV (evalM row e) = R
  have hl := ho.kids
  rw [evalM_eq] at hr
  simp -implicitDefEqProofs only [argT, tabN, ↓steps, push_cast, reduceIte, Nat.reduceEqDiff, Nat.reduceAdd, Nat.reduceMul, Nat.reduceLT, Nat.reduceLeDiff, Int.reduceToNat, Int.reduceLE, Int.reduceLT, reduceCtorEq, tte, num, boo, str, ints, aV, aTab, aInst, aS, aT, aC, aRow, aOp]
  refine bcase_intro (fun g1 => ?_) fun g1 => ?_
  · simp only [decide_eq_true_eq] at g1
    have hc : countM e = false := by
      have : isOp e.op = false := by simp [isOp]; omega
      rw [countM, this, Bool.false_and]
    rw [evalK_null hc] at hr
    exact ret_v (by first | trivial | (simp; done) | (simp; omega)) (by rw [← hr] <;> first | rfl | (simp [nullV]; done) | (simp_all [nullV]; done)) (by simp only [ends, ite_true, ite_false, reduceIte, Nat.reduceEqDiff, Nat.reduceLeDiff, Nat.reduceLT, Nat.reduceAdd, reduceCtorEq, num, boo, str, ints, aV, aTab, aInst, aS, aT, aC, aRow, aOp])
  simp only [decide_eq_false_iff_not] at g1
  refine bcase_intro (fun g2 => ?_) fun g2 => ?_
  · simp only [gt_iff_lt, decide_eq_true_eq] at g2
    have hc : countM e = false := by
      have : isOp e.op = false := by simp [isOp]; omega
      rw [countM, this, Bool.false_and]
    rw [evalK_null hc] at hr
    exact ret_v (by first | trivial | (simp; done) | (simp; omega)) (by rw [← hr] <;> first | rfl | (simp [nullV]; done) | (simp_all [nullV]; done)) (by simp only [ends, ite_true, ite_false, reduceIte, Nat.reduceEqDiff, Nat.reduceLeDiff, Nat.reduceLT, Nat.reduceAdd, reduceCtorEq, num, boo, str, ints, aV, aTab, aInst, aS, aT, aC, aRow, aOp])
  simp only [gt_iff_lt, decide_eq_false_iff_not] at g2
  have hisop : isOp e.op = true := by simp [isOp]; omega
  refine callx_of [[0], [0]] [] rfl (c_rkids e.op e.kids.length) (by first | (simp; done) | (simp [rowsOf_length]; done) | (simp [rowsOf_length]; omega)) (by first | (simp only [ends, ite_true, ite_false, reduceIte, Nat.reduceEqDiff, Nat.reduceLeDiff, Nat.reduceLT, Nat.reduceAdd, reduceCtorEq, num, boo, str, ints, aV, aTab, aInst, aS, aT, aC, aRow, aOp, num, boo, str, aE_eq, aV]; done) | simp [ends, ite_true, ite_false, reduceIte, Nat.reduceEqDiff, Nat.reduceLeDiff, Nat.reduceLT, Nat.reduceAdd, reduceCtorEq, num, boo, str, ints, aV, aTab, aInst, aS, aT, aC, aRow, aOp, num, boo, str, aE_eq, aV]) (by first | rfl | (simp only [ends, ite_true, ite_false, reduceIte, Nat.reduceEqDiff, Nat.reduceLeDiff, Nat.reduceLT, Nat.reduceAdd, reduceCtorEq, num, boo, str, ints, aV, aTab, aInst, aS, aT, aC, aRow, aOp, num, boo, str, aE_eq, aV]; done) | simp [ends, ite_true, ite_false, reduceIte, Nat.reduceEqDiff, Nat.reduceLeDiff, Nat.reduceLT, Nat.reduceAdd, reduceCtorEq, num, boo, str, ints, aV, aTab, aInst, aS, aT, aC, aRow, aOp, num, boo, str, aE_eq, aV]) (by simp only [ends, ite_true, ite_false, reduceIte, Nat.reduceEqDiff, Nat.reduceLeDiff, Nat.reduceLT, Nat.reduceAdd, reduceCtorEq, num, boo, str, ints, aV, aTab, aInst, aS, aT, aC, aRow, aOp]) (by simp [idsOk, lookO, updO, ren1]) ?_
  simp -implicitDefEqProofs only [tabN, aV, ↓steps, push_cast, reduceIte, Nat.reduceEqDiff, Nat.reduceAdd, Nat.reduceMul, Nat.reduceLT, Nat.reduceLeDiff, Int.reduceToNat, Int.reduceLE, Int.reduceLT, reduceCtorEq, tte, num, boo, str, ints, aV, aTab, aInst, aS, aT, aC, aRow, aOp]
  refine bcase_intro (fun g3 => ?_) fun g3 => ?_
  · have hc : countM e = false := by rw [← kids_count hisop]; simpa using g3
    rw [evalK_null hc] at hr
    exact ret_v (by first | trivial | (simp; done) | (simp; omega)) (by rw [← hr] <;> first | rfl | (simp [nullV]; done) | (simp_all [nullV]; done)) (by simp only [ends, ite_true, ite_false, reduceIte, Nat.reduceEqDiff, Nat.reduceLeDiff, Nat.reduceLT, Nat.reduceAdd, reduceCtorEq, num, boo, str, ints, aV, aTab, aInst, aS, aT, aC, aRow, aOp])
  have hc : countM e = true := by rw [← kids_count hisop]; simpa using g3
  have hk := kids_op hc
  refine loop_count mixed ttok 6 [1, 2, 4] [2, 4] (by simp only [pickT, ends, ite_true, ite_false, reduceIte, Nat.reduceEqDiff, Nat.reduceLeDiff, Nat.reduceLT, Nat.reduceAdd, reduceCtorEq, num, boo, str, ints, aV, aTab, aInst, aS, aT, aC, aRow, aOp]; rfl) (by simp only [pickO, consO_some, ends, ite_true, ite_false, reduceIte, Nat.reduceEqDiff, Nat.reduceLeDiff, Nat.reduceLT, Nat.reduceAdd, reduceCtorEq, num, boo, str, ints, aV, aTab, aInst, aS, aT, aC, aRow, aOp]; rfl) e.kids.length (fun _ => True) (fun n => [(5, .vec 500 n)]) (fun n => [(500, .vec 42 3 (rowsOf rV (valsTo row e n)) 0)]) trivial ?_ ?_
  · exact (Weak.nilL 5 500 42 3 rfl rfl).trans (Weak.keepL (by simp [cst, ends, ite_true, ite_false, reduceIte, Nat.reduceEqDiff, Nat.reduceLeDiff, Nat.reduceLT, Nat.reduceAdd, reduceCtorEq, num, boo, str, ints, aV, aTab, aInst, aS, aT, aC, aRow, aOp]) (by simp [cst, valsTo, ends, ite_true, ite_false, reduceIte, Nat.reduceEqDiff, Nat.reduceLeDiff, Nat.reduceLT, Nat.reduceAdd, reduceCtorEq, num, boo, str, ints, aV, aTab, aInst, aS, aT, aC, aRow, aOp]) (by simp [cst, ends, ite_true, ite_false, reduceIte, Nat.reduceEqDiff, Nat.reduceLeDiff, Nat.reduceLT, Nat.reduceAdd, reduceCtorEq, num, boo, str, ints, aV, aTab, aInst, aS, aT, aC, aRow, aOp]))
  intro I hI n hn hi
  have hl2 := valsTo_length row e n hn
  simp -implicitDefEqProofs only [cst, ↓steps, push_cast, reduceIte, Nat.reduceEqDiff, Nat.reduceAdd, Nat.reduceMul, Nat.reduceLT, Nat.reduceLeDiff, Int.reduceToNat, Int.reduceLE, Int.reduceLT, reduceCtorEq, tte, num, boo, str, ints, aV, aTab, aInst, aS, aT, aC, aRow, aOp]
  refine bcase_intro (fun h => ?_) fun h => ?_
  · simp only [decide_eq_true_eq] at h
    have h' : n < e.kids.length := by omega
    have hw := wrap_succ h' (by omega)
    have hs := valsTo_succ row e n h'
    refine ⟨(by first | omega | trivial | (refine ⟨?_, ?_⟩ <;> first | omega | trivial | (refine ⟨?_, ?_⟩ <;> first | omega | trivial | (refine ⟨?_, ?_⟩ <;> first | omega | trivial | rfl)))), ?_⟩
    refine callx_of [[0, 0, 0, 0, 0, 6], [3]] [] rfl (ih _ (getD_mem h') (ho.kid (getD_mem h'))) (by first | (simp; done) | (simp [rowsOf_length]; done) | (simp [rowsOf_length]; omega)) (by first | (simp only [ends, ite_true, ite_false, reduceIte, Nat.reduceEqDiff, Nat.reduceLeDiff, Nat.reduceLT, Nat.reduceAdd, reduceCtorEq, num, boo, str, ints, aV, aTab, aInst, aS, aT, aC, aRow, aOp, num, boo, str, aE_eq, aV]; done) | simp [ends, ite_true, ite_false, reduceIte, Nat.reduceEqDiff, Nat.reduceLeDiff, Nat.reduceLT, Nat.reduceAdd, reduceCtorEq, num, boo, str, ints, aV, aTab, aInst, aS, aT, aC, aRow, aOp, num, boo, str, aE_eq, aV]) (by first | rfl | (simp only [ends, ite_true, ite_false, reduceIte, Nat.reduceEqDiff, Nat.reduceLeDiff, Nat.reduceLT, Nat.reduceAdd, reduceCtorEq, num, boo, str, ints, aV, aTab, aInst, aS, aT, aC, aRow, aOp, num, boo, str, aE_eq, aV]; done) | simp [ends, ite_true, ite_false, reduceIte, Nat.reduceEqDiff, Nat.reduceLeDiff, Nat.reduceLT, Nat.reduceAdd, reduceCtorEq, num, boo, str, ints, aV, aTab, aInst, aS, aT, aC, aRow, aOp, num, boo, str, aE_eq, aV]) (by simp only [ends, ite_true, ite_false, reduceIte, Nat.reduceEqDiff, Nat.reduceLeDiff, Nat.reduceLT, Nat.reduceAdd, reduceCtorEq, num, boo, str, ints, aV, aTab, aInst, aS, aT, aC, aRow, aOp]) (by simp [idsOk, lookO, updO, ren1]) ?_
    simp -implicitDefEqProofs only [tabN, aV, ↓steps, push_cast, reduceIte, Nat.reduceEqDiff, Nat.reduceAdd, Nat.reduceMul, Nat.reduceLT, Nat.reduceLeDiff, Int.reduceToNat, Int.reduceLE, Int.reduceLT, reduceCtorEq, tte, num, boo, str, ints, aV, aTab, aInst, aS, aT, aC, aRow, aOp]
    refine ⟨⟨hl2.symm, by rw [hl2]; omega⟩, ?_⟩
    exact cnt_again hI n rfl h' trivial (by simp only [hw, hs, hl2, rowsOf_append, rV, ends, ite_true, ite_false, reduceIte, Nat.reduceEqDiff, Nat.reduceLeDiff, Nat.reduceLT, Nat.reduceAdd, reduceCtorEq, num, boo, str, ints, aV, aTab, aInst, aS, aT, aC, aRow, aOp]) (by simp [hw, hs, hl2, rowsOf_append, rV, ends, ite_true, ite_false, reduceIte, Nat.reduceEqDiff, Nat.reduceLeDiff, Nat.reduceLT, Nat.reduceAdd, reduceCtorEq, num, boo, str, ints, aV, aTab, aInst, aS, aT, aC, aRow, aOp]) (by simp [hw, hs, hl2, rowsOf_append, rV, ends, ite_true, ite_false, reduceIte, Nat.reduceEqDiff, Nat.reduceLeDiff, Nat.reduceLT, Nat.reduceAdd, reduceCtorEq, num, boo, str, ints, aV, aTab, aInst, aS, aT, aC, aRow, aOp]) (by simp [hw, hs, hl2, rowsOf_append, rV, ends, ite_true, ite_false, reduceIte, Nat.reduceEqDiff, Nat.reduceLeDiff, Nat.reduceLT, Nat.reduceAdd, reduceCtorEq, num, boo, str, ints, aV, aTab, aInst, aS, aT, aC, aRow, aOp])
  simp only [decide_eq_false_iff_not] at h
  obtain rfl : n = e.kids.length := by omega
  clear hI
  have hT : valsTo row e e.kids.length = e.kids.map (evalM row) := by rw [valsTo, List.take_length]
  rw [← hT] at hr
  rw [← hl2] at hk hl
  generalize valsTo row e e.kids.length = l at hl2 hr hk hl ⊢
  refine bcase_intro (fun h1 => ?_) fun h1 => ?_
  · have op : e.op = 1 := by simpa using h1
    have hM : evalK row e l = nullV := by simp [evalK, applyM, hc, op]
    rw [hM] at hr
    exact ret_v (by first | trivial | (simp; done) | (simp; omega)) (by rw [← hr] <;> first | rfl | (simp [nullV]; done) | (simp_all [nullV]; done)) (by simp only [ends, ite_true, ite_false, reduceIte, Nat.reduceEqDiff, Nat.reduceLeDiff, Nat.reduceLT, Nat.reduceAdd, reduceCtorEq, num, boo, str, ints, aV, aTab, aInst, aS, aT, aC, aRow, aOp])
  refine bcase_intro (fun h2 => ?_) fun h2 => ?_
  · have op : e.op = 2 := by simpa using h2
    have hM : evalK row e l = ⟨1, e.num, ByteArray.empty⟩ := by simp [evalK, applyM, hc, op]
    rw [hM] at hr
    exact ret_v (by first | trivial | (simp; done) | (simp; omega)) (by rw [← hr] <;> first | rfl | (simp [nullV]; done) | (simp_all [nullV]; done)) (by simp only [ends, ite_true, ite_false, reduceIte, Nat.reduceEqDiff, Nat.reduceLeDiff, Nat.reduceLT, Nat.reduceAdd, reduceCtorEq, num, boo, str, ints, aV, aTab, aInst, aS, aT, aC, aRow, aOp])
  refine bcase_intro (fun h3 => ?_) fun h3 => ?_
  · have op : e.op = 3 := by simpa using h3
    have hM : evalK row e l = ⟨2, e.num, ByteArray.empty⟩ := by simp [evalK, applyM, hc, op]
    rw [hM] at hr
    exact ret_v (by first | trivial | (simp; done) | (simp; omega)) (by rw [← hr] <;> first | rfl | (simp [nullV]; done) | (simp_all [nullV]; done)) (by simp only [ends, ite_true, ite_false, reduceIte, Nat.reduceEqDiff, Nat.reduceLeDiff, Nat.reduceLT, Nat.reduceAdd, reduceCtorEq, num, boo, str, ints, aV, aTab, aInst, aS, aT, aC, aRow, aOp])
  refine bcase_intro (fun h4 => ?_) fun h4 => ?_
  · have op : e.op = 4 := by simpa using h4
    have hM : evalK row e l = ⟨3, 0, e.text⟩ := by simp [evalK, applyM, hc, op]
    rw [hM] at hr
    exact ret_v (by first | trivial | (simp; done) | (simp; omega)) (by rw [← hr] <;> first | rfl | (simp [nullV]; done) | (simp_all [nullV]; done)) (by simp only [ends, ite_true, ite_false, reduceIte, Nat.reduceEqDiff, Nat.reduceLeDiff, Nat.reduceLT, Nat.reduceAdd, reduceCtorEq, num, boo, str, ints, aV, aTab, aInst, aS, aT, aC, aRow, aOp])
  refine bcase_intro (fun h5 => ?_) fun h5 => ?_
  · have op : e.op = 5 := by simpa using h5
    refine bcase_intro (fun g1 => ?_) fun g1 => ?_
    · simp only [decide_eq_true_eq] at g1
      have g2 : ¬ (0 ≤ e.col ∧ e.col < row.length) := by omega
      have hM : evalK row e l = nullV := by simp [evalK, applyM, hc, op, -not_and, g2]
      rw [hM] at hr
      exact ret_v (by first | trivial | (simp; done) | (simp; omega)) (by rw [← hr] <;> first | rfl | (simp [nullV]; done) | (simp_all [nullV]; done)) (by simp only [ends, ite_true, ite_false, reduceIte, Nat.reduceEqDiff, Nat.reduceLeDiff, Nat.reduceLT, Nat.reduceAdd, reduceCtorEq, num, boo, str, ints, aV, aTab, aInst, aS, aT, aC, aRow, aOp])
    refine bcase_intro (fun g2 => ?_) fun g2 => ?_
    · simp only [ge_iff_le, decide_eq_true_eq] at g2
      have g3 : ¬ (0 ≤ e.col ∧ e.col < row.length) := by omega
      have hM : evalK row e l = nullV := by simp [evalK, applyM, hc, op, -not_and, g3]
      rw [hM] at hr
      exact ret_v (by first | trivial | (simp; done) | (simp; omega)) (by rw [← hr] <;> first | rfl | (simp [nullV]; done) | (simp_all [nullV]; done)) (by simp only [ends, ite_true, ite_false, reduceIte, Nat.reduceEqDiff, Nat.reduceLeDiff, Nat.reduceLT, Nat.reduceAdd, reduceCtorEq, num, boo, str, ints, aV, aTab, aInst, aS, aT, aC, aRow, aOp])
    · simp only [ge_iff_le, decide_eq_false_iff_not] at g1 g2
      have g3 : 0 ≤ e.col ∧ e.col < row.length := by omega
      have hM : evalK row e l = row.getD e.col.toNat default := by simp only [evalK, hc, op]; simp [g3]
      rw [hM] at hr
      refine ⟨g3, ?_⟩
      exact ret_v (by first | trivial | (simp; done) | (simp; omega)) (by rw [← hr] <;> first | rfl | (simp [nullV]; done) | (simp_all [nullV]; done)) (by simp only [ends, ite_true, ite_false, reduceIte, Nat.reduceEqDiff, Nat.reduceLeDiff, Nat.reduceLT, Nat.reduceAdd, reduceCtorEq, num, boo, str, ints, aV, aTab, aInst, aS, aT, aC, aRow, aOp])
  refine bcase_intro (fun h11 => ?_) fun h11 => ?_
  · have op : e.op = 11 := by simpa using h11
    rw [op] at hk
    have hM : evalK row e l = arithM 7 ⟨1, 0, ByteArray.empty⟩ (l.getD 0 default) := by simp [evalK, applyM, hc, op]
    rw [hM] at hr
    have hl : 1 ≤ l.length := len1 (by simpa [kidsR] using hk)
    repeat (refine And.intro (by first | omega | (refine ⟨?_, ?_⟩ <;> omega)) ?_)
    refine callx_of [[0], [0, 0, 0], [0, 0, 0]] [] rfl (c_rarith 7 ⟨1, 0, ByteArray.empty⟩ (l.getD 0 default)) (by first | (simp; done) | (simp [rowsOf_length]; done) | (simp [rowsOf_length]; omega)) (by first | (simp only [ends, ite_true, ite_false, reduceIte, Nat.reduceEqDiff, Nat.reduceLeDiff, Nat.reduceLT, Nat.reduceAdd, reduceCtorEq, num, boo, str, ints, aV, aTab, aInst, aS, aT, aC, aRow, aOp, num, boo, str, aE_eq, aV]; done) | simp [ends, ite_true, ite_false, reduceIte, Nat.reduceEqDiff, Nat.reduceLeDiff, Nat.reduceLT, Nat.reduceAdd, reduceCtorEq, num, boo, str, ints, aV, aTab, aInst, aS, aT, aC, aRow, aOp, num, boo, str, aE_eq, aV]) (by first | rfl | (simp only [ends, ite_true, ite_false, reduceIte, Nat.reduceEqDiff, Nat.reduceLeDiff, Nat.reduceLT, Nat.reduceAdd, reduceCtorEq, num, boo, str, ints, aV, aTab, aInst, aS, aT, aC, aRow, aOp, num, boo, str, aE_eq, aV]; done) | simp [ends, ite_true, ite_false, reduceIte, Nat.reduceEqDiff, Nat.reduceLeDiff, Nat.reduceLT, Nat.reduceAdd, reduceCtorEq, num, boo, str, ints, aV, aTab, aInst, aS, aT, aC, aRow, aOp, num, boo, str, aE_eq, aV]) (by simp only [ends, ite_true, ite_false, reduceIte, Nat.reduceEqDiff, Nat.reduceLeDiff, Nat.reduceLT, Nat.reduceAdd, reduceCtorEq, num, boo, str, ints, aV, aTab, aInst, aS, aT, aC, aRow, aOp]) (by simp [idsOk, lookO, updO, ren1]) ?_
    simp -implicitDefEqProofs only [tabN, aV, ↓steps, push_cast, reduceIte, Nat.reduceEqDiff, Nat.reduceAdd, Nat.reduceMul, Nat.reduceLT, Nat.reduceLeDiff, Int.reduceToNat, Int.reduceLE, Int.reduceLT, reduceCtorEq, tte, num, boo, str, ints, aV, aTab, aInst, aS, aT, aC, aRow, aOp]
    exact ret_v (by first | trivial | (simp; done) | (simp; omega)) (by rw [← hr] <;> first | rfl | (simp [nullV]; done) | (simp_all [nullV]; done)) (by simp only [ends, ite_true, ite_false, reduceIte, Nat.reduceEqDiff, Nat.reduceLeDiff, Nat.reduceLT, Nat.reduceAdd, reduceCtorEq, num, boo, str, ints, aV, aTab, aInst, aS, aT, aC, aRow, aOp])
  refine bcase_intro (fun h13 => ?_) fun h13 => ?_
  · have op : e.op = 13 := by simpa using h13
    rw [op] at hk
    have hl : 1 ≤ l.length := len1 (by simpa [kidsR] using hk)
    repeat (refine And.intro (by first | omega | (refine ⟨?_, ?_⟩ <;> omega)) ?_)
    refine bcase_intro (fun g => ?_) fun g => ?_
    · have g1 : ¬ (l.getD 0 default).kind = 3 := by simpa using g
      rw [List.getD_eq_getElem?_getD] at g1
      have hM : evalK row e l = nullV := by simp [evalK, applyM, hc, op, g1]
      rw [hM] at hr
      exact ret_v (by first | trivial | (simp; done) | (simp; omega)) (by rw [← hr] <;> first | rfl | (simp [nullV]; done) | (simp_all [nullV]; done)) (by simp only [ends, ite_true, ite_false, reduceIte, Nat.reduceEqDiff, Nat.reduceLeDiff, Nat.reduceLT, Nat.reduceAdd, reduceCtorEq, num, boo, str, ints, aV, aTab, aInst, aS, aT, aC, aRow, aOp])
    · refine ⟨by omega, by omega, by omega, by omega, ?_⟩
      have g1 : (l.getD 0 default).kind = 3 := by simpa using g
      have g2 := g1
      rw [List.getD_eq_getElem?_getD] at g2
      have hM : evalK row e l = ⟨1, (l.getD 0 default).text.size, ByteArray.empty⟩ := by simp [evalK, applyM, hc, op, g2]
      rw [hM] at hr
      exact ret_v (by first | trivial | (simp; done) | (simp; omega)) (by rw [← hr] <;> first | rfl | (simp [nullV]; done) | (simp_all [nullV]; done)) (by simp only [ends, ite_true, ite_false, reduceIte, Nat.reduceEqDiff, Nat.reduceLeDiff, Nat.reduceLT, Nat.reduceAdd, reduceCtorEq, num, boo, str, ints, aV, aTab, aInst, aS, aT, aC, aRow, aOp])
  refine bcase_intro (fun h14 => ?_) fun h14 => ?_
  · have op : e.op = 14 := by simpa using h14
    rw [op] at hk
    have hM : evalK row e l = equalM (l.getD 0 default) (l.getD 1 default) := by simp [evalK, applyM, hc, op]
    rw [hM] at hr
    have hl : 2 ≤ l.length := len2 (by simpa [kidsR] using hk)
    repeat (refine And.intro (by first | omega | (refine ⟨?_, ?_⟩ <;> omega)) ?_)
    refine callx_of [[0, 0, 0], [0, 0, 0]] [] rfl (c_requal (l.getD 0 default) (l.getD 1 default)) (by first | (simp; done) | (simp [rowsOf_length]; done) | (simp [rowsOf_length]; omega)) (by first | (simp only [ends, ite_true, ite_false, reduceIte, Nat.reduceEqDiff, Nat.reduceLeDiff, Nat.reduceLT, Nat.reduceAdd, reduceCtorEq, num, boo, str, ints, aV, aTab, aInst, aS, aT, aC, aRow, aOp, num, boo, str, aE_eq, aV]; done) | simp [ends, ite_true, ite_false, reduceIte, Nat.reduceEqDiff, Nat.reduceLeDiff, Nat.reduceLT, Nat.reduceAdd, reduceCtorEq, num, boo, str, ints, aV, aTab, aInst, aS, aT, aC, aRow, aOp, num, boo, str, aE_eq, aV]) (by first | rfl | (simp only [ends, ite_true, ite_false, reduceIte, Nat.reduceEqDiff, Nat.reduceLeDiff, Nat.reduceLT, Nat.reduceAdd, reduceCtorEq, num, boo, str, ints, aV, aTab, aInst, aS, aT, aC, aRow, aOp, num, boo, str, aE_eq, aV]; done) | simp [ends, ite_true, ite_false, reduceIte, Nat.reduceEqDiff, Nat.reduceLeDiff, Nat.reduceLT, Nat.reduceAdd, reduceCtorEq, num, boo, str, ints, aV, aTab, aInst, aS, aT, aC, aRow, aOp, num, boo, str, aE_eq, aV]) (by simp only [ends, ite_true, ite_false, reduceIte, Nat.reduceEqDiff, Nat.reduceLeDiff, Nat.reduceLT, Nat.reduceAdd, reduceCtorEq, num, boo, str, ints, aV, aTab, aInst, aS, aT, aC, aRow, aOp]) (by simp [idsOk, lookO, updO, ren1]) ?_
    simp -implicitDefEqProofs only [tabN, aV, ↓steps, push_cast, reduceIte, Nat.reduceEqDiff, Nat.reduceAdd, Nat.reduceMul, Nat.reduceLT, Nat.reduceLeDiff, Int.reduceToNat, Int.reduceLE, Int.reduceLT, reduceCtorEq, tte, num, boo, str, ints, aV, aTab, aInst, aS, aT, aC, aRow, aOp]
    refine ⟨drawx_intro (by kernel_rfl), ?_⟩
    exact ret_v (by first | trivial | (simp; done) | (simp; omega)) (by rw [← hr] <;> first | rfl | (simp [nullV]; done) | (simp_all [nullV]; done)) (by simp only [ends, ite_true, ite_false, reduceIte, Nat.reduceEqDiff, Nat.reduceLeDiff, Nat.reduceLT, Nat.reduceAdd, reduceCtorEq, num, boo, str, ints, aV, aTab, aInst, aS, aT, aC, aRow, aOp])
  refine bcase_intro (fun h15 => ?_) fun h15 => ?_
  · have op : e.op = 15 := by simpa using h15
    rw [op] at hk
    have hM : evalK row e l = notM (equalM (l.getD 0 default) (l.getD 1 default)) := by simp [evalK, applyM, hc, op]
    rw [hM] at hr
    have hl : 2 ≤ l.length := len2 (by simpa [kidsR] using hk)
    repeat (refine And.intro (by first | omega | (refine ⟨?_, ?_⟩ <;> omega)) ?_)
    refine callx_of [[0, 0, 0], [0, 0, 0]] [] rfl (c_requal (l.getD 0 default) (l.getD 1 default)) (by first | (simp; done) | (simp [rowsOf_length]; done) | (simp [rowsOf_length]; omega)) (by first | (simp only [ends, ite_true, ite_false, reduceIte, Nat.reduceEqDiff, Nat.reduceLeDiff, Nat.reduceLT, Nat.reduceAdd, reduceCtorEq, num, boo, str, ints, aV, aTab, aInst, aS, aT, aC, aRow, aOp, num, boo, str, aE_eq, aV]; done) | simp [ends, ite_true, ite_false, reduceIte, Nat.reduceEqDiff, Nat.reduceLeDiff, Nat.reduceLT, Nat.reduceAdd, reduceCtorEq, num, boo, str, ints, aV, aTab, aInst, aS, aT, aC, aRow, aOp, num, boo, str, aE_eq, aV]) (by first | rfl | (simp only [ends, ite_true, ite_false, reduceIte, Nat.reduceEqDiff, Nat.reduceLeDiff, Nat.reduceLT, Nat.reduceAdd, reduceCtorEq, num, boo, str, ints, aV, aTab, aInst, aS, aT, aC, aRow, aOp, num, boo, str, aE_eq, aV]; done) | simp [ends, ite_true, ite_false, reduceIte, Nat.reduceEqDiff, Nat.reduceLeDiff, Nat.reduceLT, Nat.reduceAdd, reduceCtorEq, num, boo, str, ints, aV, aTab, aInst, aS, aT, aC, aRow, aOp, num, boo, str, aE_eq, aV]) (by simp only [ends, ite_true, ite_false, reduceIte, Nat.reduceEqDiff, Nat.reduceLeDiff, Nat.reduceLT, Nat.reduceAdd, reduceCtorEq, num, boo, str, ints, aV, aTab, aInst, aS, aT, aC, aRow, aOp]) (by simp [idsOk, lookO, updO, ren1]) ?_
    simp -implicitDefEqProofs only [tabN, aV, ↓steps, push_cast, reduceIte, Nat.reduceEqDiff, Nat.reduceAdd, Nat.reduceMul, Nat.reduceLT, Nat.reduceLeDiff, Int.reduceToNat, Int.reduceLE, Int.reduceLT, reduceCtorEq, tte, num, boo, str, ints, aV, aTab, aInst, aS, aT, aC, aRow, aOp]
    refine callx_of [[0, 0, 0]] [] rfl (c_rnot (equalM (l.getD 0 default) (l.getD 1 default))) (by first | (simp; done) | (simp [rowsOf_length]; done) | (simp [rowsOf_length]; omega)) (by first | (simp only [ends, ite_true, ite_false, reduceIte, Nat.reduceEqDiff, Nat.reduceLeDiff, Nat.reduceLT, Nat.reduceAdd, reduceCtorEq, num, boo, str, ints, aV, aTab, aInst, aS, aT, aC, aRow, aOp, num, boo, str, aE_eq, aV]; done) | simp [ends, ite_true, ite_false, reduceIte, Nat.reduceEqDiff, Nat.reduceLeDiff, Nat.reduceLT, Nat.reduceAdd, reduceCtorEq, num, boo, str, ints, aV, aTab, aInst, aS, aT, aC, aRow, aOp, num, boo, str, aE_eq, aV]) (by first | rfl | (simp only [ends, ite_true, ite_false, reduceIte, Nat.reduceEqDiff, Nat.reduceLeDiff, Nat.reduceLT, Nat.reduceAdd, reduceCtorEq, num, boo, str, ints, aV, aTab, aInst, aS, aT, aC, aRow, aOp, num, boo, str, aE_eq, aV]; done) | simp [ends, ite_true, ite_false, reduceIte, Nat.reduceEqDiff, Nat.reduceLeDiff, Nat.reduceLT, Nat.reduceAdd, reduceCtorEq, num, boo, str, ints, aV, aTab, aInst, aS, aT, aC, aRow, aOp, num, boo, str, aE_eq, aV]) (by simp only [ends, ite_true, ite_false, reduceIte, Nat.reduceEqDiff, Nat.reduceLeDiff, Nat.reduceLT, Nat.reduceAdd, reduceCtorEq, num, boo, str, ints, aV, aTab, aInst, aS, aT, aC, aRow, aOp]) (by simp [idsOk, lookO, updO, ren1]) ?_
    simp -implicitDefEqProofs only [tabN, aV, ↓steps, push_cast, reduceIte, Nat.reduceEqDiff, Nat.reduceAdd, Nat.reduceMul, Nat.reduceLT, Nat.reduceLeDiff, Int.reduceToNat, Int.reduceLE, Int.reduceLT, reduceCtorEq, tte, num, boo, str, ints, aV, aTab, aInst, aS, aT, aC, aRow, aOp]
    refine ⟨drawx_intro (by kernel_rfl), ?_⟩
    exact ret_v (by first | trivial | (simp; done) | (simp; omega)) (by rw [← hr] <;> first | rfl | (simp [nullV]; done) | (simp_all [nullV]; done)) (by simp only [ends, ite_true, ite_false, reduceIte, Nat.reduceEqDiff, Nat.reduceLeDiff, Nat.reduceLT, Nat.reduceAdd, reduceCtorEq, num, boo, str, ints, aV, aTab, aInst, aS, aT, aC, aRow, aOp])
  refine bcase_intro (fun h16 => ?_) fun h16 => ?_
  · have op : e.op = 16 := by simpa using h16
    rw [op] at hk
    have hM : evalK row e l = lessM (l.getD 0 default) (l.getD 1 default) := by simp [evalK, applyM, hc, op]
    rw [hM] at hr
    have hl : 2 ≤ l.length := len2 (by simpa [kidsR] using hk)
    repeat (refine And.intro (by first | omega | (refine ⟨?_, ?_⟩ <;> omega)) ?_)
    refine callx_of [[0, 0, 0], [0, 0, 0]] [] rfl (c_rless (l.getD 0 default) (l.getD 1 default)) (by first | (simp; done) | (simp [rowsOf_length]; done) | (simp [rowsOf_length]; omega)) (by first | (simp only [ends, ite_true, ite_false, reduceIte, Nat.reduceEqDiff, Nat.reduceLeDiff, Nat.reduceLT, Nat.reduceAdd, reduceCtorEq, num, boo, str, ints, aV, aTab, aInst, aS, aT, aC, aRow, aOp, num, boo, str, aE_eq, aV]; done) | simp [ends, ite_true, ite_false, reduceIte, Nat.reduceEqDiff, Nat.reduceLeDiff, Nat.reduceLT, Nat.reduceAdd, reduceCtorEq, num, boo, str, ints, aV, aTab, aInst, aS, aT, aC, aRow, aOp, num, boo, str, aE_eq, aV]) (by first | rfl | (simp only [ends, ite_true, ite_false, reduceIte, Nat.reduceEqDiff, Nat.reduceLeDiff, Nat.reduceLT, Nat.reduceAdd, reduceCtorEq, num, boo, str, ints, aV, aTab, aInst, aS, aT, aC, aRow, aOp, num, boo, str, aE_eq, aV]; done) | simp [ends, ite_true, ite_false, reduceIte, Nat.reduceEqDiff, Nat.reduceLeDiff, Nat.reduceLT, Nat.reduceAdd, reduceCtorEq, num, boo, str, ints, aV, aTab, aInst, aS, aT, aC, aRow, aOp, num, boo, str, aE_eq, aV]) (by simp only [ends, ite_true, ite_false, reduceIte, Nat.reduceEqDiff, Nat.reduceLeDiff, Nat.reduceLT, Nat.reduceAdd, reduceCtorEq, num, boo, str, ints, aV, aTab, aInst, aS, aT, aC, aRow, aOp]) (by simp [idsOk, lookO, updO, ren1]) ?_
    simp -implicitDefEqProofs only [tabN, aV, ↓steps, push_cast, reduceIte, Nat.reduceEqDiff, Nat.reduceAdd, Nat.reduceMul, Nat.reduceLT, Nat.reduceLeDiff, Int.reduceToNat, Int.reduceLE, Int.reduceLT, reduceCtorEq, tte, num, boo, str, ints, aV, aTab, aInst, aS, aT, aC, aRow, aOp]
    refine ⟨drawx_intro (by kernel_rfl), ?_⟩
    exact ret_v (by first | trivial | (simp; done) | (simp; omega)) (by rw [← hr] <;> first | rfl | (simp [nullV]; done) | (simp_all [nullV]; done)) (by simp only [ends, ite_true, ite_false, reduceIte, Nat.reduceEqDiff, Nat.reduceLeDiff, Nat.reduceLT, Nat.reduceAdd, reduceCtorEq, num, boo, str, ints, aV, aTab, aInst, aS, aT, aC, aRow, aOp])
  refine bcase_intro (fun h17 => ?_) fun h17 => ?_
  · have op : e.op = 17 := by simpa using h17
    rw [op] at hk
    have hM : evalK row e l = notM (lessM (l.getD 1 default) (l.getD 0 default)) := by simp [evalK, applyM, hc, op]
    rw [hM] at hr
    have hl : 2 ≤ l.length := len2 (by simpa [kidsR] using hk)
    repeat (refine And.intro (by first | omega | (refine ⟨?_, ?_⟩ <;> omega)) ?_)
    refine callx_of [[0, 0, 0], [0, 0, 0]] [] rfl (c_rless (l.getD 1 default) (l.getD 0 default)) (by first | (simp; done) | (simp [rowsOf_length]; done) | (simp [rowsOf_length]; omega)) (by first | (simp only [ends, ite_true, ite_false, reduceIte, Nat.reduceEqDiff, Nat.reduceLeDiff, Nat.reduceLT, Nat.reduceAdd, reduceCtorEq, num, boo, str, ints, aV, aTab, aInst, aS, aT, aC, aRow, aOp, num, boo, str, aE_eq, aV]; done) | simp [ends, ite_true, ite_false, reduceIte, Nat.reduceEqDiff, Nat.reduceLeDiff, Nat.reduceLT, Nat.reduceAdd, reduceCtorEq, num, boo, str, ints, aV, aTab, aInst, aS, aT, aC, aRow, aOp, num, boo, str, aE_eq, aV]) (by first | rfl | (simp only [ends, ite_true, ite_false, reduceIte, Nat.reduceEqDiff, Nat.reduceLeDiff, Nat.reduceLT, Nat.reduceAdd, reduceCtorEq, num, boo, str, ints, aV, aTab, aInst, aS, aT, aC, aRow, aOp, num, boo, str, aE_eq, aV]; done) | simp [ends, ite_true, ite_false, reduceIte, Nat.reduceEqDiff, Nat.reduceLeDiff, Nat.reduceLT, Nat.reduceAdd, reduceCtorEq, num, boo, str, ints, aV, aTab, aInst, aS, aT, aC, aRow, aOp, num, boo, str, aE_eq, aV]) (by simp only [ends, ite_true, ite_false, reduceIte, Nat.reduceEqDiff, Nat.reduceLeDiff, Nat.reduceLT, Nat.reduceAdd, reduceCtorEq, num, boo, str, ints, aV, aTab, aInst, aS, aT, aC, aRow, aOp]) (by simp [idsOk, lookO, updO, ren1]) ?_
    simp -implicitDefEqProofs only [tabN, aV, ↓steps, push_cast, reduceIte, Nat.reduceEqDiff, Nat.reduceAdd, Nat.reduceMul, Nat.reduceLT, Nat.reduceLeDiff, Int.reduceToNat, Int.reduceLE, Int.reduceLT, reduceCtorEq, tte, num, boo, str, ints, aV, aTab, aInst, aS, aT, aC, aRow, aOp]
    refine callx_of [[0, 0, 0]] [] rfl (c_rnot (lessM (l.getD 1 default) (l.getD 0 default))) (by first | (simp; done) | (simp [rowsOf_length]; done) | (simp [rowsOf_length]; omega)) (by first | (simp only [ends, ite_true, ite_false, reduceIte, Nat.reduceEqDiff, Nat.reduceLeDiff, Nat.reduceLT, Nat.reduceAdd, reduceCtorEq, num, boo, str, ints, aV, aTab, aInst, aS, aT, aC, aRow, aOp, num, boo, str, aE_eq, aV]; done) | simp [ends, ite_true, ite_false, reduceIte, Nat.reduceEqDiff, Nat.reduceLeDiff, Nat.reduceLT, Nat.reduceAdd, reduceCtorEq, num, boo, str, ints, aV, aTab, aInst, aS, aT, aC, aRow, aOp, num, boo, str, aE_eq, aV]) (by first | rfl | (simp only [ends, ite_true, ite_false, reduceIte, Nat.reduceEqDiff, Nat.reduceLeDiff, Nat.reduceLT, Nat.reduceAdd, reduceCtorEq, num, boo, str, ints, aV, aTab, aInst, aS, aT, aC, aRow, aOp, num, boo, str, aE_eq, aV]; done) | simp [ends, ite_true, ite_false, reduceIte, Nat.reduceEqDiff, Nat.reduceLeDiff, Nat.reduceLT, Nat.reduceAdd, reduceCtorEq, num, boo, str, ints, aV, aTab, aInst, aS, aT, aC, aRow, aOp, num, boo, str, aE_eq, aV]) (by simp only [ends, ite_true, ite_false, reduceIte, Nat.reduceEqDiff, Nat.reduceLeDiff, Nat.reduceLT, Nat.reduceAdd, reduceCtorEq, num, boo, str, ints, aV, aTab, aInst, aS, aT, aC, aRow, aOp]) (by simp [idsOk, lookO, updO, ren1]) ?_
    simp -implicitDefEqProofs only [tabN, aV, ↓steps, push_cast, reduceIte, Nat.reduceEqDiff, Nat.reduceAdd, Nat.reduceMul, Nat.reduceLT, Nat.reduceLeDiff, Int.reduceToNat, Int.reduceLE, Int.reduceLT, reduceCtorEq, tte, num, boo, str, ints, aV, aTab, aInst, aS, aT, aC, aRow, aOp]
    refine ⟨drawx_intro (by kernel_rfl), ?_⟩
    exact ret_v (by first | trivial | (simp; done) | (simp; omega)) (by rw [← hr] <;> first | rfl | (simp [nullV]; done) | (simp_all [nullV]; done)) (by simp only [ends, ite_true, ite_false, reduceIte, Nat.reduceEqDiff, Nat.reduceLeDiff, Nat.reduceLT, Nat.reduceAdd, reduceCtorEq, num, boo, str, ints, aV, aTab, aInst, aS, aT, aC, aRow, aOp])
  refine bcase_intro (fun h18 => ?_) fun h18 => ?_
  · have op : e.op = 18 := by simpa using h18
    rw [op] at hk
    have hM : evalK row e l = lessM (l.getD 1 default) (l.getD 0 default) := by simp [evalK, applyM, hc, op]
    rw [hM] at hr
    have hl : 2 ≤ l.length := len2 (by simpa [kidsR] using hk)
    repeat (refine And.intro (by first | omega | (refine ⟨?_, ?_⟩ <;> omega)) ?_)
    refine callx_of [[0, 0, 0], [0, 0, 0]] [] rfl (c_rless (l.getD 1 default) (l.getD 0 default)) (by first | (simp; done) | (simp [rowsOf_length]; done) | (simp [rowsOf_length]; omega)) (by first | (simp only [ends, ite_true, ite_false, reduceIte, Nat.reduceEqDiff, Nat.reduceLeDiff, Nat.reduceLT, Nat.reduceAdd, reduceCtorEq, num, boo, str, ints, aV, aTab, aInst, aS, aT, aC, aRow, aOp, num, boo, str, aE_eq, aV]; done) | simp [ends, ite_true, ite_false, reduceIte, Nat.reduceEqDiff, Nat.reduceLeDiff, Nat.reduceLT, Nat.reduceAdd, reduceCtorEq, num, boo, str, ints, aV, aTab, aInst, aS, aT, aC, aRow, aOp, num, boo, str, aE_eq, aV]) (by first | rfl | (simp only [ends, ite_true, ite_false, reduceIte, Nat.reduceEqDiff, Nat.reduceLeDiff, Nat.reduceLT, Nat.reduceAdd, reduceCtorEq, num, boo, str, ints, aV, aTab, aInst, aS, aT, aC, aRow, aOp, num, boo, str, aE_eq, aV]; done) | simp [ends, ite_true, ite_false, reduceIte, Nat.reduceEqDiff, Nat.reduceLeDiff, Nat.reduceLT, Nat.reduceAdd, reduceCtorEq, num, boo, str, ints, aV, aTab, aInst, aS, aT, aC, aRow, aOp, num, boo, str, aE_eq, aV]) (by simp only [ends, ite_true, ite_false, reduceIte, Nat.reduceEqDiff, Nat.reduceLeDiff, Nat.reduceLT, Nat.reduceAdd, reduceCtorEq, num, boo, str, ints, aV, aTab, aInst, aS, aT, aC, aRow, aOp]) (by simp [idsOk, lookO, updO, ren1]) ?_
    simp -implicitDefEqProofs only [tabN, aV, ↓steps, push_cast, reduceIte, Nat.reduceEqDiff, Nat.reduceAdd, Nat.reduceMul, Nat.reduceLT, Nat.reduceLeDiff, Int.reduceToNat, Int.reduceLE, Int.reduceLT, reduceCtorEq, tte, num, boo, str, ints, aV, aTab, aInst, aS, aT, aC, aRow, aOp]
    refine ⟨drawx_intro (by kernel_rfl), ?_⟩
    exact ret_v (by first | trivial | (simp; done) | (simp; omega)) (by rw [← hr] <;> first | rfl | (simp [nullV]; done) | (simp_all [nullV]; done)) (by simp only [ends, ite_true, ite_false, reduceIte, Nat.reduceEqDiff, Nat.reduceLeDiff, Nat.reduceLT, Nat.reduceAdd, reduceCtorEq, num, boo, str, ints, aV, aTab, aInst, aS, aT, aC, aRow, aOp])
  refine bcase_intro (fun h19 => ?_) fun h19 => ?_
  · have op : e.op = 19 := by simpa using h19
    rw [op] at hk
    have hM : evalK row e l = notM (lessM (l.getD 0 default) (l.getD 1 default)) := by simp [evalK, applyM, hc, op]
    rw [hM] at hr
    have hl : 2 ≤ l.length := len2 (by simpa [kidsR] using hk)
    repeat (refine And.intro (by first | omega | (refine ⟨?_, ?_⟩ <;> omega)) ?_)
    refine callx_of [[0, 0, 0], [0, 0, 0]] [] rfl (c_rless (l.getD 0 default) (l.getD 1 default)) (by first | (simp; done) | (simp [rowsOf_length]; done) | (simp [rowsOf_length]; omega)) (by first | (simp only [ends, ite_true, ite_false, reduceIte, Nat.reduceEqDiff, Nat.reduceLeDiff, Nat.reduceLT, Nat.reduceAdd, reduceCtorEq, num, boo, str, ints, aV, aTab, aInst, aS, aT, aC, aRow, aOp, num, boo, str, aE_eq, aV]; done) | simp [ends, ite_true, ite_false, reduceIte, Nat.reduceEqDiff, Nat.reduceLeDiff, Nat.reduceLT, Nat.reduceAdd, reduceCtorEq, num, boo, str, ints, aV, aTab, aInst, aS, aT, aC, aRow, aOp, num, boo, str, aE_eq, aV]) (by first | rfl | (simp only [ends, ite_true, ite_false, reduceIte, Nat.reduceEqDiff, Nat.reduceLeDiff, Nat.reduceLT, Nat.reduceAdd, reduceCtorEq, num, boo, str, ints, aV, aTab, aInst, aS, aT, aC, aRow, aOp, num, boo, str, aE_eq, aV]; done) | simp [ends, ite_true, ite_false, reduceIte, Nat.reduceEqDiff, Nat.reduceLeDiff, Nat.reduceLT, Nat.reduceAdd, reduceCtorEq, num, boo, str, ints, aV, aTab, aInst, aS, aT, aC, aRow, aOp, num, boo, str, aE_eq, aV]) (by simp only [ends, ite_true, ite_false, reduceIte, Nat.reduceEqDiff, Nat.reduceLeDiff, Nat.reduceLT, Nat.reduceAdd, reduceCtorEq, num, boo, str, ints, aV, aTab, aInst, aS, aT, aC, aRow, aOp]) (by simp [idsOk, lookO, updO, ren1]) ?_
    simp -implicitDefEqProofs only [tabN, aV, ↓steps, push_cast, reduceIte, Nat.reduceEqDiff, Nat.reduceAdd, Nat.reduceMul, Nat.reduceLT, Nat.reduceLeDiff, Int.reduceToNat, Int.reduceLE, Int.reduceLT, reduceCtorEq, tte, num, boo, str, ints, aV, aTab, aInst, aS, aT, aC, aRow, aOp]
    refine callx_of [[0, 0, 0]] [] rfl (c_rnot (lessM (l.getD 0 default) (l.getD 1 default))) (by first | (simp; done) | (simp [rowsOf_length]; done) | (simp [rowsOf_length]; omega)) (by first | (simp only [ends, ite_true, ite_false, reduceIte, Nat.reduceEqDiff, Nat.reduceLeDiff, Nat.reduceLT, Nat.reduceAdd, reduceCtorEq, num, boo, str, ints, aV, aTab, aInst, aS, aT, aC, aRow, aOp, num, boo, str, aE_eq, aV]; done) | simp [ends, ite_true, ite_false, reduceIte, Nat.reduceEqDiff, Nat.reduceLeDiff, Nat.reduceLT, Nat.reduceAdd, reduceCtorEq, num, boo, str, ints, aV, aTab, aInst, aS, aT, aC, aRow, aOp, num, boo, str, aE_eq, aV]) (by first | rfl | (simp only [ends, ite_true, ite_false, reduceIte, Nat.reduceEqDiff, Nat.reduceLeDiff, Nat.reduceLT, Nat.reduceAdd, reduceCtorEq, num, boo, str, ints, aV, aTab, aInst, aS, aT, aC, aRow, aOp, num, boo, str, aE_eq, aV]; done) | simp [ends, ite_true, ite_false, reduceIte, Nat.reduceEqDiff, Nat.reduceLeDiff, Nat.reduceLT, Nat.reduceAdd, reduceCtorEq, num, boo, str, ints, aV, aTab, aInst, aS, aT, aC, aRow, aOp, num, boo, str, aE_eq, aV]) (by simp only [ends, ite_true, ite_false, reduceIte, Nat.reduceEqDiff, Nat.reduceLeDiff, Nat.reduceLT, Nat.reduceAdd, reduceCtorEq, num, boo, str, ints, aV, aTab, aInst, aS, aT, aC, aRow, aOp]) (by simp [idsOk, lookO, updO, ren1]) ?_
    simp -implicitDefEqProofs only [tabN, aV, ↓steps, push_cast, reduceIte, Nat.reduceEqDiff, Nat.reduceAdd, Nat.reduceMul, Nat.reduceLT, Nat.reduceLeDiff, Int.reduceToNat, Int.reduceLE, Int.reduceLT, reduceCtorEq, tte, num, boo, str, ints, aV, aTab, aInst, aS, aT, aC, aRow, aOp]
    refine ⟨drawx_intro (by kernel_rfl), ?_⟩
    exact ret_v (by first | trivial | (simp; done) | (simp; omega)) (by rw [← hr] <;> first | rfl | (simp [nullV]; done) | (simp_all [nullV]; done)) (by simp only [ends, ite_true, ite_false, reduceIte, Nat.reduceEqDiff, Nat.reduceLeDiff, Nat.reduceLT, Nat.reduceAdd, reduceCtorEq, num, boo, str, ints, aV, aTab, aInst, aS, aT, aC, aRow, aOp])
  refine bcase_intro (fun h20 => ?_) fun h20 => ?_
  · have op : e.op = 20 := by simpa using h20
    rw [op] at hk
    have hM : evalK row e l = ofV (sameM (l.getD 0 default) (l.getD 1 default)) := by simp [evalK, applyM, hc, op]
    rw [hM] at hr
    have hl : 2 ≤ l.length := len2 (by simpa [kidsR] using hk)
    repeat (refine And.intro (by first | omega | (refine ⟨?_, ?_⟩ <;> omega)) ?_)
    refine callx_of [[0, 0, 0], [0, 0, 0]] [] rfl (c_rsame (l.getD 0 default) (l.getD 1 default)) (by first | (simp; done) | (simp [rowsOf_length]; done) | (simp [rowsOf_length]; omega)) (by first | (simp only [ends, ite_true, ite_false, reduceIte, Nat.reduceEqDiff, Nat.reduceLeDiff, Nat.reduceLT, Nat.reduceAdd, reduceCtorEq, num, boo, str, ints, aV, aTab, aInst, aS, aT, aC, aRow, aOp, num, boo, str, aE_eq, aV]; done) | simp [ends, ite_true, ite_false, reduceIte, Nat.reduceEqDiff, Nat.reduceLeDiff, Nat.reduceLT, Nat.reduceAdd, reduceCtorEq, num, boo, str, ints, aV, aTab, aInst, aS, aT, aC, aRow, aOp, num, boo, str, aE_eq, aV]) (by first | rfl | (simp only [ends, ite_true, ite_false, reduceIte, Nat.reduceEqDiff, Nat.reduceLeDiff, Nat.reduceLT, Nat.reduceAdd, reduceCtorEq, num, boo, str, ints, aV, aTab, aInst, aS, aT, aC, aRow, aOp, num, boo, str, aE_eq, aV]; done) | simp [ends, ite_true, ite_false, reduceIte, Nat.reduceEqDiff, Nat.reduceLeDiff, Nat.reduceLT, Nat.reduceAdd, reduceCtorEq, num, boo, str, ints, aV, aTab, aInst, aS, aT, aC, aRow, aOp, num, boo, str, aE_eq, aV]) (by simp only [ends, ite_true, ite_false, reduceIte, Nat.reduceEqDiff, Nat.reduceLeDiff, Nat.reduceLT, Nat.reduceAdd, reduceCtorEq, num, boo, str, ints, aV, aTab, aInst, aS, aT, aC, aRow, aOp]) (by simp [idsOk, lookO, updO, ren1]) ?_
    simp -implicitDefEqProofs only [tabN, aV, ↓steps, push_cast, reduceIte, Nat.reduceEqDiff, Nat.reduceAdd, Nat.reduceMul, Nat.reduceLT, Nat.reduceLeDiff, Int.reduceToNat, Int.reduceLE, Int.reduceLT, reduceCtorEq, tte, num, boo, str, ints, aV, aTab, aInst, aS, aT, aC, aRow, aOp]
    refine callx_of [[0]] [] rfl (c_of (sameM (l.getD 0 default) (l.getD 1 default))) (by first | (simp; done) | (simp [rowsOf_length]; done) | (simp [rowsOf_length]; omega)) (by first | (simp only [ends, ite_true, ite_false, reduceIte, Nat.reduceEqDiff, Nat.reduceLeDiff, Nat.reduceLT, Nat.reduceAdd, reduceCtorEq, num, boo, str, ints, aV, aTab, aInst, aS, aT, aC, aRow, aOp, num, boo, str, aE_eq, aV]; done) | simp [ends, ite_true, ite_false, reduceIte, Nat.reduceEqDiff, Nat.reduceLeDiff, Nat.reduceLT, Nat.reduceAdd, reduceCtorEq, num, boo, str, ints, aV, aTab, aInst, aS, aT, aC, aRow, aOp, num, boo, str, aE_eq, aV]) (by first | rfl | (simp only [ends, ite_true, ite_false, reduceIte, Nat.reduceEqDiff, Nat.reduceLeDiff, Nat.reduceLT, Nat.reduceAdd, reduceCtorEq, num, boo, str, ints, aV, aTab, aInst, aS, aT, aC, aRow, aOp, num, boo, str, aE_eq, aV]; done) | simp [ends, ite_true, ite_false, reduceIte, Nat.reduceEqDiff, Nat.reduceLeDiff, Nat.reduceLT, Nat.reduceAdd, reduceCtorEq, num, boo, str, ints, aV, aTab, aInst, aS, aT, aC, aRow, aOp, num, boo, str, aE_eq, aV]) (by simp only [ends, ite_true, ite_false, reduceIte, Nat.reduceEqDiff, Nat.reduceLeDiff, Nat.reduceLT, Nat.reduceAdd, reduceCtorEq, num, boo, str, ints, aV, aTab, aInst, aS, aT, aC, aRow, aOp]) (by simp [idsOk, lookO, updO, ren1]) ?_
    simp -implicitDefEqProofs only [tabN, aV, ↓steps, push_cast, reduceIte, Nat.reduceEqDiff, Nat.reduceAdd, Nat.reduceMul, Nat.reduceLT, Nat.reduceLeDiff, Int.reduceToNat, Int.reduceLE, Int.reduceLT, reduceCtorEq, tte, num, boo, str, ints, aV, aTab, aInst, aS, aT, aC, aRow, aOp]
    refine ⟨drawx_intro (by kernel_rfl), ?_⟩
    exact ret_v (by first | trivial | (simp; done) | (simp; omega)) (by rw [← hr] <;> first | rfl | (simp [nullV]; done) | (simp_all [nullV]; done)) (by simp only [ends, ite_true, ite_false, reduceIte, Nat.reduceEqDiff, Nat.reduceLeDiff, Nat.reduceLT, Nat.reduceAdd, reduceCtorEq, num, boo, str, ints, aV, aTab, aInst, aS, aT, aC, aRow, aOp])
  refine bcase_intro (fun h21 => ?_) fun h21 => ?_
  · have op : e.op = 21 := by simpa using h21
    rw [op] at hk
    have hM : evalK row e l = ofV ((l.getD 0 default).kind == 0) := by simp [evalK, applyM, hc, op]
    rw [hM] at hr
    have hl : 1 ≤ l.length := len1 (by simpa [kidsR] using hk)
    repeat (refine And.intro (by first | omega | (refine ⟨?_, ?_⟩ <;> omega)) ?_)
    refine callx_of [[0]] [] rfl (c_of ((l.getD 0 default).kind == 0)) (by first | (simp; done) | (simp [rowsOf_length]; done) | (simp [rowsOf_length]; omega)) (by first | (simp only [ends, ite_true, ite_false, reduceIte, Nat.reduceEqDiff, Nat.reduceLeDiff, Nat.reduceLT, Nat.reduceAdd, reduceCtorEq, num, boo, str, ints, aV, aTab, aInst, aS, aT, aC, aRow, aOp, num, boo, str, aE_eq, aV]; done) | simp [ends, ite_true, ite_false, reduceIte, Nat.reduceEqDiff, Nat.reduceLeDiff, Nat.reduceLT, Nat.reduceAdd, reduceCtorEq, num, boo, str, ints, aV, aTab, aInst, aS, aT, aC, aRow, aOp, num, boo, str, aE_eq, aV]) (by first | rfl | (simp only [ends, ite_true, ite_false, reduceIte, Nat.reduceEqDiff, Nat.reduceLeDiff, Nat.reduceLT, Nat.reduceAdd, reduceCtorEq, num, boo, str, ints, aV, aTab, aInst, aS, aT, aC, aRow, aOp, num, boo, str, aE_eq, aV]; done) | simp [ends, ite_true, ite_false, reduceIte, Nat.reduceEqDiff, Nat.reduceLeDiff, Nat.reduceLT, Nat.reduceAdd, reduceCtorEq, num, boo, str, ints, aV, aTab, aInst, aS, aT, aC, aRow, aOp, num, boo, str, aE_eq, aV]) (by simp only [ends, ite_true, ite_false, reduceIte, Nat.reduceEqDiff, Nat.reduceLeDiff, Nat.reduceLT, Nat.reduceAdd, reduceCtorEq, num, boo, str, ints, aV, aTab, aInst, aS, aT, aC, aRow, aOp]) (by simp [idsOk, lookO, updO, ren1]) ?_
    simp -implicitDefEqProofs only [tabN, aV, ↓steps, push_cast, reduceIte, Nat.reduceEqDiff, Nat.reduceAdd, Nat.reduceMul, Nat.reduceLT, Nat.reduceLeDiff, Int.reduceToNat, Int.reduceLE, Int.reduceLT, reduceCtorEq, tte, num, boo, str, ints, aV, aTab, aInst, aS, aT, aC, aRow, aOp]
    exact ret_v (by first | trivial | (simp; done) | (simp; omega)) (by rw [← hr] <;> first | rfl | (simp [nullV]; done) | (simp_all [nullV]; done)) (by simp only [ends, ite_true, ite_false, reduceIte, Nat.reduceEqDiff, Nat.reduceLeDiff, Nat.reduceLT, Nat.reduceAdd, reduceCtorEq, num, boo, str, ints, aV, aTab, aInst, aS, aT, aC, aRow, aOp])
  refine bcase_intro (fun h22 => ?_) fun h22 => ?_
  · have op : e.op = 22 := by simpa using h22
    rw [op] at hk
    have hM : evalK row e l = andM (l.getD 0 default) (l.getD 1 default) := by simp [evalK, applyM, hc, op]
    rw [hM] at hr
    have hl : 2 ≤ l.length := len2 (by simpa [kidsR] using hk)
    repeat (refine And.intro (by first | omega | (refine ⟨?_, ?_⟩ <;> omega)) ?_)
    refine callx_of [[0, 0, 0], [0, 0, 0]] [] rfl (c_rand (l.getD 0 default) (l.getD 1 default)) (by first | (simp; done) | (simp [rowsOf_length]; done) | (simp [rowsOf_length]; omega)) (by first | (simp only [ends, ite_true, ite_false, reduceIte, Nat.reduceEqDiff, Nat.reduceLeDiff, Nat.reduceLT, Nat.reduceAdd, reduceCtorEq, num, boo, str, ints, aV, aTab, aInst, aS, aT, aC, aRow, aOp, num, boo, str, aE_eq, aV]; done) | simp [ends, ite_true, ite_false, reduceIte, Nat.reduceEqDiff, Nat.reduceLeDiff, Nat.reduceLT, Nat.reduceAdd, reduceCtorEq, num, boo, str, ints, aV, aTab, aInst, aS, aT, aC, aRow, aOp, num, boo, str, aE_eq, aV]) (by first | rfl | (simp only [ends, ite_true, ite_false, reduceIte, Nat.reduceEqDiff, Nat.reduceLeDiff, Nat.reduceLT, Nat.reduceAdd, reduceCtorEq, num, boo, str, ints, aV, aTab, aInst, aS, aT, aC, aRow, aOp, num, boo, str, aE_eq, aV]; done) | simp [ends, ite_true, ite_false, reduceIte, Nat.reduceEqDiff, Nat.reduceLeDiff, Nat.reduceLT, Nat.reduceAdd, reduceCtorEq, num, boo, str, ints, aV, aTab, aInst, aS, aT, aC, aRow, aOp, num, boo, str, aE_eq, aV]) (by simp only [ends, ite_true, ite_false, reduceIte, Nat.reduceEqDiff, Nat.reduceLeDiff, Nat.reduceLT, Nat.reduceAdd, reduceCtorEq, num, boo, str, ints, aV, aTab, aInst, aS, aT, aC, aRow, aOp]) (by simp [idsOk, lookO, updO, ren1]) ?_
    simp -implicitDefEqProofs only [tabN, aV, ↓steps, push_cast, reduceIte, Nat.reduceEqDiff, Nat.reduceAdd, Nat.reduceMul, Nat.reduceLT, Nat.reduceLeDiff, Int.reduceToNat, Int.reduceLE, Int.reduceLT, reduceCtorEq, tte, num, boo, str, ints, aV, aTab, aInst, aS, aT, aC, aRow, aOp]
    refine ⟨drawx_intro (by kernel_rfl), ?_⟩
    exact ret_v (by first | trivial | (simp; done) | (simp; omega)) (by rw [← hr] <;> first | rfl | (simp [nullV]; done) | (simp_all [nullV]; done)) (by simp only [ends, ite_true, ite_false, reduceIte, Nat.reduceEqDiff, Nat.reduceLeDiff, Nat.reduceLT, Nat.reduceAdd, reduceCtorEq, num, boo, str, ints, aV, aTab, aInst, aS, aT, aC, aRow, aOp])
  refine bcase_intro (fun h23 => ?_) fun h23 => ?_
  · have op : e.op = 23 := by simpa using h23
    rw [op] at hk
    have hM : evalK row e l = orM (l.getD 0 default) (l.getD 1 default) := by simp [evalK, applyM, hc, op]
    rw [hM] at hr
    have hl : 2 ≤ l.length := len2 (by simpa [kidsR] using hk)
    repeat (refine And.intro (by first | omega | (refine ⟨?_, ?_⟩ <;> omega)) ?_)
    refine callx_of [[0, 0, 0], [0, 0, 0]] [] rfl (c_ror (l.getD 0 default) (l.getD 1 default)) (by first | (simp; done) | (simp [rowsOf_length]; done) | (simp [rowsOf_length]; omega)) (by first | (simp only [ends, ite_true, ite_false, reduceIte, Nat.reduceEqDiff, Nat.reduceLeDiff, Nat.reduceLT, Nat.reduceAdd, reduceCtorEq, num, boo, str, ints, aV, aTab, aInst, aS, aT, aC, aRow, aOp, num, boo, str, aE_eq, aV]; done) | simp [ends, ite_true, ite_false, reduceIte, Nat.reduceEqDiff, Nat.reduceLeDiff, Nat.reduceLT, Nat.reduceAdd, reduceCtorEq, num, boo, str, ints, aV, aTab, aInst, aS, aT, aC, aRow, aOp, num, boo, str, aE_eq, aV]) (by first | rfl | (simp only [ends, ite_true, ite_false, reduceIte, Nat.reduceEqDiff, Nat.reduceLeDiff, Nat.reduceLT, Nat.reduceAdd, reduceCtorEq, num, boo, str, ints, aV, aTab, aInst, aS, aT, aC, aRow, aOp, num, boo, str, aE_eq, aV]; done) | simp [ends, ite_true, ite_false, reduceIte, Nat.reduceEqDiff, Nat.reduceLeDiff, Nat.reduceLT, Nat.reduceAdd, reduceCtorEq, num, boo, str, ints, aV, aTab, aInst, aS, aT, aC, aRow, aOp, num, boo, str, aE_eq, aV]) (by simp only [ends, ite_true, ite_false, reduceIte, Nat.reduceEqDiff, Nat.reduceLeDiff, Nat.reduceLT, Nat.reduceAdd, reduceCtorEq, num, boo, str, ints, aV, aTab, aInst, aS, aT, aC, aRow, aOp]) (by simp [idsOk, lookO, updO, ren1]) ?_
    simp -implicitDefEqProofs only [tabN, aV, ↓steps, push_cast, reduceIte, Nat.reduceEqDiff, Nat.reduceAdd, Nat.reduceMul, Nat.reduceLT, Nat.reduceLeDiff, Int.reduceToNat, Int.reduceLE, Int.reduceLT, reduceCtorEq, tte, num, boo, str, ints, aV, aTab, aInst, aS, aT, aC, aRow, aOp]
    refine ⟨drawx_intro (by kernel_rfl), ?_⟩
    exact ret_v (by first | trivial | (simp; done) | (simp; omega)) (by rw [← hr] <;> first | rfl | (simp [nullV]; done) | (simp_all [nullV]; done)) (by simp only [ends, ite_true, ite_false, reduceIte, Nat.reduceEqDiff, Nat.reduceLeDiff, Nat.reduceLT, Nat.reduceAdd, reduceCtorEq, num, boo, str, ints, aV, aTab, aInst, aS, aT, aC, aRow, aOp])
  refine bcase_intro (fun h24 => ?_) fun h24 => ?_
  · have op : e.op = 24 := by simpa using h24
    rw [op] at hk
    have hM : evalK row e l = notM (l.getD 0 default) := by simp [evalK, applyM, hc, op]
    rw [hM] at hr
    have hl : 1 ≤ l.length := len1 (by simpa [kidsR] using hk)
    repeat (refine And.intro (by first | omega | (refine ⟨?_, ?_⟩ <;> omega)) ?_)
    refine callx_of [[0, 0, 0]] [] rfl (c_rnot (l.getD 0 default)) (by first | (simp; done) | (simp [rowsOf_length]; done) | (simp [rowsOf_length]; omega)) (by first | (simp only [ends, ite_true, ite_false, reduceIte, Nat.reduceEqDiff, Nat.reduceLeDiff, Nat.reduceLT, Nat.reduceAdd, reduceCtorEq, num, boo, str, ints, aV, aTab, aInst, aS, aT, aC, aRow, aOp, num, boo, str, aE_eq, aV]; done) | simp [ends, ite_true, ite_false, reduceIte, Nat.reduceEqDiff, Nat.reduceLeDiff, Nat.reduceLT, Nat.reduceAdd, reduceCtorEq, num, boo, str, ints, aV, aTab, aInst, aS, aT, aC, aRow, aOp, num, boo, str, aE_eq, aV]) (by first | rfl | (simp only [ends, ite_true, ite_false, reduceIte, Nat.reduceEqDiff, Nat.reduceLeDiff, Nat.reduceLT, Nat.reduceAdd, reduceCtorEq, num, boo, str, ints, aV, aTab, aInst, aS, aT, aC, aRow, aOp, num, boo, str, aE_eq, aV]; done) | simp [ends, ite_true, ite_false, reduceIte, Nat.reduceEqDiff, Nat.reduceLeDiff, Nat.reduceLT, Nat.reduceAdd, reduceCtorEq, num, boo, str, ints, aV, aTab, aInst, aS, aT, aC, aRow, aOp, num, boo, str, aE_eq, aV]) (by simp only [ends, ite_true, ite_false, reduceIte, Nat.reduceEqDiff, Nat.reduceLeDiff, Nat.reduceLT, Nat.reduceAdd, reduceCtorEq, num, boo, str, ints, aV, aTab, aInst, aS, aT, aC, aRow, aOp]) (by simp [idsOk, lookO, updO, ren1]) ?_
    simp -implicitDefEqProofs only [tabN, aV, ↓steps, push_cast, reduceIte, Nat.reduceEqDiff, Nat.reduceAdd, Nat.reduceMul, Nat.reduceLT, Nat.reduceLeDiff, Int.reduceToNat, Int.reduceLE, Int.reduceLT, reduceCtorEq, tte, num, boo, str, ints, aV, aTab, aInst, aS, aT, aC, aRow, aOp]
    exact ret_v (by first | trivial | (simp; done) | (simp; omega)) (by rw [← hr] <;> first | rfl | (simp [nullV]; done) | (simp_all [nullV]; done)) (by simp only [ends, ite_true, ite_false, reduceIte, Nat.reduceEqDiff, Nat.reduceLeDiff, Nat.reduceLT, Nat.reduceAdd, reduceCtorEq, num, boo, str, ints, aV, aTab, aInst, aS, aT, aC, aRow, aOp])
  refine bcase_intro (fun h25 => ?_) fun h25 => ?_
  · have op : e.op = 25 := by simpa using h25
    rw [op] at hk
    have hM : evalK row e l = ofV (truthM (l.getD 0 default) == 1) := by simp [evalK, applyM, hc, op]
    rw [hM] at hr
    have hl : 1 ≤ l.length := len1 (by simpa [kidsR] using hk)
    repeat (refine And.intro (by first | omega | (refine ⟨?_, ?_⟩ <;> omega)) ?_)
    refine callx_of [[0, 0, 0]] [] rfl (c_rTruth (l.getD 0 default)) (by first | (simp; done) | (simp [rowsOf_length]; done) | (simp [rowsOf_length]; omega)) (by first | (simp only [ends, ite_true, ite_false, reduceIte, Nat.reduceEqDiff, Nat.reduceLeDiff, Nat.reduceLT, Nat.reduceAdd, reduceCtorEq, num, boo, str, ints, aV, aTab, aInst, aS, aT, aC, aRow, aOp, num, boo, str, aE_eq, aV]; done) | simp [ends, ite_true, ite_false, reduceIte, Nat.reduceEqDiff, Nat.reduceLeDiff, Nat.reduceLT, Nat.reduceAdd, reduceCtorEq, num, boo, str, ints, aV, aTab, aInst, aS, aT, aC, aRow, aOp, num, boo, str, aE_eq, aV]) (by first | rfl | (simp only [ends, ite_true, ite_false, reduceIte, Nat.reduceEqDiff, Nat.reduceLeDiff, Nat.reduceLT, Nat.reduceAdd, reduceCtorEq, num, boo, str, ints, aV, aTab, aInst, aS, aT, aC, aRow, aOp, num, boo, str, aE_eq, aV]; done) | simp [ends, ite_true, ite_false, reduceIte, Nat.reduceEqDiff, Nat.reduceLeDiff, Nat.reduceLT, Nat.reduceAdd, reduceCtorEq, num, boo, str, ints, aV, aTab, aInst, aS, aT, aC, aRow, aOp, num, boo, str, aE_eq, aV]) (by simp only [ends, ite_true, ite_false, reduceIte, Nat.reduceEqDiff, Nat.reduceLeDiff, Nat.reduceLT, Nat.reduceAdd, reduceCtorEq, num, boo, str, ints, aV, aTab, aInst, aS, aT, aC, aRow, aOp]) (by simp [idsOk, lookO, updO, ren1]) ?_
    simp -implicitDefEqProofs only [tabN, aV, ↓steps, push_cast, reduceIte, Nat.reduceEqDiff, Nat.reduceAdd, Nat.reduceMul, Nat.reduceLT, Nat.reduceLeDiff, Int.reduceToNat, Int.reduceLE, Int.reduceLT, reduceCtorEq, tte, num, boo, str, ints, aV, aTab, aInst, aS, aT, aC, aRow, aOp]
    refine callx_of [[0]] [] rfl (c_of (truthM (l.getD 0 default) == 1)) (by first | (simp; done) | (simp [rowsOf_length]; done) | (simp [rowsOf_length]; omega)) (by first | (simp only [ends, ite_true, ite_false, reduceIte, Nat.reduceEqDiff, Nat.reduceLeDiff, Nat.reduceLT, Nat.reduceAdd, reduceCtorEq, num, boo, str, ints, aV, aTab, aInst, aS, aT, aC, aRow, aOp, num, boo, str, aE_eq, aV]; done) | simp [ends, ite_true, ite_false, reduceIte, Nat.reduceEqDiff, Nat.reduceLeDiff, Nat.reduceLT, Nat.reduceAdd, reduceCtorEq, num, boo, str, ints, aV, aTab, aInst, aS, aT, aC, aRow, aOp, num, boo, str, aE_eq, aV]) (by first | rfl | (simp only [ends, ite_true, ite_false, reduceIte, Nat.reduceEqDiff, Nat.reduceLeDiff, Nat.reduceLT, Nat.reduceAdd, reduceCtorEq, num, boo, str, ints, aV, aTab, aInst, aS, aT, aC, aRow, aOp, num, boo, str, aE_eq, aV]; done) | simp [ends, ite_true, ite_false, reduceIte, Nat.reduceEqDiff, Nat.reduceLeDiff, Nat.reduceLT, Nat.reduceAdd, reduceCtorEq, num, boo, str, ints, aV, aTab, aInst, aS, aT, aC, aRow, aOp, num, boo, str, aE_eq, aV]) (by simp only [ends, ite_true, ite_false, reduceIte, Nat.reduceEqDiff, Nat.reduceLeDiff, Nat.reduceLT, Nat.reduceAdd, reduceCtorEq, num, boo, str, ints, aV, aTab, aInst, aS, aT, aC, aRow, aOp]) (by simp [idsOk, lookO, updO, ren1]) ?_
    simp -implicitDefEqProofs only [tabN, aV, ↓steps, push_cast, reduceIte, Nat.reduceEqDiff, Nat.reduceAdd, Nat.reduceMul, Nat.reduceLT, Nat.reduceLeDiff, Int.reduceToNat, Int.reduceLE, Int.reduceLT, reduceCtorEq, tte, num, boo, str, ints, aV, aTab, aInst, aS, aT, aC, aRow, aOp]
    exact ret_v (by first | trivial | (simp; done) | (simp; omega)) (by rw [← hr] <;> first | rfl | (simp [nullV]; done) | (simp_all [nullV]; done)) (by simp only [ends, ite_true, ite_false, reduceIte, Nat.reduceEqDiff, Nat.reduceLeDiff, Nat.reduceLT, Nat.reduceAdd, reduceCtorEq, num, boo, str, ints, aV, aTab, aInst, aS, aT, aC, aRow, aOp])
  refine bcase_intro (fun h26 => ?_) fun h26 => ?_
  · have op : e.op = 26 := by simpa using h26
    rw [op] at hk
    have hl : 3 ≤ l.length := by have : (l.length : Int) = 3 := by simpa [kidsR] using hk
                                 omega
    repeat (refine And.intro (by first | omega | (refine ⟨?_, ?_⟩ <;> omega)) ?_)
    refine callx_of [[0, 0, 0]] [] rfl (c_rTruth (l.getD 0 default)) (by first | (simp; done) | (simp [rowsOf_length]; done) | (simp [rowsOf_length]; omega)) (by first | (simp only [ends, ite_true, ite_false, reduceIte, Nat.reduceEqDiff, Nat.reduceLeDiff, Nat.reduceLT, Nat.reduceAdd, reduceCtorEq, num, boo, str, ints, aV, aTab, aInst, aS, aT, aC, aRow, aOp, num, boo, str, aE_eq, aV]; done) | simp [ends, ite_true, ite_false, reduceIte, Nat.reduceEqDiff, Nat.reduceLeDiff, Nat.reduceLT, Nat.reduceAdd, reduceCtorEq, num, boo, str, ints, aV, aTab, aInst, aS, aT, aC, aRow, aOp, num, boo, str, aE_eq, aV]) (by first | rfl | (simp only [ends, ite_true, ite_false, reduceIte, Nat.reduceEqDiff, Nat.reduceLeDiff, Nat.reduceLT, Nat.reduceAdd, reduceCtorEq, num, boo, str, ints, aV, aTab, aInst, aS, aT, aC, aRow, aOp, num, boo, str, aE_eq, aV]; done) | simp [ends, ite_true, ite_false, reduceIte, Nat.reduceEqDiff, Nat.reduceLeDiff, Nat.reduceLT, Nat.reduceAdd, reduceCtorEq, num, boo, str, ints, aV, aTab, aInst, aS, aT, aC, aRow, aOp, num, boo, str, aE_eq, aV]) (by simp only [ends, ite_true, ite_false, reduceIte, Nat.reduceEqDiff, Nat.reduceLeDiff, Nat.reduceLT, Nat.reduceAdd, reduceCtorEq, num, boo, str, ints, aV, aTab, aInst, aS, aT, aC, aRow, aOp]) (by simp [idsOk, lookO, updO, ren1]) ?_
    simp -implicitDefEqProofs only [tabN, aV, ↓steps, push_cast, reduceIte, Nat.reduceEqDiff, Nat.reduceAdd, Nat.reduceMul, Nat.reduceLT, Nat.reduceLeDiff, Int.reduceToNat, Int.reduceLE, Int.reduceLT, reduceCtorEq, tte, num, boo, str, ints, aV, aTab, aInst, aS, aT, aC, aRow, aOp]
    refine bcase_intro (fun g => ?_) fun g => ?_
    · have g1 : truthM (l.getD 0 default) = 1 := by simpa using g
      rw [List.getD_eq_getElem?_getD] at g1
      have hM : evalK row e l = (l.getD 1 default) := by simp [evalK, applyM, hc, op, g1]
      rw [hM] at hr
      refine ⟨(by first | omega | trivial | (refine ⟨?_, ?_⟩ <;> first | omega | trivial | (refine ⟨?_, ?_⟩ <;> first | omega | trivial | (refine ⟨?_, ?_⟩ <;> first | omega | trivial | rfl)))), by omega, by omega, ?_⟩
      exact ret_v (by first | trivial | (simp; done) | (simp; omega)) (by rw [← hr] <;> first | rfl | (simp [nullV]; done) | (simp_all [nullV]; done)) (by simp only [ends, ite_true, ite_false, reduceIte, Nat.reduceEqDiff, Nat.reduceLeDiff, Nat.reduceLT, Nat.reduceAdd, reduceCtorEq, num, boo, str, ints, aV, aTab, aInst, aS, aT, aC, aRow, aOp])
    · have g1 : ¬ truthM (l.getD 0 default) = 1 := by simpa using g
      rw [List.getD_eq_getElem?_getD] at g1
      have hM : evalK row e l = (l.getD 2 default) := by simp [evalK, applyM, hc, op, g1]
      rw [hM] at hr
      refine ⟨(by first | omega | trivial | (refine ⟨?_, ?_⟩ <;> first | omega | trivial | (refine ⟨?_, ?_⟩ <;> first | omega | trivial | (refine ⟨?_, ?_⟩ <;> first | omega | trivial | rfl)))), by omega, by omega, ?_⟩
      exact ret_v (by first | trivial | (simp; done) | (simp; omega)) (by rw [← hr] <;> first | rfl | (simp [nullV]; done) | (simp_all [nullV]; done)) (by simp only [ends, ite_true, ite_false, reduceIte, Nat.reduceEqDiff, Nat.reduceLeDiff, Nat.reduceLT, Nat.reduceAdd, reduceCtorEq, num, boo, str, ints, aV, aTab, aInst, aS, aT, aC, aRow, aOp])
  refine bcase_intro (fun h27 => ?_) fun h27 => ?_
  · have op : e.op = 27 := by simpa using h27
    rw [op] at hk
    have hl : 2 ≤ l.length := len2 (by simpa [kidsR] using hk)
    repeat (refine And.intro (by first | omega | (refine ⟨?_, ?_⟩ <;> omega)) ?_)
    refine bcase_intro (fun g => ?_) fun g => ?_
    · have g1 : ¬ (l.getD 0 default).kind = 0 := by simpa using g
      rw [List.getD_eq_getElem?_getD] at g1
      have hM : evalK row e l = (l.getD 0 default) := by simp [evalK, applyM, hc, op, g1]
      rw [hM] at hr
      refine ⟨(by first | omega | trivial | (refine ⟨?_, ?_⟩ <;> first | omega | trivial | (refine ⟨?_, ?_⟩ <;> first | omega | trivial | (refine ⟨?_, ?_⟩ <;> first | omega | trivial | rfl)))), by omega, by omega, ?_⟩
      exact ret_v (by first | trivial | (simp; done) | (simp; omega)) (by rw [← hr] <;> first | rfl | (simp [nullV]; done) | (simp_all [nullV]; done)) (by simp only [ends, ite_true, ite_false, reduceIte, Nat.reduceEqDiff, Nat.reduceLeDiff, Nat.reduceLT, Nat.reduceAdd, reduceCtorEq, num, boo, str, ints, aV, aTab, aInst, aS, aT, aC, aRow, aOp])
    · have g1 : (l.getD 0 default).kind = 0 := by simpa using g
      rw [List.getD_eq_getElem?_getD] at g1
      have hM : evalK row e l = (l.getD 1 default) := by simp [evalK, applyM, hc, op, g1]
      rw [hM] at hr
      refine ⟨(by first | omega | trivial | (refine ⟨?_, ?_⟩ <;> first | omega | trivial | (refine ⟨?_, ?_⟩ <;> first | omega | trivial | (refine ⟨?_, ?_⟩ <;> first | omega | trivial | rfl)))), by omega, by omega, ?_⟩
      exact ret_v (by first | trivial | (simp; done) | (simp; omega)) (by rw [← hr] <;> first | rfl | (simp [nullV]; done) | (simp_all [nullV]; done)) (by simp only [ends, ite_true, ite_false, reduceIte, Nat.reduceEqDiff, Nat.reduceLeDiff, Nat.reduceLT, Nat.reduceAdd, reduceCtorEq, num, boo, str, ints, aV, aTab, aInst, aS, aT, aC, aRow, aOp])
  refine bcase_intro (fun h28 => ?_) fun h28 => ?_
  · have op : e.op = 28 := by simpa using h28
    rw [op] at hk
    have hl0 : 2 ≤ l.length := by have : (l.length : Int) ≥ 2 := by simpa [kidsR] using hk
                                  omega
    have hM : evalK row e l = inM (l.getD 0 default) (equalM (l.getD 0 default) (l.getD 1 default)) (l.drop 2) := by
      simp only [evalK, hc, op]
      show inM (l.getD 0 default) (ofV false) (l.drop 1) = _
      rw [drop_cons _ 1 (by omega), inM, orM_false]
    rw [hM] at hr
    generalize hv0 : l.getD 0 default = v0 at hr ⊢
    have hacc : ∃ acc : Nat → Val, acc 2 = equalM v0 (l.getD 1 default) ∧ (∀ n, n < l.length → 2 ≤ n → acc (n + 1) = orM (acc n) (equalM v0 (l.getD n default))) ∧ acc l.length = inM v0 (equalM v0 (l.getD 1 default)) (l.drop 2) := by
      refine ⟨fun n => inM v0 (equalM v0 (l.getD 1 default)) ((l.drop 2).take (n - 2)), by simp [inM], fun n h1 h2 => ?_, ?_⟩
      · have e1 : n + 1 - 2 = (n - 2) + 1 := by omega
        have e2 : (l.drop 2).getD (n - 2) default = l.getD n default := by
          simp only [List.getD_eq_getElem?_getD, List.getElem?_drop]
          rw [show 2 + (n - 2) = n by omega]
        simp only []
        rw [e1, take_snoc _ _ (by simp; omega), inM_snoc, e2]
      · simp only []
        rw [List.take_of_length_le (by simp)]
    obtain ⟨acc, ha2, has, haN⟩ := hacc
    rw [← haN] at hr
    repeat (refine And.intro (by first | omega | (refine ⟨?_, ?_⟩ <;> omega)) ?_)
    refine callx_of [[0, 0, 0], [0, 0, 0]] [] rfl (c_requal v0 (l.getD 1 default)) (by first | (simp; done) | (simp [rowsOf_length]; done) | (simp [rowsOf_length]; omega)) (by first | (simp only [ends, ite_true, ite_false, reduceIte, Nat.reduceEqDiff, Nat.reduceLeDiff, Nat.reduceLT, Nat.reduceAdd, reduceCtorEq, num, boo, str, ints, aV, aTab, aInst, aS, aT, aC, aRow, aOp, num, boo, str, aE_eq, aV]; done) | simp [ends, ite_true, ite_false, reduceIte, Nat.reduceEqDiff, Nat.reduceLeDiff, Nat.reduceLT, Nat.reduceAdd, reduceCtorEq, num, boo, str, ints, aV, aTab, aInst, aS, aT, aC, aRow, aOp, num, boo, str, aE_eq, aV]) (by first | rfl | (simp only [ends, ite_true, ite_false, reduceIte, Nat.reduceEqDiff, Nat.reduceLeDiff, Nat.reduceLT, Nat.reduceAdd, reduceCtorEq, num, boo, str, ints, aV, aTab, aInst, aS, aT, aC, aRow, aOp, num, boo, str, aE_eq, aV]; done) | simp [ends, ite_true, ite_false, reduceIte, Nat.reduceEqDiff, Nat.reduceLeDiff, Nat.reduceLT, Nat.reduceAdd, reduceCtorEq, num, boo, str, ints, aV, aTab, aInst, aS, aT, aC, aRow, aOp, num, boo, str, aE_eq, aV]) (by simp only [ends, ite_true, ite_false, reduceIte, Nat.reduceEqDiff, Nat.reduceLeDiff, Nat.reduceLT, Nat.reduceAdd, reduceCtorEq, num, boo, str, ints, aV, aTab, aInst, aS, aT, aC, aRow, aOp]) (by simp [idsOk, lookO, updO, ren1]) ?_
    simp -implicitDefEqProofs only [tabN, aV, ↓steps, push_cast, reduceIte, Nat.reduceEqDiff, Nat.reduceAdd, Nat.reduceMul, Nat.reduceLT, Nat.reduceLeDiff, Int.reduceToNat, Int.reduceLE, Int.reduceLT, reduceCtorEq, tte, num, boo, str, ints, aV, aTab, aInst, aS, aT, aC, aRow, aOp]
    refine ⟨drawx_intro (by kernel_rfl), ?_⟩
    rw [← ha2]
    refine loop_gen mixed ttok (fun n : Nat => (⟨[(8, .d (.lit (.int .i64 n))), (5, .vec 500 l.length), (4, .ptr 4 0), (7, .ptr 7 0)], [(500, .vec 42 3 (rowsOf rV l) 0), (7, .var [.d (.lit (.int .i64 (acc n).kind)), .d (.lit (.int .i64 (acc n).num)), .d (.lit (.string (acc n).text))]), (4, .var [.d (.lit (.int .i64 0)), .d (.lit (.int .i64 0)), .d (.lit (.string ByteArray.empty))])]⟩ : SL)) (fun n => l.length - n) (fun n => 2 ≤ n ∧ n ≤ l.length) 2 ⟨by omega, by omega⟩ ?_ ?_
    · exact Weak.keepL (by simp [hl2, ends, ite_true, ite_false, reduceIte, Nat.reduceEqDiff, Nat.reduceLeDiff, Nat.reduceLT, Nat.reduceAdd, reduceCtorEq, num, boo, str, ints, aV, aTab, aInst, aS, aT, aC, aRow, aOp]) (by simp [ends, ite_true, ite_false, reduceIte, Nat.reduceEqDiff, Nat.reduceLeDiff, Nat.reduceLT, Nat.reduceAdd, reduceCtorEq, num, boo, str, ints, aV, aTab, aInst, aS, aT, aC, aRow, aOp]) (by simp [ends, ite_true, ite_false, reduceIte, Nat.reduceEqDiff, Nat.reduceLeDiff, Nat.reduceLT, Nat.reduceAdd, reduceCtorEq, num, boo, str, ints, aV, aTab, aInst, aS, aT, aC, aRow, aOp])
    intro I hI n ⟨hn1, hn⟩
    simp -implicitDefEqProofs only [↓steps, push_cast, reduceIte, Nat.reduceEqDiff, Nat.reduceAdd, Nat.reduceMul, Nat.reduceLT, Nat.reduceLeDiff, Int.reduceToNat, Int.reduceLE, Int.reduceLT, reduceCtorEq, tte, num, boo, str, ints, aV, aTab, aInst, aS, aT, aC, aRow, aOp]
    refine bcase_intro (fun h => ?_) fun h => ?_
    · simp only [decide_eq_true_eq] at h
      have h' : n < l.length := by omega
      have hw := wrap_succ h' (by omega)
      repeat (refine And.intro (by first | omega | (refine ⟨?_, ?_⟩ <;> omega)) ?_)
      simp only [hv0]
      refine callx_of [[0, 0, 0], [0, 0, 0]] [] rfl (c_requal v0 (l.getD n default)) (by first | (simp; done) | (simp [rowsOf_length]; done) | (simp [rowsOf_length]; omega)) (by first | (simp only [ends, ite_true, ite_false, reduceIte, Nat.reduceEqDiff, Nat.reduceLeDiff, Nat.reduceLT, Nat.reduceAdd, reduceCtorEq, num, boo, str, ints, aV, aTab, aInst, aS, aT, aC, aRow, aOp, num, boo, str, aE_eq, aV]; done) | simp [ends, ite_true, ite_false, reduceIte, Nat.reduceEqDiff, Nat.reduceLeDiff, Nat.reduceLT, Nat.reduceAdd, reduceCtorEq, num, boo, str, ints, aV, aTab, aInst, aS, aT, aC, aRow, aOp, num, boo, str, aE_eq, aV]) (by first | rfl | (simp only [ends, ite_true, ite_false, reduceIte, Nat.reduceEqDiff, Nat.reduceLeDiff, Nat.reduceLT, Nat.reduceAdd, reduceCtorEq, num, boo, str, ints, aV, aTab, aInst, aS, aT, aC, aRow, aOp, num, boo, str, aE_eq, aV]; done) | simp [ends, ite_true, ite_false, reduceIte, Nat.reduceEqDiff, Nat.reduceLeDiff, Nat.reduceLT, Nat.reduceAdd, reduceCtorEq, num, boo, str, ints, aV, aTab, aInst, aS, aT, aC, aRow, aOp, num, boo, str, aE_eq, aV]) (by simp only [ends, ite_true, ite_false, reduceIte, Nat.reduceEqDiff, Nat.reduceLeDiff, Nat.reduceLT, Nat.reduceAdd, reduceCtorEq, num, boo, str, ints, aV, aTab, aInst, aS, aT, aC, aRow, aOp]) (by simp [idsOk, lookO, updO, ren1]) ?_
      simp -implicitDefEqProofs only [tabN, aV, ↓steps, push_cast, reduceIte, Nat.reduceEqDiff, Nat.reduceAdd, Nat.reduceMul, Nat.reduceLT, Nat.reduceLeDiff, Int.reduceToNat, Int.reduceLE, Int.reduceLT, reduceCtorEq, tte, num, boo, str, ints, aV, aTab, aInst, aS, aT, aC, aRow, aOp]
      refine callx_of [[0, 0, 0], [0, 0, 0]] [] rfl (c_ror (acc n) (equalM v0 (l.getD n default))) (by first | (simp; done) | (simp [rowsOf_length]; done) | (simp [rowsOf_length]; omega)) (by first | (simp only [ends, ite_true, ite_false, reduceIte, Nat.reduceEqDiff, Nat.reduceLeDiff, Nat.reduceLT, Nat.reduceAdd, reduceCtorEq, num, boo, str, ints, aV, aTab, aInst, aS, aT, aC, aRow, aOp, num, boo, str, aE_eq, aV]; done) | simp [ends, ite_true, ite_false, reduceIte, Nat.reduceEqDiff, Nat.reduceLeDiff, Nat.reduceLT, Nat.reduceAdd, reduceCtorEq, num, boo, str, ints, aV, aTab, aInst, aS, aT, aC, aRow, aOp, num, boo, str, aE_eq, aV]) (by first | rfl | (simp only [ends, ite_true, ite_false, reduceIte, Nat.reduceEqDiff, Nat.reduceLeDiff, Nat.reduceLT, Nat.reduceAdd, reduceCtorEq, num, boo, str, ints, aV, aTab, aInst, aS, aT, aC, aRow, aOp, num, boo, str, aE_eq, aV]; done) | simp [ends, ite_true, ite_false, reduceIte, Nat.reduceEqDiff, Nat.reduceLeDiff, Nat.reduceLT, Nat.reduceAdd, reduceCtorEq, num, boo, str, ints, aV, aTab, aInst, aS, aT, aC, aRow, aOp, num, boo, str, aE_eq, aV]) (by simp only [ends, ite_true, ite_false, reduceIte, Nat.reduceEqDiff, Nat.reduceLeDiff, Nat.reduceLT, Nat.reduceAdd, reduceCtorEq, num, boo, str, ints, aV, aTab, aInst, aS, aT, aC, aRow, aOp]) (by simp [idsOk, lookO, updO, ren1]) ?_
      simp -implicitDefEqProofs only [tabN, aV, ↓steps, push_cast, reduceIte, Nat.reduceEqDiff, Nat.reduceAdd, Nat.reduceMul, Nat.reduceLT, Nat.reduceLeDiff, Int.reduceToNat, Int.reduceLE, Int.reduceLT, reduceCtorEq, tte, num, boo, str, ints, aV, aTab, aInst, aS, aT, aC, aRow, aOp]
      refine ⟨drawx_intro (by kernel_rfl), ?_⟩
      rw [← has n h' hn1]
      exact gen_again hI (n + 1) ⟨by omega, by omega⟩ (by show l.length - (n + 1) < l.length - n; omega) (Weak.keepL (by simp [hw, ends, ite_true, ite_false, reduceIte, Nat.reduceEqDiff, Nat.reduceLeDiff, Nat.reduceLT, Nat.reduceAdd, reduceCtorEq, num, boo, str, ints, aV, aTab, aInst, aS, aT, aC, aRow, aOp]) (by simp [ends, ite_true, ite_false, reduceIte, Nat.reduceEqDiff, Nat.reduceLeDiff, Nat.reduceLT, Nat.reduceAdd, reduceCtorEq, num, boo, str, ints, aV, aTab, aInst, aS, aT, aC, aRow, aOp]) (by simp [ends, ite_true, ite_false, reduceIte, Nat.reduceEqDiff, Nat.reduceLeDiff, Nat.reduceLT, Nat.reduceAdd, reduceCtorEq, num, boo, str, ints, aV, aTab, aInst, aS, aT, aC, aRow, aOp]))
    · simp only [decide_eq_false_iff_not] at h
      obtain rfl : n = l.length := by omega
      exact ret_v (by first | trivial | (simp; done) | (simp; omega)) (by rw [← hr] <;> first | rfl | (simp [nullV]; done) | (simp_all [nullV]; done)) (by simp only [ends, ite_true, ite_false, reduceIte, Nat.reduceEqDiff, Nat.reduceLeDiff, Nat.reduceLT, Nat.reduceAdd, reduceCtorEq, num, boo, str, ints, aV, aTab, aInst, aS, aT, aC, aRow, aOp])
  have hcase : e.op = 6 ∨ e.op = 7 ∨ e.op = 8 ∨ e.op = 9 ∨ e.op = 10 ∨ e.op = 12 := by
    simp only [beq_eq_false_iff_ne, ne_eq] at h1 h2 h3 h4 h5 h11 h13 h14 h15 h16 h17 h18 h19 h20 h21 h22 h23 h24 h25 h26 h27 h28
    omega
  have hl0 : 2 ≤ l.length := by
    rcases hcase with h | h | h | h | h | h <;> rw [h] at hk <;> exact len2 (by simpa [kidsR] using hk)
  have hM : evalK row e l = arithM e.op (l.getD 0 default) (l.getD 1 default) := by
    rcases hcase with h | h | h | h | h | h <;> simp [evalK, applyM, hc, h]
  rw [hM] at hr
  repeat (refine And.intro (by first | omega | (refine ⟨?_, ?_⟩ <;> omega)) ?_)
  refine callx_of [[0], [0, 0, 0], [0, 0, 0]] [] rfl (c_rarith e.op (l.getD 0 default) (l.getD 1 default)) (by first | (simp; done) | (simp [rowsOf_length]; done) | (simp [rowsOf_length]; omega)) (by first | (simp only [ends, ite_true, ite_false, reduceIte, Nat.reduceEqDiff, Nat.reduceLeDiff, Nat.reduceLT, Nat.reduceAdd, reduceCtorEq, num, boo, str, ints, aV, aTab, aInst, aS, aT, aC, aRow, aOp, num, boo, str, aE_eq, aV]; done) | simp [ends, ite_true, ite_false, reduceIte, Nat.reduceEqDiff, Nat.reduceLeDiff, Nat.reduceLT, Nat.reduceAdd, reduceCtorEq, num, boo, str, ints, aV, aTab, aInst, aS, aT, aC, aRow, aOp, num, boo, str, aE_eq, aV]) (by first | rfl | (simp only [ends, ite_true, ite_false, reduceIte, Nat.reduceEqDiff, Nat.reduceLeDiff, Nat.reduceLT, Nat.reduceAdd, reduceCtorEq, num, boo, str, ints, aV, aTab, aInst, aS, aT, aC, aRow, aOp, num, boo, str, aE_eq, aV]; done) | simp [ends, ite_true, ite_false, reduceIte, Nat.reduceEqDiff, Nat.reduceLeDiff, Nat.reduceLT, Nat.reduceAdd, reduceCtorEq, num, boo, str, ints, aV, aTab, aInst, aS, aT, aC, aRow, aOp, num, boo, str, aE_eq, aV]) (by simp only [ends, ite_true, ite_false, reduceIte, Nat.reduceEqDiff, Nat.reduceLeDiff, Nat.reduceLT, Nat.reduceAdd, reduceCtorEq, num, boo, str, ints, aV, aTab, aInst, aS, aT, aC, aRow, aOp]) (by simp [idsOk, lookO, updO, ren1]) ?_
  simp -implicitDefEqProofs only [tabN, aV, ↓steps, push_cast, reduceIte, Nat.reduceEqDiff, Nat.reduceAdd, Nat.reduceMul, Nat.reduceLT, Nat.reduceLeDiff, Int.reduceToNat, Int.reduceLE, Int.reduceLT, reduceCtorEq, tte, num, boo, str, ints, aV, aTab, aInst, aS, aT, aC, aRow, aOp]
  refine ⟨drawx_intro (by kernel_rfl), ?_⟩
  exact ret_v (by first | trivial | (simp; done) | (simp; omega)) (by rw [← hr] <;> first | rfl | (simp [nullV]; done) | (simp_all [nullV]; done)) (by simp only [ends, ite_true, ite_false, reduceIte, Nat.reduceEqDiff, Nat.reduceLeDiff, Nat.reduceLT, Nat.reduceAdd, reduceCtorEq, num, boo, str, ints, aV, aTab, aInst, aS, aT, aC, aRow, aOp])
end Go.Proofs.YtkccdfaelbepeaaDoor

namespace Go.Proofs.YtkccdfaelbepeaaDoor
open Go.Am Go.Sort Go.Proofs Go.Shelf Go.RowKit
set_option linter.unusedVariables false
set_option maxRecDepth 100000
set_option maxHeartbeats 4000000

/-- From w to w' nothing has turned: draws and blocks have come. -/
theorem quiet_grown {Y : Nat → Nat → Prop} {w w' : World} (h : Ev Y w w') (hY : ∀ b i, ¬ Y b i) : ∃ q os', w' = grow (w.drewN q) os' := by
  have hb := h.below hY
  refine ⟨w'.drawn - w.drawn, w'.heap.extract w.heap.size w'.heap.size, ?_⟩
  have h1 : w'.heap = w.heap ++ w'.heap.extract w.heap.size w'.heap.size := by
    apply Array.ext_getElem?
    intro k
    rw [Array.getElem?_append]
    split
    · rename_i hk; exact hb.block k hk
    · rename_i hk
      rw [Array.getElem?_extract]
      have := h.size
      split
      · congr 1; omega
      · rename_i hk2; rw [Array.getElem?_eq_none (by omega)]
  have h2 : w.drawn + (w'.drawn - w.drawn) = w'.drawn := by have := h.drawn; omega
  have e1 := h.os
  have e2 := h.tape
  have e3 := h.output
  unfold grow World.drewN
  rw [h2, ← h1, ← e1, ← e2, ← e3]

def encV (v : Val) : List Value := [.int .i64 v.kind, .int .i64 v.num, .string v.text]
def sortV (vs : List Val) : List Val := vs.mergeSort fun x y => !(ltOf cmpM y x)
theorem sortV_length (vs : List Val) : (sortV vs).length = vs.length := by rw [sortV, List.length_mergeSort]

theorem swo : SWO (ltOf cmpM) where
  irrefl x := by simp [ltOf, cmpM_irrefl]
  trans x y z h1 h2 := by
    simp only [ltOf, decide_eq_true_eq] at *
    exact cmpM_trans h1 h2
  ntrans x y z h1 h2 := by
    simp only [ltOf, decide_eq_false_iff_not] at *
    intro h3
    by_cases h4 : cmpM y x < 0
    · exact h2 (cmpM_trans h4 h3)
    · have := cmpM_tri x y h1 h4
      subst this
      exact h2 h3

theorem rows_flat {R : Rd} : ∀ (vs : List Val) (C : Nat → Value → Prop) (k : Nat), (∀ i, i < vs.length → C (k + i * 3) (.int .i64 (vs.getD i default).kind) ∧ C (k + i * 3 + 1) (.int .i64 (vs.getD i default).num) ∧ C (k + i * 3 + 2) (.string (vs.getD i default).text)) →
    Go.Am.rowsAt R C 3 k (rowsOf rV vs)
  | [], _, _, _ => by simp [rowsOf, Go.Am.rowsAt]
  | v :: vs, C, k, h => by
    rw [rowsOf_cons]
    simp only [Go.Am.rowsAt]
    obtain ⟨h1, h2, h3⟩ := h 0 (by simp)
    simp at h1 h2 h3
    refine ⟨rfl, ?_, rows_flat vs C (k + 3) fun i hi => ?_⟩
    · simp only [rV, Go.Am.rowAt]
      exact ⟨⟨_, h1, rfl, rfl⟩, ⟨_, h2, rfl, rfl⟩, ⟨_, h3, rfl, rfl⟩, trivial⟩
    · have := h (i + 1) (by simpa using hi)
      rw [show k + (i + 1) * 3 = k + 3 + i * 3 by omega] at this
      simpa using this
theorem flat_rows {R : Rd} {C : Nat → Value → Prop} {vs : List Val} {k : Nat} (h : Go.Am.rowsAt R C 3 k (rowsOf rV vs)) {i : Nat} (hi : i < vs.length) :
    C (k + i * 3) (.int .i64 (vs.getD i default).kind) ∧ C (k + i * 3 + 1) (.int .i64 (vs.getD i default).num) ∧ C (k + i * 3 + 2) (.string (vs.getD i default).text) := by
  have := (rowsAt_get _ _ i (by rw [rowsOf_length]; exact hi) h).2
  rw [rowsOf_getD _ _ _ hi] at this
  simp only [rV, Go.Am.rowAt, D.rep] at this
  obtain ⟨⟨v1, a1, b1, _⟩, ⟨v2, a2, b2, _⟩, ⟨v3, a3, b3, _⟩, _⟩ := this
  subst b1 b2 b3
  exact ⟨a1, a2, a3⟩

theorem sortWorld_old (w : World) (b m : Nat) (d : Array Val) (os : Array Obj) (hb : b < w.heap.size) (k : Nat) (hk : k ≠ b) (hk2 : k < w.heap.size) : (sortWorldK encV 3 w b 0 m d os).heap[k]? = w.heap[k]? := by
  unfold sortWorldK grow putRowK putRow mapBlock
  simp only [Array.getElem?_append, Array.size_modify]
  rw [if_pos (by exact hk2), Array.getElem?_modify, if_neg (Ne.symm hk)]
  rfl
theorem sortWorld_blk (w : World) (b m : Nat) (d : Array Val) (os : Array Obj) {c : Array Value} {e : TypeId} (hb : w.heap[b]? = some (.cells c e (0, 0))) :
    (sortWorldK encV 3 w b 0 m d os).heap[b]? = some (.cells (putCells id 0 (flatK encV 3 d) c) e (0, 0)) := by
  have hlt : b < w.heap.size := by
    rcases Nat.lt_or_ge b w.heap.size with q | q
    · exact q
    · rw [Array.getElem?_eq_none q] at hb; cases hb
  unfold sortWorldK grow putRowK putRow mapBlock
  simp only [Array.getElem?_append, Array.size_modify]
  rw [if_pos (by exact hlt), Array.getElem?_modify, if_pos rfl]
  show Option.map _ w.heap[b]? = _
  rw [hb]
  rfl

theorem cmp_lays {cx : Cx} {β : Nat → Option (Option Nat)} {h : Nat → Option Ob} {w : World} {o b e : Nat} {vs : List Val} (rel : Rel cx β h w) (ho : h o = some (.vec e 3 (rowsOf rV vs) 0)) (hb : β o = some (some b)) (hlt : b < w.heap.size) (n : Nat) :
    CmpLays Tryd.prog 22 #[] encV 3 cmpM b 0 n w := by
  intro m os dk hs x y
  generalize hW : sortWorldK encV 3 w b 0 m dk os = W
  have hsz : w.heap.size ≤ W.heap.size := by rw [← hW]; unfold sortWorldK putRowK; simp [grow, ahead, putRow, mapBlock]
  have hcell : ∀ bb i v, ¬ Xh β h bb i → w.cell? ⟨bb, i, none⟩ = some v → W.cell? ⟨bb, i, none⟩ = some v := by
    intro bb i v hx hc
    have hbl : bb < w.heap.size := World.block_lt_of_cell? w _ hc
    have hne : bb ≠ b := by
      rintro rfl
      exact hx ⟨o, _, ho, hb, by simp [Ob.excl]⟩
    have := sortWorld_old w b m dk os hlt bb hne hbl
    rw [hW] at this
    unfold World.cell? at *
    simp only [this]
    exact hc
  have hno : ∀ bb i, ¬ Xh (fun _ => none) (lookO []) bb i := by
    rintro bb i ⟨o', ob, h1, _⟩
    cases h1
  have hR : ∀ bb i v, (envOf cx.Xo β h w).R bb i v → (envOf (fun bb i => cx.Xo bb i ∨ Xh β h bb i) (fun _ => none) (lookO []) W).R bb i v := by
    rintro bb i v ⟨h1, h2, h3⟩
    exact ⟨fun hx => hx.elim h1 h2, hno bb i, hcell bb i v h2 h3⟩
  have rel0 : Rel ⟨W, fun bb i => cx.Xo bb i ∨ Xh β h bb i, Xh (fun _ => none) (lookO []), fun _ => none, lookO []⟩ (fun _ => none) (lookO []) W :=
    { dom := fun _ => rfl
      obj := fun o' ob bo h1 => by cases h1
      inj := fun o' o'' bb h1 => by cases h1
      out := fun o' bb i h1 => by cases h1
      bnd := fun bb i hx => by
        rcases hx with hx | ⟨o', ob, h1, h2, _⟩
        · have := rel.bnd bb i hx
          have := rel.ev.size
          show bb < W.heap.size
          omega
        · have := rel.lt h2
          show bb < W.heap.size
          omega
      ev := Ev.refl _ _
      own := fun bb i hx => absurd hx (hno bb i)
      ent := fun o' ob h1 => by cases h1
      big := fun o' h1 => by cases h1
      tab := fun g row hg => rowAt_mono hR (hR g) row 0 (rel.tab g row hg)
      gi := fun g hg => (rel.gi g hg).imp fun _ => hR _ _ _ }
  have hargs : repL (envOf (fun bb i => cx.Xo bb i ∨ Xh β h bb i) (fun _ => none) (lookO []) W) [aV x, aV y] [.agg (encV x).toArray, .agg (encV y).toArray] := by
    have cells : ∀ (E : Env) (v : Val), (aV v).rep E (.agg (encV v).toArray) := by
      intro E v
      simp only [aV, A.rep, repL, D.rep]
      exact ⟨encV v, rfl, ⟨_, _, rfl, ⟨rfl, rfl⟩, _, _, rfl, ⟨rfl, rfl⟩, _, _, rfl, ⟨rfl, rfl⟩, rfl⟩, by simp [encV, Am.one]⟩
    simp only [repL]
    exact ⟨_, _, rfl, cells _ x, _, _, rfl, cells _ y, rfl⟩
  refine ((c_compare x y).calls _ _ W _ rel0 hargs).mono ?_
  rintro e' w' ⟨v, β', rfl, rel', hres⟩
  have hv : v = .int .i64 (cmpM x y) := by simp only [num, A.rep, D.rep] at hres; exact hres.1
  subst hv
  exact ⟨rfl, quiet_grown rel'.ev hno⟩

theorem fn_sort {h : Nat → Option Ob} {o e : Nat} {vs : List Val} (ho : h o = some (.vec e 3 (rowsOf rV vs) 0)) (hl : vs.length < 4611686018427387904) :
    FnCall Tryd.prog 21 [.vec o vs.length, .clo 22 []] h ⟨True, .tup [], [(o, .vec e 3 (rowsOf rV (sortV vs)) 0)], [o]⟩ where
  fn := ⟨_, Tryd.func21, by kernel_rfl, by kernel_rfl⟩
  keyed := by simp [Keyed]
  calls := fun h2 hr cx β w us rel hus => by
    have ho2 : h2 o = some (.vec e 3 (rowsOf rV vs) 0) := (hr o (by simp)).trans ho
    simp only [repL] at hus
    obtain ⟨u1, _, rfl, g1, u2, _, rfl, g2, rfl⟩ := hus
    have hf : u2 = .func (.func 22) #[] #[] := by
      simp only [A.rep, repL] at g2
      obtain ⟨_, rfl, rfl⟩ := g2
      rfl
    subst hf
    have hres : ∀ E : Env, (A.tup []).rep E (.tuple #[]) := fun E => by
      simp only [A.rep, repL]
      exact ⟨[], rfl, rfl⟩
    rcases vec_live ho2 (rowsOf_length _ _).symm g1 with ⟨hb, rfl⟩ | ⟨b, cap, hb, rfl, hcap, _, _⟩
    · have hd := rel.obj _ _ _ ho2 hb
      simp only [Ob.rep] at hd
      obtain ⟨_, _, hd | ⟨_, _, hd, _⟩⟩ := hd
      · have hv0 : vs = [] := List.eq_nil_of_length_eq_zero (by have := congrArg List.length hd.2; rw [rowsOf_length] at this; simpa using this)
        subst hv0
        refine (AnyF.slices_SortFunc_none Tryd.sortV none 0 (.func (.func 22) #[] #[]) w).mono ?_
        rintro e' w' ⟨rfl, rfl⟩
        have hp : upds h2 [(o, Ob.vec e 3 (rowsOf rV (sortV [])) 0)] = h2 := by
          show put h2 o _ = h2
          funext q
          by_cases hq : q = o
          · subst hq; rw [put_same, ho2]; simp [sortV]
          · rw [put_ne _ _ hq]
        exact ⟨.tuple #[], β, rfl, by rw [hp]; exact rel, by rw [hp]; exact Env.Le.refl _, hres _⟩
      · cases hd
    · obtain ⟨k1, k2, k3⟩ := rel.obj _ _ _ ho2 hb
      rcases k3 with ⟨k3, _⟩ | ⟨b', c, k3, k4, k5, k6⟩
      · cases k3
      cases k3
      have hlt : b < w.heap.size := rel.lt hb
      rw [rowsOf_length] at k6
      have hfl : ∀ (d : List Val) (j : Nat), j < d.length * 3 → ∃ i q, i < d.length ∧ q < 3 ∧ j = i * 3 + q ∧ (flatK encV 3 d.toArray)[j]! = (encV (d.getD i default))[q]! := by
        intro d j hj
        refine ⟨j / 3, j % 3, by omega, by omega, by omega, ?_⟩
        rw [get_flatK _ _ _ _ (by simpa using hj)]
        congr 2
        simp [List.getD_eq_getElem?_getD]
      have hH : HoldsK encV 3 w b 0 vs.toArray := by
        intro j hj
        have hj' : j < vs.length * 3 := by simpa using hj
        obtain ⟨i, q, h1, h2', h3, h4⟩ := hfl vs j hj'
        have hr3 := flat_rows k5 h1
        rw [h4]
        subst h3
        simp only [Nat.zero_add] at hr3 ⊢
        unfold World.cell? World.frozen?
        simp only [k4]
        refine ⟨?_, by simp⟩
        match q, h2' with
        | 0, _ => simpa [encV] using hr3.1
        | 1, _ => simpa [encV] using hr3.2.1
        | 2, _ => simpa [encV] using hr3.2.2
      have hcon := AnyQ.slices_SortFunc_total Tryd.sortV 3 Tryd.isAgg42 Tryd.sizeOf42 encV (fun _ => rfl) (fun x v hv => by simp [encV] at hv; rcases hv with rfl | rfl | rfl <;> rfl) cmpM swo 22 #[] b 0 cap vs.toArray w
        (enters_of Tryd.func22 (by kernel_rfl) rfl) (cmp_lays rel ho2 hb hlt _) hH hlt (by simpa using hl) (fun x y h1 h2 => by
          simp only [ltOf, decide_eq_false_iff_not] at h1 h2
          exact cmpM_tri x y h1 h2)
      refine (show Calls Tryd.prog 21 #[.slice (some ⟨b, 0, none⟩) vs.length cap, .func (.func 22) #[] #[]] w _ from hcon).mono ?_
      rintro e' w' ⟨rfl, n, os, rfl⟩
      have hd : (vs.toArray.toList.mergeSort fun x y => !(ltOf cmpM y x)) = sortV vs := rfl
      rw [hd]
      have hsl := sortV_length vs
      generalize sortV vs = d at hsl
      obtain ⟨r1, L1⟩ := rel.write (w' := sortWorldK encV 3 w b 0 n d.toArray os) o b (.vec e 3 (rowsOf rV vs) 0) (.vec e 3 (rowsOf rV d) 0) ho2 hb
        ⟨rfl, rfl, rfl, by unfold sortWorldK putRowK; simp [grow, ahead, putRow, mapBlock], by show w.drawn ≤ w.drawn + n; omega, fun k hk => by
          by_cases hkb : k = b
          · subst hkb
            exact .inr (.inl ⟨c, _, e, k4, sortWorld_blk w k n _ os k4, by simp [putCells], fun i hi => absurd ⟨rfl, by simp [Ob.excl]⟩ hi⟩)
          · exact .inl (sortWorld_old w b n _ os hlt k hkb hk)⟩ (by simp [Ob.grow, rowsOf_length, hsl]) (fun _ h => h)
        (fun k hk hk2 => sortWorld_old w b n _ os hlt k hk hk2) (fun L => by
          simp only [Ob.rep]
          have hrows : Go.Am.rowsAt (envOf cx.Xo β (put h2 o (some (.vec e 3 (rowsOf rV d) 0))) (sortWorldK encV 3 w b 0 n d.toArray os)).R (fun i v => (putCells id 0 (flatK encV 3 d.toArray) c)[i]? = some v) 3 0 (rowsOf rV d) := by
            refine rows_flat d _ 0 fun i hi => ?_
            have hget : ∀ q, q < 3 → (putCells id 0 (flatK encV 3 d.toArray) c)[0 + i * 3 + q]? = some ((encV (d.getD i default))[q]!) := by
              intro q hq
              have hj : i * 3 + q < d.length * 3 := by omega
              obtain ⟨i', q', h1, h2', h3, h4⟩ := hfl d (i * 3 + q) hj
              have hi' : i' = i := by omega
              have hq' : q' = q := by omega
              subst hi' hq'
              simp only [putCells, Array.getElem?_mapIdx, Nat.zero_add]
              rw [Array.getElem?_eq_getElem (show i' * 3 + q' < c.size by omega), Option.map_some, if_pos ⟨Nat.zero_le _, by simpa using hj⟩, Nat.sub_zero, h4]
              rfl
            refine ⟨?_, ?_, ?_⟩
            · simpa [encV] using hget 0 (by omega)
            · simpa [encV] using hget 1 (by omega)
            · simpa [encV] using hget 2 (by omega)
          exact ⟨Nat.zero_le _, rowsAt_length _ _ hrows, .inr ⟨b, _, rfl, sortWorld_blk w b n _ os k4, hrows, by rw [rowsOf_length, hsl]; simpa [putCells] using k6⟩⟩)
      exact ⟨.tuple #[], β, rfl, r1, L1, hres _⟩
end Go.Proofs.YtkccdfaelbepeaaDoor
