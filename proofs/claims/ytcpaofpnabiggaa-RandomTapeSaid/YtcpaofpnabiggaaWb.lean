/- Whatever the two tapes and the factor are, the law of tapes says true and leaves its arguments as they were; there are no conditions. (part Wb) -/
import Derived.Test.YtcpaofpnabiggaaWa
import Derived.Test.YtcpaofpnabiggaaLc
import Derived.Test.YtcpaofpnabiggaaRows
set_option linter.all false

namespace Go.Proofs.Ytcpaofpnabiggaa
open Go.Am
set_option linter.unusedVariables false
set_option linter.unusedSimpArgs false
set_option maxRecDepth 100000
set_option maxHeartbeats 4000000

def I12 (l : List Int) (n : Nat) : SL := ⟨[(5, .d (.lit (.int .i64 n))), (0, .d (.sl 1 (rowsOf rI l))), (1, .d (.sl 1 (rowsOf rI l)))], []⟩
theorem c12 (l : List Int) (hl : l.length ≤ 1000000) : ACall Try.prog 12 [ints l, ints l] [] (boo true) [] := by
  refine ACall.enter mixed ttok Try.func12 rfl rfl _ Try.ntmps12 (Nat.le_of_ble_eq_true rfl) (by kernel_rfl) _ (congrArg Array.toList Try.results12) ?_
  simp -implicitDefEqProofs only [argT, ↓steps, push_cast, reduceIte, Nat.reduceEqDiff, Nat.reduceAdd, Nat.reduceMul, Nat.reduceLT, Nat.reduceLeDiff, Int.reduceToNat, Int.reduceLE, Int.reduceLT, reduceCtorEq, tte, num, boo, ints, tapeO, aV, aX]
  refine loop_intro mixed ttok (fun n : { n : Nat // n ≤ l.length } => I12 l n.1) (fun n => l.length - n.1) ⟨0, Nat.zero_le _⟩ ?_ fun ⟨n, hn⟩ => ?_
  · exact Weak.keepL (by simp [I12, ends, ite_true, ite_false, reduceIte, Nat.reduceEqDiff, Nat.reduceLeDiff, Nat.reduceLT, Nat.reduceAdd, reduceCtorEq, num, boo, ints, tapeO, aV, aX]) (by simp [I12, ends, ite_true, ite_false, reduceIte, Nat.reduceEqDiff, Nat.reduceLeDiff, Nat.reduceLT, Nat.reduceAdd, reduceCtorEq, num, boo, ints, tapeO, aV, aX]) (by simp [I12, ends, ite_true, ite_false, reduceIte, Nat.reduceEqDiff, Nat.reduceLeDiff, Nat.reduceLT, Nat.reduceAdd, reduceCtorEq, num, boo, ints, tapeO, aV, aX])
  · have hw : n < l.length → IntKind.i64.wrap ((n : Int) + 1) = (n : Int) + 1 := fun h => wrap_eq (by omega) (by omega)
    generalize hI : (fun n : { n : Nat // n ≤ l.length } => I12 l n.1) = I
    simp -implicitDefEqProofs only [I12, ↓steps, push_cast, reduceIte, Nat.reduceEqDiff, Nat.reduceAdd, Nat.reduceMul, Nat.reduceLT, Nat.reduceLeDiff, Int.reduceToNat, Int.reduceLE, Int.reduceLT, reduceCtorEq, tte, num, boo, ints, tapeO, aV, aX]
    refine bcase_intro (fun h => ?_) fun h => ?_
    · have h' : n < l.length := by simpa using h
      have hw := hw h'
      refine ⟨⟨by omega, by omega⟩, ⟨by omega, by omega⟩, drawx_intro (by kernel_rfl), ?_⟩
      refine loopK_again (⟨n + 1, h'⟩ : { n : Nat // n ≤ l.length }) (by show l.length - (n + 1) < l.length - n; omega) ?_ ?_ ?_ <;> subst hI
      · simp [I12, ends, ite_true, ite_false, reduceIte, Nat.reduceEqDiff, Nat.reduceLeDiff, Nat.reduceLT, Nat.reduceAdd, reduceCtorEq, num, boo, ints, tapeO, aV, aX, hw]
      · simp [I12, ends, ite_true, ite_false, reduceIte, Nat.reduceEqDiff, Nat.reduceLeDiff, Nat.reduceLT, Nat.reduceAdd, reduceCtorEq, num, boo, ints, tapeO, aV, aX]
      · simp [I12, ends, ite_true, ite_false, reduceIte, Nat.reduceEqDiff, Nat.reduceLeDiff, Nat.reduceLT, Nat.reduceAdd, reduceCtorEq, num, boo, ints, tapeO, aV, aX]
    · refine retx_of [0] rfl trivial trivial rfl rfl trivial trivial

/-- An expression of operations that have not too many operands. -/
inductive Fine : Ex → Prop
  | mk (e : Ex) (h1 : e.kids.length ≤ 1000000) (h2 : ∀ k ∈ e.kids, Fine k) : Fine e

def I6 (e : Ex) (n : Nat) : SL := ⟨[(5, .d (.lit (.int .i64 n))), (2, .ptr 2 0), (3, .ptr 3 0)],
   [(3, .var [.d (.lit (.int .i64 e.op)), .d (.lit (.int .i64 e.type)), .d (.lit (.int .i64 e.num)), .d (.lit (.string e.text)), .d (.lit (.int .i64 e.col)), .d (.sl 6 (rowsOf rE e.kids))]),
    (2, .var [.d (.lit (.int .i64 e.op)), .d (.lit (.int .i64 e.type)), .d (.lit (.int .i64 e.num)), .d (.lit (.string e.text)), .d (.lit (.int .i64 e.col)), .d (.sl 6 (rowsOf rE e.kids))])]⟩

theorem c6 {e : Ex} (hf : Fine e) : ACall Try.prog 6 [aE e, aE e] [] (boo true) [] := by
  induction hf with
  | mk e hl _ ih =>
    refine ACall.enter mixed ttok Try.func6 rfl rfl _ Try.ntmps6 (Nat.le_of_ble_eq_true rfl) (by kernel_rfl) _ (congrArg Array.toList Try.results6) ?_
    simp -implicitDefEqProofs only [argT, ↓steps, push_cast, reduceIte, Nat.reduceEqDiff, Nat.reduceAdd, Nat.reduceMul, Nat.reduceLT, Nat.reduceLeDiff, Int.reduceToNat, Int.reduceLE, Int.reduceLT, reduceCtorEq, tte, num, boo, ints, tapeO, aV, aX]
    refine loop_intro mixed ttok (fun n : { n : Nat // n ≤ e.kids.length } => I6 e n.1) (fun n => e.kids.length - n.1) ⟨0, Nat.zero_le _⟩ ?_ fun ⟨n, hn⟩ => ?_
    · exact Weak.keepL (by simp [I6, ends, ite_true, ite_false, reduceIte, Nat.reduceEqDiff, Nat.reduceLeDiff, Nat.reduceLT, Nat.reduceAdd, reduceCtorEq, num, boo, ints, tapeO, aV, aX]) (by simp [I6, ends, ite_true, ite_false, reduceIte, Nat.reduceEqDiff, Nat.reduceLeDiff, Nat.reduceLT, Nat.reduceAdd, reduceCtorEq, num, boo, ints, tapeO, aV, aX]) (by simp [I6, ends, ite_true, ite_false, reduceIte, Nat.reduceEqDiff, Nat.reduceLeDiff, Nat.reduceLT, Nat.reduceAdd, reduceCtorEq, num, boo, ints, tapeO, aV, aX])
    · have hw : n < e.kids.length → IntKind.i64.wrap ((n : Int) + 1) = (n : Int) + 1 := fun h => wrap_eq (by omega) (by omega)
      generalize hI : (fun n : { n : Nat // n ≤ e.kids.length } => I6 e n.1) = I
      simp -implicitDefEqProofs only [I6, ↓steps, push_cast, reduceIte, Nat.reduceEqDiff, Nat.reduceAdd, Nat.reduceMul, Nat.reduceLT, Nat.reduceLeDiff, Int.reduceToNat, Int.reduceLE, Int.reduceLT, reduceCtorEq, tte, num, boo, ints, tapeO, aV, aX]
      refine bcase_intro (fun h => ?_) fun h => ?_
      · have h' : n < e.kids.length := by simpa using h
        have hw := hw h'
        have hk := ih (e.kids.getD n default) (by rw [List.getD_eq_getElem?_getD]; simp [h'])
        refine ⟨⟨by omega, by omega⟩, ⟨by omega, by omega⟩, ?_⟩
        refine callx_of [[], []] [] rfl (hk) (by first | (simp; done) | (simp [rowsOf_length]; done) | (simp [rowsOf_length]; omega)) (by first | (simp only [ends, ite_true, ite_false, reduceIte, Nat.reduceEqDiff, Nat.reduceLeDiff, Nat.reduceLT, Nat.reduceAdd, reduceCtorEq, num, boo, ints, tapeO, aV, aX, num, boo, str, aE_eq, aV]; done) | simp [ends, ite_true, ite_false, reduceIte, Nat.reduceEqDiff, Nat.reduceLeDiff, Nat.reduceLT, Nat.reduceAdd, reduceCtorEq, num, boo, ints, tapeO, aV, aX, num, boo, str, aE_eq, aV]) (by first | rfl | (simp only [ends, ite_true, ite_false, reduceIte, Nat.reduceEqDiff, Nat.reduceLeDiff, Nat.reduceLT, Nat.reduceAdd, reduceCtorEq, num, boo, ints, tapeO, aV, aX, num, boo, str, aE_eq, aV]; done) | simp [ends, ite_true, ite_false, reduceIte, Nat.reduceEqDiff, Nat.reduceLeDiff, Nat.reduceLT, Nat.reduceAdd, reduceCtorEq, num, boo, ints, tapeO, aV, aX, num, boo, str, aE_eq, aV]) (by simp only [ends, ite_true, ite_false, reduceIte, Nat.reduceEqDiff, Nat.reduceLeDiff, Nat.reduceLT, Nat.reduceAdd, reduceCtorEq, num, boo, ints, tapeO, aV, aX]) (by simp [idsOk, lookO, updO, ren1]) ?_
        simp -implicitDefEqProofs only [↓steps, push_cast, reduceIte, Nat.reduceEqDiff, Nat.reduceAdd, Nat.reduceMul, Nat.reduceLT, Nat.reduceLeDiff, Int.reduceToNat, Int.reduceLE, Int.reduceLT, reduceCtorEq, tte, num, boo, ints, tapeO, aV, aX]
        refine ⟨drawx_intro (by kernel_rfl), ?_⟩
        refine loopK_again (⟨n + 1, h'⟩ : { n : Nat // n ≤ e.kids.length }) (by show e.kids.length - (n + 1) < e.kids.length - n; omega) ?_ ?_ ?_ <;> subst hI
        · simp [I6, ends, ite_true, ite_false, reduceIte, Nat.reduceEqDiff, Nat.reduceLeDiff, Nat.reduceLT, Nat.reduceAdd, reduceCtorEq, num, boo, ints, tapeO, aV, aX, hw]
        · simp [I6, ends, ite_true, ite_false, reduceIte, Nat.reduceEqDiff, Nat.reduceLeDiff, Nat.reduceLT, Nat.reduceAdd, reduceCtorEq, num, boo, ints, tapeO, aV, aX]
        · simp [I6, ends, ite_true, ite_false, reduceIte, Nat.reduceEqDiff, Nat.reduceLeDiff, Nat.reduceLT, Nat.reduceAdd, reduceCtorEq, num, boo, ints, tapeO, aV, aX]
      · refine retx_of [0] rfl trivial trivial rfl rfl trivial ?_
        simp only [ends, ite_true, ite_false, reduceIte, Nat.reduceEqDiff, Nat.reduceLeDiff, Nat.reduceLT, Nat.reduceAdd, reduceCtorEq, num, boo, ints, tapeO, aV, aX]

theorem awake1 : (exprM [] [] 1 1 0).1 = .mk 2 0 (-2) ByteArray.empty 0 [] := by rfl
theorem awake2 : (exprM [1, 8] [] 2 1 0).1 = .mk 27 0 0 ByteArray.empty 0 [.mk 2 0 (-2) ByteArray.empty 0 [], .mk 2 0 (-2) ByteArray.empty 0 []] := by rfl

theorem c4 : ACall Try.prog 4 [] [] (boo true) [] := by
  refine ACall.enter mixed ttok Try.func4 rfl rfl _ Try.ntmps4 (Nat.le_of_ble_eq_true rfl) (by kernel_rfl) _ (congrArg Array.toList Try.results4) ?_
  simp -implicitDefEqProofs only [argT, ↓steps, push_cast, reduceIte, Nat.reduceEqDiff, Nat.reduceAdd, Nat.reduceMul, Nat.reduceLT, Nat.reduceLeDiff, Int.reduceToNat, Int.reduceLE, Int.reduceLT, reduceCtorEq, tte, num, boo, ints, tapeO, aV, aX]
  refine callx_of [[1], [], [], [1]] [] rfl (c5 (xs := []) (types := []) (typ := 1) (d := 0) (by simp) (by simp) (by simp) rfl (by omega)) (by first | (simp; done) | (simp [rowsOf_length]; done) | (simp [rowsOf_length]; omega)) (by first | (simp only [ends, ite_true, ite_false, reduceIte, Nat.reduceEqDiff, Nat.reduceLeDiff, Nat.reduceLT, Nat.reduceAdd, reduceCtorEq, num, boo, ints, tapeO, aV, aX, num, boo, str, aE_eq, aV]; done) | simp [ends, ite_true, ite_false, reduceIte, Nat.reduceEqDiff, Nat.reduceLeDiff, Nat.reduceLT, Nat.reduceAdd, reduceCtorEq, num, boo, ints, tapeO, aV, aX, num, boo, str, aE_eq, aV]) (by first | rfl | (simp only [ends, ite_true, ite_false, reduceIte, Nat.reduceEqDiff, Nat.reduceLeDiff, Nat.reduceLT, Nat.reduceAdd, reduceCtorEq, num, boo, ints, tapeO, aV, aX, num, boo, str, aE_eq, aV]; done) | simp [ends, ite_true, ite_false, reduceIte, Nat.reduceEqDiff, Nat.reduceLeDiff, Nat.reduceLT, Nat.reduceAdd, reduceCtorEq, num, boo, ints, tapeO, aV, aX, num, boo, str, aE_eq, aV]) (by simp only [ends, ite_true, ite_false, reduceIte, Nat.reduceEqDiff, Nat.reduceLeDiff, Nat.reduceLT, Nat.reduceAdd, reduceCtorEq, num, boo, ints, tapeO, aV, aX]) (by simp [idsOk, lookO, updO, ren1]) ?_
  simp -implicitDefEqProofs only [awake1, Ex.op, Ex.type, Ex.num, Ex.text, Ex.col, Ex.kids, ↓steps, push_cast, reduceIte, Nat.reduceEqDiff, Nat.reduceAdd, Nat.reduceMul, Nat.reduceLT, Nat.reduceLeDiff, Int.reduceToNat, Int.reduceLE, Int.reduceLT, reduceCtorEq, tte, num, boo, ints, tapeO, aV, aX]
  refine callx_of [[1], [], [], [1]] [] rfl (c5 (xs := [1, 8]) (types := []) (typ := 1) (d := 1) (by simp [i64]) (by simp) (by simp) rfl (by omega)) (by first | (simp; done) | (simp [rowsOf_length]; done) | (simp [rowsOf_length]; omega)) (by first | (simp only [ends, ite_true, ite_false, reduceIte, Nat.reduceEqDiff, Nat.reduceLeDiff, Nat.reduceLT, Nat.reduceAdd, reduceCtorEq, num, boo, ints, tapeO, aV, aX, num, boo, str, aE_eq, aV]; done) | simp [ends, ite_true, ite_false, reduceIte, Nat.reduceEqDiff, Nat.reduceLeDiff, Nat.reduceLT, Nat.reduceAdd, reduceCtorEq, num, boo, ints, tapeO, aV, aX, num, boo, str, aE_eq, aV]) (by first | rfl | (simp only [ends, ite_true, ite_false, reduceIte, Nat.reduceEqDiff, Nat.reduceLeDiff, Nat.reduceLT, Nat.reduceAdd, reduceCtorEq, num, boo, ints, tapeO, aV, aX, num, boo, str, aE_eq, aV]; done) | simp [ends, ite_true, ite_false, reduceIte, Nat.reduceEqDiff, Nat.reduceLeDiff, Nat.reduceLT, Nat.reduceAdd, reduceCtorEq, num, boo, ints, tapeO, aV, aX, num, boo, str, aE_eq, aV]) (by simp only [ends, ite_true, ite_false, reduceIte, Nat.reduceEqDiff, Nat.reduceLeDiff, Nat.reduceLT, Nat.reduceAdd, reduceCtorEq, num, boo, ints, tapeO, aV, aX]) (by simp [idsOk, lookO, updO, ren1]) ?_
  simp -implicitDefEqProofs only [List.take_succ_cons, List.take_nil, Nat.reduceAdd, awake2, Ex.op, Ex.type, Ex.num, Ex.text, Ex.col, Ex.kids, ↓steps, push_cast, reduceIte, Nat.reduceEqDiff, Nat.reduceAdd, Nat.reduceMul, Nat.reduceLT, Nat.reduceLeDiff, Int.reduceToNat, Int.reduceLE, Int.reduceLT, reduceCtorEq, tte, num, boo, ints, tapeO, aV, aX]
  refine bcase_intro (fun h => ⟨by omega, ?_⟩) fun h => absurd h (by decide)
  refine retx_of [0] rfl trivial trivial rfl rfl trivial ?_
  simp only [ends, ite_true, ite_false, reduceIte, Nat.reduceEqDiff, Nat.reduceLeDiff, Nat.reduceLT, Nat.reduceAdd, reduceCtorEq, num, boo, ints, tapeO, aV, aX]
end Go.Proofs.Ytcpaofpnabiggaa

namespace Go.Proofs.Ytcpaofpnabiggaa
open Go.Am
set_option linter.unusedVariables false
set_option linter.unusedSimpArgs false
set_option maxRecDepth 100000
set_option maxHeartbeats 4000000

/-- A schema of lists that are not too long. -/
def FineT (t : Tbl) : Prop := t.columns.length ≤ 1000000 ∧ t.primary.length ≤ 1000000 ∧ (t.uniques.length ≤ 1000000 ∧ ∀ u ∈ t.uniques, u.length ≤ 1000000) ∧ (t.foreigns.length ≤ 1000000 ∧ ∀ f ∈ t.foreigns, f.columns.length ≤ 1000000) ∧ (t.checks.length ≤ 1000000 ∧ ∀ e ∈ t.checks, Fine e)
def I7 (s : Sch) (n : Nat) : SL := ⟨[(22, .d (.lit (.int .i64 n))), (21, .d (.lit (.int .i64 s.length))), (2, .ptr 2 0), (3, .ptr 3 0)], [(3, .var [.d (.sl 6 (rowsOf rT s))]), (2, .var [.d (.sl 6 (rowsOf rT s))])]⟩
/-- Within a table: the counter in slot c, its end in slot l. -/
def J7 (s : Sch) (T : Tbl) (n c l len k : Nat) : SL :=
  ⟨[(c, .d (.lit (.int .i64 k))), (l, .d (.lit (.int .i64 len))), (22, .d (.lit (.int .i64 n))), (21, .d (.lit (.int .i64 s.length))), (2, .ptr 2 0), (3, .ptr 3 0), (6, .ptr 6 0), (7, .ptr 7 0)],
   [(7, .var [.d (.lit (.string T.name)), .d (.sl 3 (rowsOf rC T.columns)), .d (.sl 1 (rowsOf rI T.primary)), .d (.sl 1 (rowsOf rIs T.uniques)), .d (.sl 2 (rowsOf rF T.foreigns)), .d (.sl 6 (rowsOf rE T.checks))]),
    (6, .var [.d (.lit (.string T.name)), .d (.sl 3 (rowsOf rC T.columns)), .d (.sl 1 (rowsOf rI T.primary)), .d (.sl 1 (rowsOf rIs T.uniques)), .d (.sl 2 (rowsOf rF T.foreigns)), .d (.sl 6 (rowsOf rE T.checks))]),
    (3, .var [.d (.sl 6 (rowsOf rT s))]), (2, .var [.d (.sl 6 (rowsOf rT s))])]⟩
theorem c7 (s : Sch) (hs : s.length ≤ 1000000) (hf : ∀ t ∈ s, FineT t) : ACall Try.prog 7 [aS s, aS s] [] (boo true) [] := by
  refine ACall.enter mixed ttok Try.func7 rfl rfl _ Try.ntmps7 (Nat.le_of_ble_eq_true rfl) (by kernel_rfl) _ (congrArg Array.toList Try.results7) ?_
  simp -implicitDefEqProofs only [argT, aS, ↓steps, push_cast, reduceIte, Nat.reduceEqDiff, Nat.reduceAdd, Nat.reduceMul, Nat.reduceLT, Nat.reduceLeDiff, Int.reduceToNat, Int.reduceLE, Int.reduceLT, reduceCtorEq, tte, num, boo, ints, tapeO, aV, aX]
  refine loop_intro mixed ttok (fun n : { n : Nat // n ≤ s.length } => I7 s n.1) (fun n => s.length - n.1) ⟨0, Nat.zero_le _⟩ ?_ fun ⟨n, hn⟩ => ?_
  · exact Weak.keepL (by simp [I7, ends, ite_true, ite_false, reduceIte, Nat.reduceEqDiff, Nat.reduceLeDiff, Nat.reduceLT, Nat.reduceAdd, reduceCtorEq, num, boo, ints, tapeO, aV, aX]) (by simp [I7, ends, ite_true, ite_false, reduceIte, Nat.reduceEqDiff, Nat.reduceLeDiff, Nat.reduceLT, Nat.reduceAdd, reduceCtorEq, num, boo, ints, tapeO, aV, aX]) (by simp [I7, ends, ite_true, ite_false, reduceIte, Nat.reduceEqDiff, Nat.reduceLeDiff, Nat.reduceLT, Nat.reduceAdd, reduceCtorEq, num, boo, ints, tapeO, aV, aX])
  · have hw : n < s.length → IntKind.i64.wrap ((n : Int) + 1) = (n : Int) + 1 := fun h => wrap_eq (by omega) (by omega)
    generalize hI : (fun n : { n : Nat // n ≤ s.length } => I7 s n.1) = I
    simp -implicitDefEqProofs only [I7, ↓steps, push_cast, reduceIte, Nat.reduceEqDiff, Nat.reduceAdd, Nat.reduceMul, Nat.reduceLT, Nat.reduceLeDiff, Int.reduceToNat, Int.reduceLE, Int.reduceLT, reduceCtorEq, tte, num, boo, ints, tapeO, aV, aX]
    refine bcase_intro (fun h => ?_) fun h => ?_
    · have h' : n < s.length := by simpa using h
      have hw := hw h'
      have hft := hf (s.getD n default) (by rw [List.getD_eq_getElem?_getD]; simp [h'])
      generalize hT : s.getD n default = T at hft ⊢
      obtain ⟨f1, f2, f3, f4, f5⟩ := hft
      refine ⟨⟨by omega, by omega⟩, ⟨by omega, by omega⟩, drawx_intro (by kernel_rfl), ?_⟩
      refine callx_of [[1], [1]] [] rfl (c12 T.primary f2) (by first | (simp; done) | (simp [rowsOf_length]; done) | (simp [rowsOf_length]; omega)) (by first | (simp only [ends, ite_true, ite_false, reduceIte, Nat.reduceEqDiff, Nat.reduceLeDiff, Nat.reduceLT, Nat.reduceAdd, reduceCtorEq, num, boo, ints, tapeO, aV, aX, num, boo, str, aE_eq, aV]; done) | simp [ends, ite_true, ite_false, reduceIte, Nat.reduceEqDiff, Nat.reduceLeDiff, Nat.reduceLT, Nat.reduceAdd, reduceCtorEq, num, boo, ints, tapeO, aV, aX, num, boo, str, aE_eq, aV]) (by first | rfl | (simp only [ends, ite_true, ite_false, reduceIte, Nat.reduceEqDiff, Nat.reduceLeDiff, Nat.reduceLT, Nat.reduceAdd, reduceCtorEq, num, boo, ints, tapeO, aV, aX, num, boo, str, aE_eq, aV]; done) | simp [ends, ite_true, ite_false, reduceIte, Nat.reduceEqDiff, Nat.reduceLeDiff, Nat.reduceLT, Nat.reduceAdd, reduceCtorEq, num, boo, ints, tapeO, aV, aX, num, boo, str, aE_eq, aV]) (by simp only [ends, ite_true, ite_false, reduceIte, Nat.reduceEqDiff, Nat.reduceLeDiff, Nat.reduceLT, Nat.reduceAdd, reduceCtorEq, num, boo, ints, tapeO, aV, aX]) (by simp [idsOk, lookO, updO, ren1]) ?_
      simp -implicitDefEqProofs only [↓steps, push_cast, reduceIte, Nat.reduceEqDiff, Nat.reduceAdd, Nat.reduceMul, Nat.reduceLT, Nat.reduceLeDiff, Int.reduceToNat, Int.reduceLE, Int.reduceLT, reduceCtorEq, tte, num, boo, ints, tapeO, aV, aX]
      refine loop_intro mixed ttok (fun k : { k : Nat // k ≤ T.columns.length } => J7 s T n 87 86 T.columns.length k.1) (fun k => T.columns.length - k.1) ⟨0, Nat.zero_le _⟩ ?_ fun ⟨k, hk⟩ => ?_
      · exact Weak.keepL (by simp [J7, ends, ite_true, ite_false, reduceIte, Nat.reduceEqDiff, Nat.reduceLeDiff, Nat.reduceLT, Nat.reduceAdd, reduceCtorEq, num, boo, ints, tapeO, aV, aX]) (by simp [J7, ends, ite_true, ite_false, reduceIte, Nat.reduceEqDiff, Nat.reduceLeDiff, Nat.reduceLT, Nat.reduceAdd, reduceCtorEq, num, boo, ints, tapeO, aV, aX]) (by simp [J7, ends, ite_true, ite_false, reduceIte, Nat.reduceEqDiff, Nat.reduceLeDiff, Nat.reduceLT, Nat.reduceAdd, reduceCtorEq, num, boo, ints, tapeO, aV, aX])
      have hwk : k < T.columns.length → IntKind.i64.wrap ((k : Int) + 1) = (k : Int) + 1 := fun h => wrap_eq (by omega) (by omega)
      generalize hJ : (fun k : { k : Nat // k ≤ T.columns.length } => J7 s T n 87 86 T.columns.length k.1) = J
      simp -implicitDefEqProofs only [J7, ↓steps, push_cast, reduceIte, Nat.reduceEqDiff, Nat.reduceAdd, Nat.reduceMul, Nat.reduceLT, Nat.reduceLeDiff, Int.reduceToNat, Int.reduceLE, Int.reduceLT, reduceCtorEq, tte, num, boo, ints, tapeO, aV, aX]
      refine bcase_intro (fun hq => ?_) fun hq => ?_
      · have hk' : k < T.columns.length := by simpa using hq
        have hwk := hwk hk'
        refine ⟨⟨by omega, by omega⟩, ⟨by omega, by omega⟩, drawx_intro (by kernel_rfl), ?_⟩
        refine loopK_again (⟨k + 1, hk'⟩ : { k : Nat // k ≤ T.columns.length }) (by show T.columns.length - (k + 1) < T.columns.length - k; omega) ?_ ?_ ?_ <;> subst hJ
        · simp [J7, ends, ite_true, ite_false, reduceIte, Nat.reduceEqDiff, Nat.reduceLeDiff, Nat.reduceLT, Nat.reduceAdd, reduceCtorEq, num, boo, ints, tapeO, aV, aX, hwk]
        · simp [J7, ends, ite_true, ite_false, reduceIte, Nat.reduceEqDiff, Nat.reduceLeDiff, Nat.reduceLT, Nat.reduceAdd, reduceCtorEq, num, boo, ints, tapeO, aV, aX]
        · simp [J7, ends, ite_true, ite_false, reduceIte, Nat.reduceEqDiff, Nat.reduceLeDiff, Nat.reduceLT, Nat.reduceAdd, reduceCtorEq, num, boo, ints, tapeO, aV, aX]
      clear hwk hJ hq
      refine loop_intro mixed ttok (fun k : { k : Nat // k ≤ T.uniques.length } => J7 s T n 105 104 T.uniques.length k.1) (fun k => T.uniques.length - k.1) ⟨0, Nat.zero_le _⟩ ?_ fun ⟨k, hk⟩ => ?_
      · exact Weak.keepL (by simp [J7, ends, ite_true, ite_false, reduceIte, Nat.reduceEqDiff, Nat.reduceLeDiff, Nat.reduceLT, Nat.reduceAdd, reduceCtorEq, num, boo, ints, tapeO, aV, aX]) (by simp [J7, ends, ite_true, ite_false, reduceIte, Nat.reduceEqDiff, Nat.reduceLeDiff, Nat.reduceLT, Nat.reduceAdd, reduceCtorEq, num, boo, ints, tapeO, aV, aX]) (by simp [J7, ends, ite_true, ite_false, reduceIte, Nat.reduceEqDiff, Nat.reduceLeDiff, Nat.reduceLT, Nat.reduceAdd, reduceCtorEq, num, boo, ints, tapeO, aV, aX])
      have hwk : k < T.uniques.length → IntKind.i64.wrap ((k : Int) + 1) = (k : Int) + 1 := fun h => wrap_eq (by omega) (by omega)
      generalize hJ : (fun k : { k : Nat // k ≤ T.uniques.length } => J7 s T n 105 104 T.uniques.length k.1) = J
      simp -implicitDefEqProofs only [J7, ↓steps, push_cast, reduceIte, Nat.reduceEqDiff, Nat.reduceAdd, Nat.reduceMul, Nat.reduceLT, Nat.reduceLeDiff, Int.reduceToNat, Int.reduceLE, Int.reduceLT, reduceCtorEq, tte, num, boo, ints, tapeO, aV, aX]
      refine bcase_intro (fun hq => ?_) fun hq => ?_
      · have hk' : k < T.uniques.length := by simpa using hq
        have hwk := hwk hk'
        have hmem : T.uniques.getD k default ∈ T.uniques := by rw [List.getD_eq_getElem?_getD]; simp [hk']
        refine ⟨⟨by omega, by omega⟩, ⟨by omega, by omega⟩, ?_⟩
        refine callx_of [[1], [1]] [] rfl (c12 (T.uniques.getD k default) (f3.2 _ hmem)) (by first | (simp; done) | (simp [rowsOf_length]; done) | (simp [rowsOf_length]; omega)) (by first | (simp only [ends, ite_true, ite_false, reduceIte, Nat.reduceEqDiff, Nat.reduceLeDiff, Nat.reduceLT, Nat.reduceAdd, reduceCtorEq, num, boo, ints, tapeO, aV, aX, num, boo, str, aE_eq, aV]; done) | simp [ends, ite_true, ite_false, reduceIte, Nat.reduceEqDiff, Nat.reduceLeDiff, Nat.reduceLT, Nat.reduceAdd, reduceCtorEq, num, boo, ints, tapeO, aV, aX, num, boo, str, aE_eq, aV]) (by first | rfl | (simp only [ends, ite_true, ite_false, reduceIte, Nat.reduceEqDiff, Nat.reduceLeDiff, Nat.reduceLT, Nat.reduceAdd, reduceCtorEq, num, boo, ints, tapeO, aV, aX, num, boo, str, aE_eq, aV]; done) | simp [ends, ite_true, ite_false, reduceIte, Nat.reduceEqDiff, Nat.reduceLeDiff, Nat.reduceLT, Nat.reduceAdd, reduceCtorEq, num, boo, ints, tapeO, aV, aX, num, boo, str, aE_eq, aV]) (by simp only [ends, ite_true, ite_false, reduceIte, Nat.reduceEqDiff, Nat.reduceLeDiff, Nat.reduceLT, Nat.reduceAdd, reduceCtorEq, num, boo, ints, tapeO, aV, aX]) (by simp [idsOk, lookO, updO, ren1]) ?_
        simp -implicitDefEqProofs only [↓steps, push_cast, reduceIte, Nat.reduceEqDiff, Nat.reduceAdd, Nat.reduceMul, Nat.reduceLT, Nat.reduceLeDiff, Int.reduceToNat, Int.reduceLE, Int.reduceLT, reduceCtorEq, tte, num, boo, ints, tapeO, aV, aX]
        try refine ⟨drawx_intro (by kernel_rfl), ?_⟩
        refine loopK_again (⟨k + 1, hk'⟩ : { k : Nat // k ≤ T.uniques.length }) (by show T.uniques.length - (k + 1) < T.uniques.length - k; omega) ?_ ?_ ?_ <;> subst hJ
        · simp [J7, ends, ite_true, ite_false, reduceIte, Nat.reduceEqDiff, Nat.reduceLeDiff, Nat.reduceLT, Nat.reduceAdd, reduceCtorEq, num, boo, ints, tapeO, aV, aX, hwk]
        · simp [J7, ends, ite_true, ite_false, reduceIte, Nat.reduceEqDiff, Nat.reduceLeDiff, Nat.reduceLT, Nat.reduceAdd, reduceCtorEq, num, boo, ints, tapeO, aV, aX]
        · simp [J7, ends, ite_true, ite_false, reduceIte, Nat.reduceEqDiff, Nat.reduceLeDiff, Nat.reduceLT, Nat.reduceAdd, reduceCtorEq, num, boo, ints, tapeO, aV, aX]
      clear hwk hJ hq
      refine loop_intro mixed ttok (fun k : { k : Nat // k ≤ T.foreigns.length } => J7 s T n 124 123 T.foreigns.length k.1) (fun k => T.foreigns.length - k.1) ⟨0, Nat.zero_le _⟩ ?_ fun ⟨k, hk⟩ => ?_
      · exact Weak.keepL (by simp [J7, ends, ite_true, ite_false, reduceIte, Nat.reduceEqDiff, Nat.reduceLeDiff, Nat.reduceLT, Nat.reduceAdd, reduceCtorEq, num, boo, ints, tapeO, aV, aX]) (by simp [J7, ends, ite_true, ite_false, reduceIte, Nat.reduceEqDiff, Nat.reduceLeDiff, Nat.reduceLT, Nat.reduceAdd, reduceCtorEq, num, boo, ints, tapeO, aV, aX]) (by simp [J7, ends, ite_true, ite_false, reduceIte, Nat.reduceEqDiff, Nat.reduceLeDiff, Nat.reduceLT, Nat.reduceAdd, reduceCtorEq, num, boo, ints, tapeO, aV, aX])
      have hwk : k < T.foreigns.length → IntKind.i64.wrap ((k : Int) + 1) = (k : Int) + 1 := fun h => wrap_eq (by omega) (by omega)
      generalize hJ : (fun k : { k : Nat // k ≤ T.foreigns.length } => J7 s T n 124 123 T.foreigns.length k.1) = J
      simp -implicitDefEqProofs only [J7, ↓steps, push_cast, reduceIte, Nat.reduceEqDiff, Nat.reduceAdd, Nat.reduceMul, Nat.reduceLT, Nat.reduceLeDiff, Int.reduceToNat, Int.reduceLE, Int.reduceLT, reduceCtorEq, tte, num, boo, ints, tapeO, aV, aX]
      refine bcase_intro (fun hq => ?_) fun hq => ?_
      · have hk' : k < T.foreigns.length := by simpa using hq
        have hwk := hwk hk'
        have hmem : T.foreigns.getD k default ∈ T.foreigns := by rw [List.getD_eq_getElem?_getD]; simp [hk']
        refine ⟨⟨by omega, by omega⟩, ⟨by omega, by omega⟩, ⟨by omega, by omega⟩, ⟨by omega, by omega⟩, ?_⟩
        refine callx_of [[1], [1]] [] rfl (c12 (T.foreigns.getD k default).columns (f4.2 _ hmem)) (by first | (simp; done) | (simp [rowsOf_length]; done) | (simp [rowsOf_length]; omega)) (by first | (simp only [ends, ite_true, ite_false, reduceIte, Nat.reduceEqDiff, Nat.reduceLeDiff, Nat.reduceLT, Nat.reduceAdd, reduceCtorEq, num, boo, ints, tapeO, aV, aX, num, boo, str, aE_eq, aV]; done) | simp [ends, ite_true, ite_false, reduceIte, Nat.reduceEqDiff, Nat.reduceLeDiff, Nat.reduceLT, Nat.reduceAdd, reduceCtorEq, num, boo, ints, tapeO, aV, aX, num, boo, str, aE_eq, aV]) (by first | rfl | (simp only [ends, ite_true, ite_false, reduceIte, Nat.reduceEqDiff, Nat.reduceLeDiff, Nat.reduceLT, Nat.reduceAdd, reduceCtorEq, num, boo, ints, tapeO, aV, aX, num, boo, str, aE_eq, aV]; done) | simp [ends, ite_true, ite_false, reduceIte, Nat.reduceEqDiff, Nat.reduceLeDiff, Nat.reduceLT, Nat.reduceAdd, reduceCtorEq, num, boo, ints, tapeO, aV, aX, num, boo, str, aE_eq, aV]) (by simp only [ends, ite_true, ite_false, reduceIte, Nat.reduceEqDiff, Nat.reduceLeDiff, Nat.reduceLT, Nat.reduceAdd, reduceCtorEq, num, boo, ints, tapeO, aV, aX]) (by simp [idsOk, lookO, updO, ren1]) ?_
        simp -implicitDefEqProofs only [↓steps, push_cast, reduceIte, Nat.reduceEqDiff, Nat.reduceAdd, Nat.reduceMul, Nat.reduceLT, Nat.reduceLeDiff, Int.reduceToNat, Int.reduceLE, Int.reduceLT, reduceCtorEq, tte, num, boo, ints, tapeO, aV, aX]
        try refine ⟨drawx_intro (by kernel_rfl), ?_⟩
        refine loopK_again (⟨k + 1, hk'⟩ : { k : Nat // k ≤ T.foreigns.length }) (by show T.foreigns.length - (k + 1) < T.foreigns.length - k; omega) ?_ ?_ ?_ <;> subst hJ
        · simp [J7, ends, ite_true, ite_false, reduceIte, Nat.reduceEqDiff, Nat.reduceLeDiff, Nat.reduceLT, Nat.reduceAdd, reduceCtorEq, num, boo, ints, tapeO, aV, aX, hwk]
        · simp [J7, ends, ite_true, ite_false, reduceIte, Nat.reduceEqDiff, Nat.reduceLeDiff, Nat.reduceLT, Nat.reduceAdd, reduceCtorEq, num, boo, ints, tapeO, aV, aX]
        · simp [J7, ends, ite_true, ite_false, reduceIte, Nat.reduceEqDiff, Nat.reduceLeDiff, Nat.reduceLT, Nat.reduceAdd, reduceCtorEq, num, boo, ints, tapeO, aV, aX]
      clear hwk hJ hq
      refine loop_intro mixed ttok (fun k : { k : Nat // k ≤ T.checks.length } => J7 s T n 160 159 T.checks.length k.1) (fun k => T.checks.length - k.1) ⟨0, Nat.zero_le _⟩ ?_ fun ⟨k, hk⟩ => ?_
      · exact Weak.keepL (by simp [J7, ends, ite_true, ite_false, reduceIte, Nat.reduceEqDiff, Nat.reduceLeDiff, Nat.reduceLT, Nat.reduceAdd, reduceCtorEq, num, boo, ints, tapeO, aV, aX]) (by simp [J7, ends, ite_true, ite_false, reduceIte, Nat.reduceEqDiff, Nat.reduceLeDiff, Nat.reduceLT, Nat.reduceAdd, reduceCtorEq, num, boo, ints, tapeO, aV, aX]) (by simp [J7, ends, ite_true, ite_false, reduceIte, Nat.reduceEqDiff, Nat.reduceLeDiff, Nat.reduceLT, Nat.reduceAdd, reduceCtorEq, num, boo, ints, tapeO, aV, aX])
      have hwk : k < T.checks.length → IntKind.i64.wrap ((k : Int) + 1) = (k : Int) + 1 := fun h => wrap_eq (by omega) (by omega)
      generalize hJ : (fun k : { k : Nat // k ≤ T.checks.length } => J7 s T n 160 159 T.checks.length k.1) = J
      simp -implicitDefEqProofs only [J7, ↓steps, push_cast, reduceIte, Nat.reduceEqDiff, Nat.reduceAdd, Nat.reduceMul, Nat.reduceLT, Nat.reduceLeDiff, Int.reduceToNat, Int.reduceLE, Int.reduceLT, reduceCtorEq, tte, num, boo, ints, tapeO, aV, aX]
      refine bcase_intro (fun hq => ?_) fun hq => ?_
      · have hk' : k < T.checks.length := by simpa using hq
        have hwk := hwk hk'
        have hmem : T.checks.getD k default ∈ T.checks := by rw [List.getD_eq_getElem?_getD]; simp [hk']
        refine ⟨⟨by omega, by omega⟩, ⟨by omega, by omega⟩, ?_⟩
        refine callx_of [[], []] [] rfl (c6 (f5.2 _ hmem)) (by first | (simp; done) | (simp [rowsOf_length]; done) | (simp [rowsOf_length]; omega)) (by first | (simp only [ends, ite_true, ite_false, reduceIte, Nat.reduceEqDiff, Nat.reduceLeDiff, Nat.reduceLT, Nat.reduceAdd, reduceCtorEq, num, boo, ints, tapeO, aV, aX, num, boo, str, aE_eq, aV]; done) | simp [ends, ite_true, ite_false, reduceIte, Nat.reduceEqDiff, Nat.reduceLeDiff, Nat.reduceLT, Nat.reduceAdd, reduceCtorEq, num, boo, ints, tapeO, aV, aX, num, boo, str, aE_eq, aV]) (by first | rfl | (simp only [ends, ite_true, ite_false, reduceIte, Nat.reduceEqDiff, Nat.reduceLeDiff, Nat.reduceLT, Nat.reduceAdd, reduceCtorEq, num, boo, ints, tapeO, aV, aX, num, boo, str, aE_eq, aV]; done) | simp [ends, ite_true, ite_false, reduceIte, Nat.reduceEqDiff, Nat.reduceLeDiff, Nat.reduceLT, Nat.reduceAdd, reduceCtorEq, num, boo, ints, tapeO, aV, aX, num, boo, str, aE_eq, aV]) (by simp only [ends, ite_true, ite_false, reduceIte, Nat.reduceEqDiff, Nat.reduceLeDiff, Nat.reduceLT, Nat.reduceAdd, reduceCtorEq, num, boo, ints, tapeO, aV, aX]) (by simp [idsOk, lookO, updO, ren1]) ?_
        simp -implicitDefEqProofs only [↓steps, push_cast, reduceIte, Nat.reduceEqDiff, Nat.reduceAdd, Nat.reduceMul, Nat.reduceLT, Nat.reduceLeDiff, Int.reduceToNat, Int.reduceLE, Int.reduceLT, reduceCtorEq, tte, num, boo, ints, tapeO, aV, aX]
        try refine ⟨drawx_intro (by kernel_rfl), ?_⟩
        refine loopK_again (⟨k + 1, hk'⟩ : { k : Nat // k ≤ T.checks.length }) (by show T.checks.length - (k + 1) < T.checks.length - k; omega) ?_ ?_ ?_ <;> subst hJ
        · simp [J7, ends, ite_true, ite_false, reduceIte, Nat.reduceEqDiff, Nat.reduceLeDiff, Nat.reduceLT, Nat.reduceAdd, reduceCtorEq, num, boo, ints, tapeO, aV, aX, hwk]
        · simp [J7, ends, ite_true, ite_false, reduceIte, Nat.reduceEqDiff, Nat.reduceLeDiff, Nat.reduceLT, Nat.reduceAdd, reduceCtorEq, num, boo, ints, tapeO, aV, aX]
        · simp [J7, ends, ite_true, ite_false, reduceIte, Nat.reduceEqDiff, Nat.reduceLeDiff, Nat.reduceLT, Nat.reduceAdd, reduceCtorEq, num, boo, ints, tapeO, aV, aX]
      clear hwk hJ hq
      refine loopK_again (⟨n + 1, h'⟩ : { n : Nat // n ≤ s.length }) (by show s.length - (n + 1) < s.length - n; omega) ?_ ?_ ?_ <;> subst hI
      · simp [I7, ends, ite_true, ite_false, reduceIte, Nat.reduceEqDiff, Nat.reduceLeDiff, Nat.reduceLT, Nat.reduceAdd, reduceCtorEq, num, boo, ints, tapeO, aV, aX, hw]
      · simp [I7, ends, ite_true, ite_false, reduceIte, Nat.reduceEqDiff, Nat.reduceLeDiff, Nat.reduceLT, Nat.reduceAdd, reduceCtorEq, num, boo, ints, tapeO, aV, aX]
      · simp [I7, ends, ite_true, ite_false, reduceIte, Nat.reduceEqDiff, Nat.reduceLeDiff, Nat.reduceLT, Nat.reduceAdd, reduceCtorEq, num, boo, ints, tapeO, aV, aX]
    · refine retx_of [0] rfl trivial trivial rfl rfl trivial ?_
      simp only [ends, ite_true, ite_false, reduceIte, Nat.reduceEqDiff, Nat.reduceLeDiff, Nat.reduceLT, Nat.reduceAdd, reduceCtorEq, num, boo, ints, tapeO, aV, aX]
end Go.Proofs.Ytcpaofpnabiggaa

namespace Go.Proofs.Ytcpaofpnabiggaa
open Go.Am
set_option linter.unusedVariables false
set_option linter.unusedSimpArgs false
set_option maxRecDepth 100000
set_option maxHeartbeats 4000000

theorem name_ok (pre : ByteArray) (h : pre.size ≤ 1000) (i : Int) : ((pre.size + (Utf8.encode i).size : Nat) : Int) ≤ 9223372036854775807 := by have := encode_size i; omega
/-- A name of one letter behind a stem. -/
def letter (pre : ByteArray) (base : Int) (n : Nat) : ByteArray := pre ++ Utf8.encode (IntKind.i32.wrap (IntKind.i64.wrap (base + n)))
def colM (xs : List Int) (p c : Nat) : Col := ⟨letter ⟨#[99]⟩ 97 c, 1 + drawn xs (p + 2 * c) 3, drawn xs (p + 2 * c + 1) 2 == 1⟩
def colsM (xs : List Int) (p c : Nat) : List Col := ⟨⟨#[107]⟩, 1, false⟩ :: (List.range c).map (colM xs p)
theorem colsM_succ (xs : List Int) (p c : Nat) : colsM xs p (c + 1) = colsM xs p c ++ [colM xs p c] := by simp [colsM, List.range_succ]

def foreignM (xs : List Int) (s : List Tbl) (n : Nat) (cols : List Col) (p : Nat) : List Col × List Fk × Nat :=
  if decide ((n : Int) > 0) = true then
    if (drawn xs p 2 == 1) = true then (cols ++ [⟨⟨#[102]⟩, 1, drawn xs (p + 1) 2 == 1⟩], [⟨[(cols.length : Int)], (s.getD (drawn xs (p + 1 + 1) n).toNat default).name⟩], p + 1 + 1 + 1)
    else (cols, [], p + 1)
  else (cols, [], p)
def checkE : Ex := .mk 16 0 0 ByteArray.empty 0 [.mk 5 0 0 ByteArray.empty 1 [], .mk 2 0 4 ByteArray.empty 0 []]
def tableM' (xs : List Int) (n : Nat) (cols : List Col) (fs : List Fk) (p : Nat) : Tbl × Nat :=
  let uni := if (drawn xs p 4 == 3) = true then [[1]] else []
  if ((cols.getD 1 default).type == 1) = true then (⟨letter ⟨#[116]⟩ 97 n, cols, [0], uni, fs, if (drawn xs (p + 1) 4 == 3) = true then [checkE] else []⟩, p + 1 + 1)
  else (⟨letter ⟨#[116]⟩ 97 n, cols, [0], uni, fs, []⟩, p + 1)
def tableM (xs : List Int) (s : List Tbl) (n p : Nat) : Tbl × Nat :=
  let m := (1 + drawn xs p 3).toNat
  let f := foreignM xs s n (colsM xs (p + 1) m) (p + 1 + 2 * m)
  tableM' xs n f.1 f.2.1 f.2.2
def tabsM (xs : List Int) : Nat → List Tbl × Nat
  | 0 => ([], 1)
  | n + 1 => ((tabsM xs n).1 ++ [(tableM xs (tabsM xs n).1 n (tabsM xs n).2).1], (tableM xs (tabsM xs n).1 n (tabsM xs n).2).2)
def schemaM (xs : List Int) : List Tbl := (tabsM xs (1 + drawn xs 0 3).toNat).1
theorem tabsM_length (xs : List Int) : ∀ n, (tabsM xs n).1.length = n
  | 0 => rfl
  | n + 1 => by simp [tabsM, tabsM_length xs n]

def I8 (xs : List Int) (m n : Nat) : SL :=
  ⟨[(15, .d (.lit (.int .i64 n))), (14, .d (.lit (.int .i64 m))), (4, .ptr 4 0), (3, .ptr 500 0), (2, .ptr 2 0)],
   [(4, .var [.vec 600 n]), (600, .vec 48 6 (rowsOf rT (tabsM xs n).1) 0), (500, tapeO xs (tabsM xs n).2), (2, .var [.snil])]⟩
/-- Within a table. -/
def J8 (xs : List Int) (sn : List Tbl) (m n p m2 c : Nat) : SL :=
  ⟨[(30, .d (.lit (.int .i64 c))), (29, .d (.lit (.int .i64 m2))), (6, .ptr 6 0), (5, .d (.lit (.int .i64 n))), (15, .d (.lit (.int .i64 n))), (14, .d (.lit (.int .i64 m))), (4, .ptr 4 0), (3, .ptr 500 0), (2, .ptr 2 0)],
   [(6, .var [.d (.lit (.string (letter ⟨#[116]⟩ 97 n))), .vec 24 (c + 1), .vec 25 1, .snil, .snil, .snil]), (24, .vec 51 3 (rowsOf rC (colsM xs (p + 1) c)) 0), (25, .vec 3 1 (rowsOf rI [0]) 0),
    (4, .var [.vec 600 n]), (600, .vec 48 6 (rowsOf rT sn) 0), (500, tapeO xs (p + 1 + 2 * c)), (2, .var [.snil])]⟩

theorem c8 {xs : List Int} (hx : ∀ x ∈ xs, i64 x) : ACall Try.prog 8 [ints xs] [] (aS (schemaM (xs.take 400))) [] := by
  refine ACall.enter mixed ttok Try.func8 rfl rfl _ Try.ntmps8 (Nat.le_of_ble_eq_true rfl) (by kernel_rfl) _ (congrArg Array.toList Try.results8) ?_
  simp -implicitDefEqProofs only [argT, ↓steps, push_cast, reduceIte, Nat.reduceEqDiff, Nat.reduceAdd, Nat.reduceMul, Nat.reduceLT, Nat.reduceLeDiff, Int.reduceToNat, Int.reduceLE, Int.reduceLT, reduceCtorEq, tte, num, boo, ints, tapeO, aV, aX]
  refine callx_of [[1]] [(9, 500)] rfl (c10 (xs := xs)) (by first | (simp; done) | (simp [rowsOf_length]; done) | (simp [rowsOf_length]; omega)) (by first | (simp only [ends, ite_true, ite_false, reduceIte, Nat.reduceEqDiff, Nat.reduceLeDiff, Nat.reduceLT, Nat.reduceAdd, reduceCtorEq, num, boo, ints, tapeO, aV, aX, num, boo, str, aE_eq, aV]; done) | simp [ends, ite_true, ite_false, reduceIte, Nat.reduceEqDiff, Nat.reduceLeDiff, Nat.reduceLT, Nat.reduceAdd, reduceCtorEq, num, boo, ints, tapeO, aV, aX, num, boo, str, aE_eq, aV]) (by first | rfl | (simp only [ends, ite_true, ite_false, reduceIte, Nat.reduceEqDiff, Nat.reduceLeDiff, Nat.reduceLT, Nat.reduceAdd, reduceCtorEq, num, boo, ints, tapeO, aV, aX, num, boo, str, aE_eq, aV]; done) | simp [ends, ite_true, ite_false, reduceIte, Nat.reduceEqDiff, Nat.reduceLeDiff, Nat.reduceLT, Nat.reduceAdd, reduceCtorEq, num, boo, ints, tapeO, aV, aX, num, boo, str, aE_eq, aV]) (by simp only [ends, ite_true, ite_false, reduceIte, Nat.reduceEqDiff, Nat.reduceLeDiff, Nat.reduceLT, Nat.reduceAdd, reduceCtorEq, num, boo, ints, tapeO, aV, aX]) (by simp [idsOk, lookO, updO, ren1]) ?_
  have hx := tape_take hx
  generalize xs.take 400 = xs at hx ⊢
  generalize hr : aS (schemaM xs) = R
  have h3 := fun p => drawn_range xs p (n := 3) (by omega)
  have w3 : ∀ q, IntKind.i64.wrap (1 + drawn xs q 3) = 1 + drawn xs q 3 := fun q => wrap_eq (by have := h3 q; omega) (by have := h3 q; omega)
  simp -implicitDefEqProofs only [↓steps, push_cast, reduceIte, Nat.reduceEqDiff, Nat.reduceAdd, Nat.reduceMul, Nat.reduceLT, Nat.reduceLeDiff, Int.reduceToNat, Int.reduceLE, Int.reduceLT, reduceCtorEq, tte, num, boo, ints, tapeO, aV, aX]
  refine callx_of [[], []] [(1000, 500)] rfl (c13 (n := 3) (p := 0) hx (by omega) (by omega)) (by first | (simp; done) | (simp [rowsOf_length]; done) | (simp [rowsOf_length]; omega)) (by first | (simp only [ends, ite_true, ite_false, reduceIte, Nat.reduceEqDiff, Nat.reduceLeDiff, Nat.reduceLT, Nat.reduceAdd, reduceCtorEq, num, boo, ints, tapeO, aV, aX, num, boo, str, aE_eq, aV]; done) | simp [ends, ite_true, ite_false, reduceIte, Nat.reduceEqDiff, Nat.reduceLeDiff, Nat.reduceLT, Nat.reduceAdd, reduceCtorEq, num, boo, ints, tapeO, aV, aX, num, boo, str, aE_eq, aV]) (by first | rfl | (simp only [ends, ite_true, ite_false, reduceIte, Nat.reduceEqDiff, Nat.reduceLeDiff, Nat.reduceLT, Nat.reduceAdd, reduceCtorEq, num, boo, ints, tapeO, aV, aX, num, boo, str, aE_eq, aV]; done) | simp [ends, ite_true, ite_false, reduceIte, Nat.reduceEqDiff, Nat.reduceLeDiff, Nat.reduceLT, Nat.reduceAdd, reduceCtorEq, num, boo, ints, tapeO, aV, aX, num, boo, str, aE_eq, aV]) (by simp only [ends, ite_true, ite_false, reduceIte, Nat.reduceEqDiff, Nat.reduceLeDiff, Nat.reduceLT, Nat.reduceAdd, reduceCtorEq, num, boo, ints, tapeO, aV, aX]) (by simp [idsOk, lookO, updO, ren1]) ?_
  simp -implicitDefEqProofs only [↓steps, push_cast, reduceIte, Nat.reduceEqDiff, Nat.reduceAdd, Nat.reduceMul, Nat.reduceLT, Nat.reduceLeDiff, Int.reduceToNat, Int.reduceLE, Int.reduceLT, reduceCtorEq, tte, num, boo, ints, tapeO, aV, aX, w3]
  obtain ⟨m, hm⟩ : ∃ m : Nat, 1 + drawn xs 0 3 = m := ⟨(1 + drawn xs 0 3).toNat, by have := h3 0; omega⟩
  have hm3 : m ≤ 3 := by have := h3 0; omega
  rw [hm]
  refine loop_intro mixed ttok (fun n : { n : Nat // n ≤ m } => I8 xs m n.1) (fun n => m - n.1) ⟨0, Nat.zero_le _⟩ ?_ fun ⟨n, hn⟩ => ?_
  · exact (Weak.nilCellL 4 0 600 48 6 rfl rfl rfl).trans (Weak.keepL (by simp [I8, tabsM, ends, ite_true, ite_false, reduceIte, Nat.reduceEqDiff, Nat.reduceLeDiff, Nat.reduceLT, Nat.reduceAdd, reduceCtorEq, num, boo, ints, tapeO, aV, aX]) (by simp [I8, tabsM, rowsOf, ends, ite_true, ite_false, reduceIte, Nat.reduceEqDiff, Nat.reduceLeDiff, Nat.reduceLT, Nat.reduceAdd, reduceCtorEq, num, boo, ints, tapeO, aV, aX]) (by simp [I8, ends, ite_true, ite_false, reduceIte, Nat.reduceEqDiff, Nat.reduceLeDiff, Nat.reduceLT, Nat.reduceAdd, reduceCtorEq, num, boo, ints, tapeO, aV, aX]))
  · have hw : n < m → IntKind.i64.wrap ((n : Int) + 1) = (n : Int) + 1 := fun h => wrap_eq (by omega) (by omega)
    generalize hI : (fun n : { n : Nat // n ≤ m } => I8 xs m n.1) = I
    have htl := tabsM_length xs n
    simp -implicitDefEqProofs only [I8, ↓steps, push_cast, reduceIte, Nat.reduceEqDiff, Nat.reduceAdd, Nat.reduceMul, Nat.reduceLT, Nat.reduceLeDiff, Int.reduceToNat, Int.reduceLE, Int.reduceLT, reduceCtorEq, tte, num, boo, ints, tapeO, aV, aX]
    refine bcase_intro (fun h => ?_) fun h => ?_
    · have h' : n < m := by simpa using h
      have hw := hw h'
      generalize hp : (tabsM xs n).2 = p
      generalize hsn : (tabsM xs n).1 = sn at htl ⊢
      refine ⟨name_ok _ (by decide) _, ?_⟩
      refine callx_of [[], []] [(1000, 500)] rfl (c13 (n := 3) (p := p) hx (by omega) (by omega)) (by first | (simp; done) | (simp [rowsOf_length]; done) | (simp [rowsOf_length]; omega)) (by first | (simp only [ends, ite_true, ite_false, reduceIte, Nat.reduceEqDiff, Nat.reduceLeDiff, Nat.reduceLT, Nat.reduceAdd, reduceCtorEq, num, boo, ints, tapeO, aV, aX, num, boo, str, aE_eq, aV]; done) | simp [ends, ite_true, ite_false, reduceIte, Nat.reduceEqDiff, Nat.reduceLeDiff, Nat.reduceLT, Nat.reduceAdd, reduceCtorEq, num, boo, ints, tapeO, aV, aX, num, boo, str, aE_eq, aV]) (by first | rfl | (simp only [ends, ite_true, ite_false, reduceIte, Nat.reduceEqDiff, Nat.reduceLeDiff, Nat.reduceLT, Nat.reduceAdd, reduceCtorEq, num, boo, ints, tapeO, aV, aX, num, boo, str, aE_eq, aV]; done) | simp [ends, ite_true, ite_false, reduceIte, Nat.reduceEqDiff, Nat.reduceLeDiff, Nat.reduceLT, Nat.reduceAdd, reduceCtorEq, num, boo, ints, tapeO, aV, aX, num, boo, str, aE_eq, aV]) (by simp only [ends, ite_true, ite_false, reduceIte, Nat.reduceEqDiff, Nat.reduceLeDiff, Nat.reduceLT, Nat.reduceAdd, reduceCtorEq, num, boo, ints, tapeO, aV, aX]) (by simp [idsOk, lookO, updO, ren1]) ?_
      simp -implicitDefEqProofs only [↓steps, push_cast, reduceIte, Nat.reduceEqDiff, Nat.reduceAdd, Nat.reduceMul, Nat.reduceLT, Nat.reduceLeDiff, Int.reduceToNat, Int.reduceLE, Int.reduceLT, reduceCtorEq, tte, num, boo, ints, tapeO, aV, aX, w3]
      obtain ⟨m2, hm2⟩ : ∃ m2 : Nat, 1 + drawn xs p 3 = m2 := ⟨(1 + drawn xs p 3).toNat, by have := h3 p; omega⟩
      have hm23 : m2 ≤ 3 ∧ 1 ≤ m2 := by have := h3 p; omega
      rw [hm2]
      refine loop_intro mixed ttok (fun c : { c : Nat // c ≤ m2 } => J8 xs sn m n p m2 c.1) (fun c => m2 - c.1) ⟨0, Nat.zero_le _⟩ ?_ fun ⟨c, hc⟩ => ?_
      · exact Weak.keepL (by simp [J8, ends, ite_true, ite_false, reduceIte, Nat.reduceEqDiff, Nat.reduceLeDiff, Nat.reduceLT, Nat.reduceAdd, reduceCtorEq, num, boo, ints, tapeO, aV, aX]) (by simp [J8, colsM, rowsOf, letter, rC, ends, ite_true, ite_false, reduceIte, Nat.reduceEqDiff, Nat.reduceLeDiff, Nat.reduceLT, Nat.reduceAdd, reduceCtorEq, num, boo, ints, tapeO, aV, aX]) (by simp [J8, ends, ite_true, ite_false, reduceIte, Nat.reduceEqDiff, Nat.reduceLeDiff, Nat.reduceLT, Nat.reduceAdd, reduceCtorEq, num, boo, ints, tapeO, aV, aX])
      have hwc : c < m2 → IntKind.i64.wrap ((c : Int) + 1) = (c : Int) + 1 := fun h => wrap_eq (by omega) (by omega)
      generalize hJ : (fun c : { c : Nat // c ≤ m2 } => J8 xs sn m n p m2 c.1) = J
      have hcl : (colsM xs (p + 1) c).length = c + 1 := by simp [colsM]
      simp -implicitDefEqProofs only [J8, ↓steps, push_cast, reduceIte, Nat.reduceEqDiff, Nat.reduceAdd, Nat.reduceMul, Nat.reduceLT, Nat.reduceLeDiff, Int.reduceToNat, Int.reduceLE, Int.reduceLT, reduceCtorEq, tte, num, boo, ints, tapeO, aV, aX]
      refine bcase_intro (fun hq => ?_) fun hq => ?_
      · have hc' : c < m2 := by simpa using hq
        have hwc := hwc hc'
        refine callx_of [[], []] [(1000, 500)] rfl (c13 (n := 3) (p := p + 1 + 2 * c) hx (by omega) (by omega)) (by first | (simp; done) | (simp [rowsOf_length]; done) | (simp [rowsOf_length]; omega)) (by first | (simp only [ends, ite_true, ite_false, reduceIte, Nat.reduceEqDiff, Nat.reduceLeDiff, Nat.reduceLT, Nat.reduceAdd, reduceCtorEq, num, boo, ints, tapeO, aV, aX, num, boo, str, aE_eq, aV]; done) | simp [ends, ite_true, ite_false, reduceIte, Nat.reduceEqDiff, Nat.reduceLeDiff, Nat.reduceLT, Nat.reduceAdd, reduceCtorEq, num, boo, ints, tapeO, aV, aX, num, boo, str, aE_eq, aV]) (by first | rfl | (simp only [ends, ite_true, ite_false, reduceIte, Nat.reduceEqDiff, Nat.reduceLeDiff, Nat.reduceLT, Nat.reduceAdd, reduceCtorEq, num, boo, ints, tapeO, aV, aX, num, boo, str, aE_eq, aV]; done) | simp [ends, ite_true, ite_false, reduceIte, Nat.reduceEqDiff, Nat.reduceLeDiff, Nat.reduceLT, Nat.reduceAdd, reduceCtorEq, num, boo, ints, tapeO, aV, aX, num, boo, str, aE_eq, aV]) (by simp only [ends, ite_true, ite_false, reduceIte, Nat.reduceEqDiff, Nat.reduceLeDiff, Nat.reduceLT, Nat.reduceAdd, reduceCtorEq, num, boo, ints, tapeO, aV, aX]) (by simp [idsOk, lookO, updO, ren1]) ?_
        simp -implicitDefEqProofs only [↓steps, push_cast, reduceIte, Nat.reduceEqDiff, Nat.reduceAdd, Nat.reduceMul, Nat.reduceLT, Nat.reduceLeDiff, Int.reduceToNat, Int.reduceLE, Int.reduceLT, reduceCtorEq, tte, num, boo, ints, tapeO, aV, aX, w3]
        refine ⟨name_ok _ (by decide) _, ?_⟩
        refine callx_of [[], []] [(1000, 500)] rfl (c13 hx (by first | omega | (simp only [decide_eq_true_eq, gt_iff_lt] at *; omega)) (by omega)) (by simp) rfl rfl (And.intro (And.intro rfl rfl) trivial) (by simp [idsOk, lookO, updO, ren1]) ?_
        simp -implicitDefEqProofs only [↓steps, push_cast, reduceIte, Nat.reduceEqDiff, Nat.reduceAdd, Nat.reduceMul, Nat.reduceLT, Nat.reduceLeDiff, Int.reduceToNat, Int.reduceLE, Int.reduceLT, reduceCtorEq, tte, num, boo, ints, tapeO, aV, aX]
        have hcs := colsM_succ xs (p + 1) c
        refine ⟨⟨by omega, by omega⟩, drawx_intro (by kernel_rfl), ?_⟩
        refine loopK_again (⟨c + 1, hc'⟩ : { c : Nat // c ≤ m2 }) (by show m2 - (c + 1) < m2 - c; omega) ?_ ?_ ?_ <;> subst hJ
        · simp [J8, ends, ite_true, ite_false, reduceIte, Nat.reduceEqDiff, Nat.reduceLeDiff, Nat.reduceLT, Nat.reduceAdd, reduceCtorEq, num, boo, ints, tapeO, aV, aX, hwc, hcl]
        · simp [J8, ends, ite_true, ite_false, reduceIte, Nat.reduceEqDiff, Nat.reduceLeDiff, Nat.reduceLT, Nat.reduceAdd, reduceCtorEq, num, boo, ints, tapeO, aV, aX, hcs, hcl, colM, letter, rowsOf, rC, show p + 1 + 2 * (c + 1) = p + 1 + 2 * c + 1 + 1 from by omega]
        · simp [J8, ends, ite_true, ite_false, reduceIte, Nat.reduceEqDiff, Nat.reduceLeDiff, Nat.reduceLT, Nat.reduceAdd, reduceCtorEq, num, boo, ints, tapeO, aV, aX]
      · have hcm : c = m2 := by simp at hq; omega
        subst hcm
        generalize hcols : colsM xs (p + 1) c = cols at hcl ⊢
        have hstep : tabsM xs (n + 1) = (sn ++ [(tableM' xs n (foreignM xs sn n cols (p + 1 + 2 * c)).1 (foreignM xs sn n cols (p + 1 + 2 * c)).2.1 (foreignM xs sn n cols (p + 1 + 2 * c)).2.2).1], (tableM' xs n (foreignM xs sn n cols (p + 1 + 2 * c)).1 (foreignM xs sn n cols (p + 1 + 2 * c)).2.1 (foreignM xs sn n cols (p + 1 + 2 * c)).2.2).2) := by
          have e1 : (1 + drawn xs p 3).toNat = c := by omega
          simp only [tabsM, hsn, hp, tableM, e1, hcols]
        have fin : ∀ {t : List (Nat × A)} {o : List (Nat × Ob)}, keepT (lookT t) (inO (I8 xs m (n + 1)).o) (I8 xs m (n + 1)).t → keepO (lookO o) (inO (I8 xs m (n + 1)).o) (I8 xs m (n + 1)).o → keepIn (inO (I8 xs m (n + 1)).o) o →
            ∀ K, loopK I (fun n => m - n.1) ⟨n, hn⟩ K .normal ⟨t, o⟩ := by
          intro t o k1 k2 k3 K
          subst hI
          exact loopK_again (⟨n + 1, h'⟩ : { n : Nat // n ≤ m }) (by show m - (n + 1) < m - n; omega) k1 k2 k3
        clear hI hm hm2 hJ w3
        repeat' first
          | (refine bcase_intro (fun _ => ?_) (fun _ => ?_))
          | (refine callx_of [[], []] [(1000, 500)] rfl (c13 hx (by first | omega | (simp only [decide_eq_true_eq, gt_iff_lt] at *; omega)) (by omega)) (by simp) rfl rfl (And.intro (And.intro rfl rfl) trivial) (by simp [idsOk, lookO, updO, ren1]) ?_; simp -implicitDefEqProofs only [↓steps, push_cast, reduceIte, Nat.reduceEqDiff, Nat.reduceAdd, Nat.reduceMul, Nat.reduceLT, Nat.reduceLeDiff, Int.reduceToNat, Int.reduceLE, Int.reduceLT, reduceCtorEq, tte, num, boo, ints, tapeO, aV, aX])
          | (refine And.intro (drawx_intro ?_) ?_; · kernel_rfl)
          | (refine And.intro ?_ ?_; · omega)
          | (refine And.intro ?_ ?_; · (simp [List.length_append]; omega))
          | (refine And.intro ?_ ?_; · (simp [List.length_append, hcl]; done))
          | (refine And.intro ?_ ?_; · (have hz := drawn_range xs (p + 1 + 2 * c + 1 + 1) (n := (n : Int)) (by first | omega | (simp only [decide_eq_true_eq, gt_iff_lt] at *; omega)); omega))
          | (refine fin ?_ ?_ ?_ _)
        all_goals first
          | (simp [I8, ends, ite_true, ite_false, reduceIte, Nat.reduceEqDiff, Nat.reduceLeDiff, Nat.reduceLT, Nat.reduceAdd, reduceCtorEq, num, boo, ints, tapeO, aV, aX, hw, htl]; done)
          | (clear fin
             simp only [foreignM, tableM', *, reduceIte, Bool.false_eq_true, ite_true, ite_false] at hstep
             simp [I8, ends, ite_true, ite_false, reduceIte, Nat.reduceEqDiff, Nat.reduceLeDiff, Nat.reduceLT, Nat.reduceAdd, reduceCtorEq, num, boo, ints, tapeO, aV, aX, hstep, checkE, rowsOf, rT, rF, rIs, rE_mk, rC, hcl, htl]; done)
    · have hnm : n = m := by simp at h; omega
      subst hnm
      have hM : schemaM xs = (tabsM xs n).1 := by simp only [schemaM, hm, Int.toNat_natCast]
      refine retx_of [6] rfl trivial (by simp [rowsOf_length, htl]) ?_ (by subst hr; simp [aS, A.closed, closedL]) trivial (by simp only [ends, ite_true, ite_false, reduceIte, Nat.reduceEqDiff, Nat.reduceLeDiff, Nat.reduceLT, Nat.reduceAdd, reduceCtorEq, num, boo, ints, tapeO, aV, aX])
      rw [← hr, hM]; simp [aS]
end Go.Proofs.Ytcpaofpnabiggaa

namespace Go.Proofs.Ytcpaofpnabiggaa
open Go.Am
set_option linter.unusedVariables false
set_option linter.unusedSimpArgs false
set_option maxRecDepth 100000

/-- Two tapes whose numbers are drawn alike, for the numbers 1, 2, 3, 4, 7, 9, 13. -/
def Alike (xs ys : List Int) : Prop := ∀ p, ∀ n ∈ ([1, 2, 3, 4, 7, 9, 13] : List Int), drawn xs p n = drawn ys p n
theorem valueM_alike {xs ys : List Int} (h : Alike xs ys) (typ : Int) (nl : Bool) (p : Nat) : valueM xs typ nl p = valueM ys typ nl p := by
  simp only [valueM, valM, h p 4 (by simp), h p 7 (by simp), h p 2 (by simp), h (p + 1) 4 (by simp), h (p + 1) 7 (by simp), h (p + 1) 2 (by simp)]
theorem leafM_alike {xs ys types : List Int} (h : Alike xs ys) (hl : ∀ t, (cols types t).length ≤ 2) (typ : Int) (p : Nat) : leafM xs types typ p = leafM ys types typ p := by
  unfold leafM
  simp only [valueM_alike h, h p 3 (by simp)]
  by_cases hc : cols types typ = []
  · simp [hc]
  · have hlen : ((cols types typ).length : Int) ∈ ([1, 2, 3, 4, 7, 9, 13] : List Int) := by
      have h1 := hl typ
      have h2 : 0 < (cols types typ).length := List.length_pos_iff.2 hc
      have : (cols types typ).length = 1 ∨ (cols types typ).length = 2 := by omega
      rcases this with q | q <;> simp [q]
    rw [h (p + 1) _ hlen]
theorem sevM_alike {f g : Int → Nat → Ex × Nat} (h : f = g) : sevM f = sevM g := by rw [h]
theorem boolM_alike {xs ys : List Int} (h : Alike xs ys) (f : Int → Nat → Ex × Nat) (p : Nat) : boolM xs f p = boolM ys f p := by
  simp only [boolM, h p 13 (by simp), h (p + 1) 3 (by simp), h (p + 2) 3 (by simp)]
theorem opM_alike {xs ys : List Int} (h : Alike xs ys) (f : Int → Nat → Ex × Nat) (typ : Int) (p : Nat) : opM xs f typ p = opM ys f typ p := by
  simp only [opM, h p 9 (by simp), h p 3 (by simp), boolM_alike h]
theorem exprM_alike {xs ys types : List Int} (h : Alike xs ys) (hl : ∀ t, (cols types t).length ≤ 2) : ∀ d, exprM xs types d = exprM ys types d
  | 0 => by funext typ p; simp only [exprM, leafM_alike h hl]
  | d + 1 => by funext typ p; simp only [exprM, leafM_alike h hl, h p 3 (by simp), exprM_alike h hl d, opM_alike h]

theorem fine_mkM {f : Int → Nat → Ex × Nat} (hf : ∀ t p, Fine (f t p).1) (op : Int) (ts : List Int) (ht : ts.length ≤ 1000000) (p : Nat) : Fine (mkM f op ts p).1 := by
  have key : ∀ (l : List Int) (p : Nat), ∀ e ∈ (sevM f l p).1, Fine e := by
    intro l
    induction l with
    | nil => intro p e he; simp [sevM] at he
    | cons t l ih =>
      intro p e he
      simp only [sevM, List.mem_cons] at he
      rcases he with rfl | he
      · exact hf _ _
      · exact ih _ e he
  refine .mk _ ?_ ?_
  · simp only [mkM, Ex.kids, sevM_length]; exact ht
  · simp only [mkM, Ex.kids]; exact key _ _
theorem fine_leaf (a b c : Int) (d : ByteArray) (e : Int) : Fine (.mk a b c d e []) := .mk _ (by simp [Ex.kids]) (by simp [Ex.kids])
theorem fine_constM (v : Val) (t : Int) : Fine (constM v t) := by
  unfold constM
  repeat' split
  all_goals exact fine_leaf ..
theorem fine_leafM (xs types : List Int) (typ : Int) (p : Nat) : Fine (leafM xs types typ p).1 := by
  unfold leafM
  repeat' split
  all_goals first | exact fine_leaf .. | exact fine_constM ..
theorem fine_boolM (xs : List Int) {f : Int → Nat → Ex × Nat} (hf : ∀ t p, Fine (f t p).1) (p : Nat) : Fine (boolM xs f p).1 := by
  simp only [boolM]
  repeat' split
  all_goals exact fine_mkM hf _ _ (by simp) _
theorem fine_opM (xs : List Int) {f : Int → Nat → Ex × Nat} (hf : ∀ t p, Fine (f t p).1) (typ : Int) (p : Nat) : Fine (opM xs f typ p).1 := by
  simp only [opM]
  repeat' split
  all_goals first | exact fine_mkM hf _ _ (by simp) _ | exact fine_boolM xs hf _
theorem fine_exprM (xs types : List Int) : ∀ d typ p, Fine (exprM xs types d typ p).1
  | 0, typ, p => fine_leafM ..
  | d + 1, typ, p => by
    simp only [exprM]
    repeat' split
    all_goals first | exact fine_leafM .. | exact fine_opM _ (fine_exprM xs types d) _ _
end Go.Proofs.Ytcpaofpnabiggaa

namespace Go.Proofs.Ytcpaofpnabiggaa
open Go.Am
set_option linter.unusedVariables false
set_option linter.unusedSimpArgs false
set_option maxRecDepth 100000

theorem colsM_alike {xs ys : List Int} (h : Alike xs ys) (p c : Nat) : colsM xs p c = colsM ys p c := by
  simp only [colsM]
  congr 2
  funext i
  simp only [colM, h _ 3 (show (3 : Int) ∈ _ by simp), h _ 2 (show (2 : Int) ∈ _ by simp)]
theorem foreignM_alike {xs ys : List Int} (h : Alike xs ys) (s : List Tbl) {n : Nat} (hn : n ≤ 3) (cols : List Col) (p : Nat) : foreignM xs s n cols p = foreignM ys s n cols p := by
  simp only [foreignM]
  by_cases h0 : decide ((n : Int) > 0) = true
  · have hm : (n : Int) ∈ ([1, 2, 3, 4, 7, 9, 13] : List Int) := by
      simp only [gt_iff_lt, decide_eq_true_eq] at h0
      have : n = 1 ∨ n = 2 ∨ n = 3 := by omega
      rcases this with q | q | q <;> simp [q]
    simp only [h0, if_true, h p 2 (by simp), h (p + 1) 2 (by simp), h (p + 1 + 1) _ hm]
  · rw [if_neg h0, if_neg h0]
theorem tableM_alike {xs ys : List Int} (h : Alike xs ys) (s : List Tbl) {n : Nat} (hn : n ≤ 3) (p : Nat) : tableM xs s n p = tableM ys s n p := by
  simp only [tableM, h p 3 (by simp), colsM_alike h, foreignM_alike h s hn]
  simp only [tableM', h _ 4 (show (4 : Int) ∈ _ by simp)]
theorem tabsM_alike {xs ys : List Int} (h : Alike xs ys) : ∀ n, n ≤ 3 → tabsM xs n = tabsM ys n
  | 0, _ => rfl
  | n + 1, hn => by simp only [tabsM, tabsM_alike h n (by omega), tableM_alike h _ (show n ≤ 3 by omega)]
theorem schemaM_alike {xs ys : List Int} (h : Alike xs ys) : schemaM xs = schemaM ys := by
  simp only [schemaM, h 0 3 (by simp)]
  rw [tabsM_alike h]
  have := drawn_range ys 0 (n := 3) (by omega)
  omega
theorem fine_checkE : Fine checkE := by
  refine .mk _ (by simp [checkE, Ex.kids]) ?_
  intro k hk
  simp [checkE, Ex.kids] at hk
  rcases hk with rfl | rfl <;> exact fine_leaf ..
theorem fine_tableM (xs : List Int) (s : List Tbl) (n p : Nat) : FineT (tableM xs s n p).1 := by
  have h3 := drawn_range xs p (n := 3) (by omega)
  have hc : (colsM xs (p + 1) (1 + drawn xs p 3).toNat).length ≤ 10 := by simp [colsM]; omega
  have key : ∀ cols fs q, cols.length ≤ 1000 → fs.length ≤ 10 → (∀ f ∈ fs, f.columns.length ≤ 10) → FineT (tableM' xs n cols fs q).1 := by
    intro cols fs q h1 h2 h3
    have hu : ∀ b : Prop, [Decidable b] → (if b then [[(1 : Int)]] else []).length ≤ 1000000 ∧ ∀ u ∈ (if b then [[(1 : Int)]] else []), u.length ≤ 1000000 := by
      intro b _
      split <;> simp
    have he : ∀ b : Prop, [Decidable b] → (if b then [checkE] else []).length ≤ 1000000 ∧ ∀ u ∈ (if b then [checkE] else []), Fine u := by
      intro b _
      split <;> simp [fine_checkE]
    simp only [tableM']
    split
    · exact ⟨by simp only; omega, by simp, hu _, ⟨by simp only; omega, fun f hf => by have := h3 f hf; omega⟩, he _⟩
    · exact ⟨by simp only; omega, by simp, hu _, ⟨by simp only; omega, fun f hf => by have := h3 f hf; omega⟩, by simp⟩
  simp only [tableM, foreignM]
  split
  · split
    · exact key _ _ _ (by simp; omega) (by simp) (by simp)
    · exact key _ _ _ (by show (colsM xs (p + 1) (1 + drawn xs p 3).toNat).length ≤ 1000; omega) (by simp) (by simp)
  · exact key _ _ _ (by show (colsM xs (p + 1) (1 + drawn xs p 3).toNat).length ≤ 1000; omega) (by simp) (by simp)
theorem fine_tabsM (xs : List Int) : ∀ n, ∀ t ∈ (tabsM xs n).1, FineT t
  | 0, t, h => by simp [tabsM] at h
  | n + 1, t, h => by
    simp only [tabsM, List.mem_append, List.mem_singleton] at h
    rcases h with h | rfl
    · exact fine_tabsM xs n t h
    · exact fine_tableM ..

/-- Zeros at the end, and numbers behind the first 400. -/
theorem alike_zeros (xs more : List Int) (h : xs.length ≤ 400) : Alike xs ((xs ++ List.replicate (400 - xs.length) 0 ++ more).take 400) := by
  intro p n _
  simp only [drawn]
  congr 1
  simp only [List.getD_eq_getElem?_getD, List.getElem?_take]
  by_cases hp : p < 400
  · rw [if_pos hp, List.getElem?_append_left (by simp; omega)]
    by_cases hp2 : p < xs.length
    · rw [List.getElem?_append_left hp2]
    · rw [List.getElem?_append_right (by omega), List.getElem?_eq_none (show xs.length ≤ p by omega)]
      rw [List.getElem?_replicate]
      split <;> rfl
  · rw [if_neg hp, List.getElem?_eq_none (show xs.length ≤ p by omega)]
theorem alike_mod (xs : List Int) (f g : Int → Int) (k : Int) (h : ∀ x, ∃ z, g x = f x + 32760 * z) : Alike (xs.map f) (xs.map g) := by
  intro p n hn
  simp only [drawn, List.getD_eq_getElem?_getD, List.getElem?_map]
  cases xs[p]? with
  | none => rfl
  | some x =>
    obtain ⟨z, hz⟩ := h x
    simp only [Option.map_some, Option.getD_some, hz]
    simp only [List.mem_cons, List.not_mem_nil, or_false] at hn
    rcases hn with rfl | rfl | rfl | rfl | rfl | rfl | rfl <;> omega
end Go.Proofs.Ytcpaofpnabiggaa

namespace Go.Proofs.Ytcpaofpnabiggaa
open Go.Am
set_option linter.unusedVariables false
set_option linter.unusedSimpArgs false
set_option maxRecDepth 100000
set_option maxHeartbeats 4000000

theorem rowsI_rep (k : Nat) : List.replicate k [D.lit (.int .i64 0)] = rowsOf rI (List.replicate k 0) := by simp [rowsOf, rI]
def fB (x : Int) : Int := x.tmod 1000000
def fO (tm x : Int) : Int := x.tmod 1000000 + 32760 * tm
def LongA (xs more : List Int) : List Int := xs ++ List.replicate (400 - xs.length) 0 ++ more
@[simp] theorem LongA_length (xs more : List Int) : (LongA xs more).length = xs.length + (400 - xs.length) + more.length := by simp [LongA]; omega
theorem take_map_succ {α β : Type} (f : α → β) (xs : List α) (n : Nat) [Inhabited α] (h : n < xs.length) : (xs.take (n + 1)).map f = (xs.take n).map f ++ [f (xs.getD n default)] := by
  rw [List.take_succ_eq_append_getElem h, List.map_append]; simp only [List.map_cons, List.map_nil, List.getD_eq_getElem?_getD, List.getElem?_eq_getElem h, Option.getD_some]
def K1 (xs more : List Int) (tm : Int) (n : Nat) : SL :=
  ⟨[(44, .d (.lit (.int .i64 n))), (43, .d (.lit (.int .i64 xs.length))), (42, .d (.sl 1 (rowsOf rI xs))), (8, .vec 500 n), (7, .vec 32 (xs.length + (400 - xs.length) + more.length)), (0, .d (.sl 1 (rowsOf rI xs))), (2, .d (.lit (.int .i8 tm)))],
   [(500, .vec 3 1 (rowsOf rI ((xs.take n).map (fO tm))) 0), (32, .vec 3 1 (rowsOf rI (LongA xs more)) 0)]⟩
def K2 (xs more : List Int) (tm : Int) (n : Nat) : SL :=
  ⟨[(60, .d (.lit (.int .i64 n))), (59, .d (.lit (.int .i64 xs.length))), (58, .d (.sl 1 (rowsOf rI xs))), (11, .vec 501 n), (8, .vec 500 xs.length), (7, .vec 32 (xs.length + (400 - xs.length) + more.length)), (0, .d (.sl 1 (rowsOf rI xs)))],
   [(501, .vec 3 1 (rowsOf rI ((xs.take n).map fB)) 0), (500, .vec 3 1 (rowsOf rI (xs.map (fO tm))) 0), (32, .vec 3 1 (rowsOf rI (LongA xs more)) 0)]⟩
theorem tmod_range (x : Int) : -1000000 < x.tmod 1000000 ∧ x.tmod 1000000 < 1000000 := by
  have h3 := Int.tmod_eq_emod (a := x) (b := 1000000)
  have h4 := Int.emod_nonneg x (show (1000000 : Int) ≠ 0 by omega)
  have h5 := Int.emod_lt_of_pos x (show (0 : Int) < 1000000 by omega)
  by_cases h : 0 ≤ x ∨ (1000000 : Int) ∣ x
  · rw [if_pos h] at h3; omega
  · rw [if_neg h] at h3
    have h6 : x % 1000000 ≠ 0 := fun h5 => h (.inr (Int.dvd_of_emod_eq_zero h5))
    omega
theorem wrap_O {x tm : Int} (hx : i64 x) (ht : -128 ≤ tm ∧ tm ≤ 127) : IntKind.i64.wrap (x.tmod 1000000 + IntKind.i64.wrap (32760 * IntKind.i64.wrap tm)) = fO tm x := by
  have h1 : -1000000 < x.tmod 1000000 ∧ x.tmod 1000000 < 1000000 := by
    have h3 := Int.tmod_eq_emod (a := x) (b := 1000000)
    have h4 := Int.emod_nonneg x (show (1000000 : Int) ≠ 0 by omega)
    have h5 := Int.emod_lt_of_pos x (show (0 : Int) < 1000000 by omega)
    by_cases h : 0 ≤ x ∨ (1000000 : Int) ∣ x
    · rw [if_pos h] at h3; omega
    · rw [if_neg h] at h3
      have h6 : x % 1000000 ≠ 0 := fun h5 => h (.inr (Int.dvd_of_emod_eq_zero h5))
      omega
  rw [wrap_eq (n := tm) (by omega) (by omega), wrap_eq (n := 32760 * tm) (by omega) (by omega), wrap_eq (by omega) (by omega)]
  rfl
theorem c3 {xs more : List Int} {tm : Int} (hx : ∀ x ∈ xs, i64 x) (hm : ∀ x ∈ more, i64 x) (ht : -128 ≤ tm ∧ tm ≤ 127) : ACall Try.prog 3 [ints xs, ints more, .d (.lit (.int .i8 tm))] [] (boo true) [] := by
  refine ACall.enter mixed ttok Try.func3 rfl rfl _ Try.ntmps3 (Nat.le_of_ble_eq_true rfl) (by kernel_rfl) _ (congrArg Array.toList Try.results3) ?_
  rcases Nat.lt_or_ge 100 xs.length with hlen | hlen
  · simp -implicitDefEqProofs only [argT, ↓steps, push_cast, reduceIte, Nat.reduceEqDiff, Nat.reduceAdd, Nat.reduceMul, Nat.reduceLT, Nat.reduceLeDiff, Int.reduceToNat, Int.reduceLE, Int.reduceLT, reduceCtorEq, tte, num, boo, ints, tapeO, aV, aX]
    refine bcase_intro (fun h => ?_) fun h => absurd h (by simp; omega)
    refine callx_of [] [] rfl (c4) (by first | (simp; done) | (simp [rowsOf_length]; done) | (simp [rowsOf_length]; omega)) (by first | (simp only [ends, ite_true, ite_false, reduceIte, Nat.reduceEqDiff, Nat.reduceLeDiff, Nat.reduceLT, Nat.reduceAdd, reduceCtorEq, num, boo, ints, tapeO, aV, aX, num, boo, str, aE_eq, aV]; done) | simp [ends, ite_true, ite_false, reduceIte, Nat.reduceEqDiff, Nat.reduceLeDiff, Nat.reduceLT, Nat.reduceAdd, reduceCtorEq, num, boo, ints, tapeO, aV, aX, num, boo, str, aE_eq, aV]) (by first | rfl | (simp only [ends, ite_true, ite_false, reduceIte, Nat.reduceEqDiff, Nat.reduceLeDiff, Nat.reduceLT, Nat.reduceAdd, reduceCtorEq, num, boo, ints, tapeO, aV, aX, num, boo, str, aE_eq, aV]; done) | simp [ends, ite_true, ite_false, reduceIte, Nat.reduceEqDiff, Nat.reduceLeDiff, Nat.reduceLT, Nat.reduceAdd, reduceCtorEq, num, boo, ints, tapeO, aV, aX, num, boo, str, aE_eq, aV]) (by simp only [ends, ite_true, ite_false, reduceIte, Nat.reduceEqDiff, Nat.reduceLeDiff, Nat.reduceLT, Nat.reduceAdd, reduceCtorEq, num, boo, ints, tapeO, aV, aX]) (by simp [idsOk, lookO, updO, ren1]) ?_
    simp -implicitDefEqProofs only [↓steps, push_cast, reduceIte, Nat.reduceEqDiff, Nat.reduceAdd, Nat.reduceMul, Nat.reduceLT, Nat.reduceLeDiff, Int.reduceToNat, Int.reduceLE, Int.reduceLT, reduceCtorEq, tte, num, boo, ints, tapeO, aV, aX]
    exact retx_of [0] rfl trivial trivial rfl rfl trivial trivial
  have hw : IntKind.i64.wrap (400 - (xs.length : Int)) = 400 - (xs.length : Int) := wrap_eq (by omega) (by omega)
  have hw2 : (400 - (xs.length : Int)).toNat = 400 - xs.length := by omega
  simp -implicitDefEqProofs only [argT, hw, hw2, rowsI_rep, rowsOf_append, List.length_append, List.length_replicate, ↓steps, push_cast, reduceIte, Nat.reduceEqDiff, Nat.reduceAdd, Nat.reduceMul, Nat.reduceLT, Nat.reduceLeDiff, Int.reduceToNat, Int.reduceLE, Int.reduceLT, reduceCtorEq, tte, num, boo, ints, tapeO, aV, aX]
  refine bcase_intro (fun h => absurd h (by simp; omega)) fun h => bcase_intro (fun h2 => ?_) fun h2 => ?_
  · refine callx_of [] [] rfl (c4) (by first | (simp; done) | (simp [rowsOf_length]; done) | (simp [rowsOf_length]; omega)) (by first | (simp only [ends, ite_true, ite_false, reduceIte, Nat.reduceEqDiff, Nat.reduceLeDiff, Nat.reduceLT, Nat.reduceAdd, reduceCtorEq, num, boo, ints, tapeO, aV, aX, num, boo, str, aE_eq, aV]; done) | simp [ends, ite_true, ite_false, reduceIte, Nat.reduceEqDiff, Nat.reduceLeDiff, Nat.reduceLT, Nat.reduceAdd, reduceCtorEq, num, boo, ints, tapeO, aV, aX, num, boo, str, aE_eq, aV]) (by first | rfl | (simp only [ends, ite_true, ite_false, reduceIte, Nat.reduceEqDiff, Nat.reduceLeDiff, Nat.reduceLT, Nat.reduceAdd, reduceCtorEq, num, boo, ints, tapeO, aV, aX, num, boo, str, aE_eq, aV]; done) | simp [ends, ite_true, ite_false, reduceIte, Nat.reduceEqDiff, Nat.reduceLeDiff, Nat.reduceLT, Nat.reduceAdd, reduceCtorEq, num, boo, ints, tapeO, aV, aX, num, boo, str, aE_eq, aV]) (by simp only [ends, ite_true, ite_false, reduceIte, Nat.reduceEqDiff, Nat.reduceLeDiff, Nat.reduceLT, Nat.reduceAdd, reduceCtorEq, num, boo, ints, tapeO, aV, aX]) (by simp [idsOk, lookO, updO, ren1]) ?_
    simp -implicitDefEqProofs only [↓steps, push_cast, reduceIte, Nat.reduceEqDiff, Nat.reduceAdd, Nat.reduceMul, Nat.reduceLT, Nat.reduceLeDiff, Int.reduceToNat, Int.reduceLE, Int.reduceLT, reduceCtorEq, tte, num, boo, ints, tapeO, aV, aX]
    exact retx_of [0] rfl trivial trivial rfl rfl trivial trivial
  · simp only [decide_eq_false_iff_not] at h h2
    refine ⟨by omega, ⟨⟨by omega, by omega⟩, by omega⟩, ?_⟩
    refine ⟨by omega, ?_⟩
    refine loop_intro mixed ttok (fun n : { n : Nat // n ≤ xs.length } => K1 xs more tm n.1) (fun n => xs.length - n.1) ⟨0, Nat.zero_le _⟩ ?_ fun ⟨n, hn⟩ => ?_
    · exact (Weak.nilL 8 500 3 1 rfl rfl).trans (Weak.keepL (by simp [K1, ends, ite_true, ite_false, reduceIte, Nat.reduceEqDiff, Nat.reduceLeDiff, Nat.reduceLT, Nat.reduceAdd, reduceCtorEq, num, boo, ints, tapeO, aV, aX]) (by simp [K1, LongA, rowsOf, ends, ite_true, ite_false, reduceIte, Nat.reduceEqDiff, Nat.reduceLeDiff, Nat.reduceLT, Nat.reduceAdd, reduceCtorEq, num, boo, ints, tapeO, aV, aX]) (by simp [K1, ends, ite_true, ite_false, reduceIte, Nat.reduceEqDiff, Nat.reduceLeDiff, Nat.reduceLT, Nat.reduceAdd, reduceCtorEq, num, boo, ints, tapeO, aV, aX]))
    have hwn : n < xs.length → IntKind.i64.wrap ((n : Int) + 1) = (n : Int) + 1 := fun h => wrap_eq (by omega) (by omega)
    generalize hI : (fun n : { n : Nat // n ≤ xs.length } => K1 xs more tm n.1) = I
    have hll : ((xs.take n).map (fO tm)).length = n := by simp; omega
    simp -implicitDefEqProofs only [K1, ↓steps, push_cast, reduceIte, Nat.reduceEqDiff, Nat.reduceAdd, Nat.reduceMul, Nat.reduceLT, Nat.reduceLeDiff, Int.reduceToNat, Int.reduceLE, Int.reduceLT, reduceCtorEq, tte, num, boo, ints, tapeO, aV, aX]
    refine bcase_intro (fun hq => ?_) fun hq => ?_
    · have h' : n < xs.length := by simpa using hq
      have hwn := hwn h'
      have hd : i64 (xs.getD n default) := hx _ (by rw [List.getD_eq_getElem?_getD]; simp [h'])
      have hts := take_map_succ (fO tm) xs n h'
      rw [wrap_O hd ht]
      refine ⟨⟨by omega, by omega⟩, by decide, ⟨by omega, by omega⟩, ?_⟩
      refine loopK_again (⟨n + 1, h'⟩ : { n : Nat // n ≤ xs.length }) (by show xs.length - (n + 1) < xs.length - n; omega) ?_ ?_ ?_ <;> subst hI
      · simp [K1, ends, ite_true, ite_false, reduceIte, Nat.reduceEqDiff, Nat.reduceLeDiff, Nat.reduceLT, Nat.reduceAdd, reduceCtorEq, num, boo, ints, tapeO, aV, aX, hwn, hll, show min n xs.length = n from Nat.min_eq_left hn]
      · simp only [K1, ends, ite_true, ite_false, reduceIte, Nat.reduceEqDiff, Nat.reduceLeDiff, Nat.reduceLT, Nat.reduceAdd, reduceCtorEq, num, boo, ints, tapeO, aV, aX, hts, rowsOf_append]
      · simp [K1, ends, ite_true, ite_false, reduceIte, Nat.reduceEqDiff, Nat.reduceLeDiff, Nat.reduceLT, Nat.reduceAdd, reduceCtorEq, num, boo, ints, tapeO, aV, aX]
    have hnl : n = xs.length := by simp at hq; omega
    subst hnl
    clear hI hwn hll
    rw [List.take_length]
    refine loop_intro mixed ttok (fun n : { n : Nat // n ≤ xs.length } => K2 xs more tm n.1) (fun n => xs.length - n.1) ⟨0, Nat.zero_le _⟩ ?_ fun ⟨n, hn⟩ => ?_
    · exact (Weak.nilL 11 501 3 1 rfl rfl).trans (Weak.keepL (by simp [K2, ends, ite_true, ite_false, reduceIte, Nat.reduceEqDiff, Nat.reduceLeDiff, Nat.reduceLT, Nat.reduceAdd, reduceCtorEq, num, boo, ints, tapeO, aV, aX]) (by simp [K2, LongA, rowsOf, ends, ite_true, ite_false, reduceIte, Nat.reduceEqDiff, Nat.reduceLeDiff, Nat.reduceLT, Nat.reduceAdd, reduceCtorEq, num, boo, ints, tapeO, aV, aX]) (by simp [K2, ends, ite_true, ite_false, reduceIte, Nat.reduceEqDiff, Nat.reduceLeDiff, Nat.reduceLT, Nat.reduceAdd, reduceCtorEq, num, boo, ints, tapeO, aV, aX]))
    have hwn : n < xs.length → IntKind.i64.wrap ((n : Int) + 1) = (n : Int) + 1 := fun h => wrap_eq (by omega) (by omega)
    generalize hI : (fun n : { n : Nat // n ≤ xs.length } => K2 xs more tm n.1) = J
    have hll : ((xs.take n).map fB).length = n := by simp; omega
    simp -implicitDefEqProofs only [K2, ↓steps, push_cast, reduceIte, Nat.reduceEqDiff, Nat.reduceAdd, Nat.reduceMul, Nat.reduceLT, Nat.reduceLeDiff, Int.reduceToNat, Int.reduceLE, Int.reduceLT, reduceCtorEq, tte, num, boo, ints, tapeO, aV, aX]
    refine bcase_intro (fun hq => ?_) fun hq => ?_
    · have h' : n < xs.length := by simpa using hq
      have hwn := hwn h'
      have hts := take_map_succ fB xs n h'
      refine ⟨⟨by omega, by omega⟩, by decide, ⟨by omega, by omega⟩, ?_⟩
      refine loopK_again (⟨n + 1, h'⟩ : { n : Nat // n ≤ xs.length }) (by show xs.length - (n + 1) < xs.length - n; omega) ?_ ?_ ?_ <;> subst hI
      · simp [K2, ends, ite_true, ite_false, reduceIte, Nat.reduceEqDiff, Nat.reduceLeDiff, Nat.reduceLT, Nat.reduceAdd, reduceCtorEq, num, boo, ints, tapeO, aV, aX, hwn, hll, show min n xs.length = n from Nat.min_eq_left hn]
      · simp only [K2, ends, ite_true, ite_false, reduceIte, Nat.reduceEqDiff, Nat.reduceLeDiff, Nat.reduceLT, Nat.reduceAdd, reduceCtorEq, num, boo, ints, tapeO, aV, aX, hts, rowsOf_append]; rfl
      · simp [K2, ends, ite_true, ite_false, reduceIte, Nat.reduceEqDiff, Nat.reduceLeDiff, Nat.reduceLT, Nat.reduceAdd, reduceCtorEq, num, boo, ints, tapeO, aV, aX]
    have hnl : n = xs.length := by simp at hq; omega
    subst hnl
    clear hI hwn hll
    rw [List.take_length]
    have hty : ∀ t ∈ ([1, 3, 2, 1] : List Int), Known t := by intro t ht; simp at ht; rcases ht with rfl | rfl | rfl | rfl <;> rfl
    have hcols : ∀ t, (cols [1, 3, 2, 1] t).length ≤ 2 := by
      intro t
      simp only [cols, colsU]
      by_cases h1 : t = 1
      · subst h1; decide
      · by_cases h3 : t = 3
        · subst h3; decide
        · by_cases h2 : t = 2
          · subst h2; decide
          · simp [List.range, List.range.loop, Ne.symm h1, Ne.symm h2, Ne.symm h3]
    have hL : ∀ x ∈ LongA xs more, i64 x := by
      intro x hxm
      simp only [LongA, List.mem_append, List.mem_replicate] at hxm
      rcases hxm with (hxm | hxm) | hxm
      · exact hx x hxm
      · rw [hxm.2]; simp [i64]
      · exact hm x hxm
    have hO : ∀ x ∈ xs.map (fO tm), i64 x := by
      intro x hxm
      obtain ⟨y, _, rfl⟩ := List.mem_map.1 hxm
      have := tmod_range y
      simp only [fO, i64]; omega
    have hB : ∀ x ∈ xs.map fB, i64 x := by
      intro x hxm
      obtain ⟨y, _, rfl⟩ := List.mem_map.1 hxm
      have := tmod_range y
      simp only [fB, i64]; omega
    have k1 := c5 (types := [1, 3, 2, 1]) (typ := 2) (d := 3) hx (by simp) hty rfl (by omega)
    have k2 := c5 (types := [1, 3, 2, 1]) (typ := 2) (d := 3) hL (by simp) hty rfl (by omega)
    have k3 := c5 (types := [1, 3, 2, 1]) (typ := 2) (d := 3) hB (by simp) hty rfl (by omega)
    have k4 := c5 (types := [1, 3, 2, 1]) (typ := 2) (d := 3) hO (by simp) hty rfl (by omega)
    have t1 : xs.take 400 = xs := List.take_of_length_le (by omega)
    have t3 : (xs.map fB).take 400 = xs.map fB := List.take_of_length_le (by simp; omega)
    have t4 : (xs.map (fO tm)).take 400 = xs.map (fO tm) := List.take_of_length_le (by simp; omega)
    have a1 : Alike xs ((LongA xs more).take 400) := alike_zeros xs more (by omega)
    have a2 : Alike (xs.map fB) (xs.map (fO tm)) := alike_mod xs fB (fO tm) 0 (fun x => ⟨tm, rfl⟩)
    rw [t1] at k1
    rw [← exprM_alike a1 hcols] at k2
    rw [t3] at k3
    rw [t4, ← exprM_alike a2 hcols] at k4
    have g1 := fine_exprM xs [1, 3, 2, 1] (3 + 1) 2 0
    have g2 := fine_exprM (xs.map fB) [1, 3, 2, 1] (3 + 1) 2 0
    generalize (exprM xs [1, 3, 2, 1] (3 + 1) 2 0).1 = e1 at k1 k2 g1
    generalize (exprM (xs.map fB) [1, 3, 2, 1] (3 + 1) 2 0).1 = e2 at k3 k4 g2
    have s1 := c8 hx
    have s2 := c8 hL
    rw [t1] at s1
    rw [← schemaM_alike a1] at s2
    have s3 : (schemaM xs).length ≤ 1000000 := by
      have := tabsM_length xs (1 + drawn xs 0 3).toNat
      have := drawn_range xs 0 (n := 3) (by omega)
      simp only [schemaM]; omega
    have s4 : ∀ t ∈ schemaM xs, FineT t := fine_tabsM xs _
    generalize schemaM xs = S at s1 s2 s3 s4
    refine callx_of [[1], [], [], [1]] [] rfl (k1) (by first | (simp; done) | (simp [rowsOf_length]; done) | (simp [rowsOf_length]; omega)) (by first | (simp only [ends, ite_true, ite_false, reduceIte, Nat.reduceEqDiff, Nat.reduceLeDiff, Nat.reduceLT, Nat.reduceAdd, reduceCtorEq, num, boo, ints, tapeO, aV, aX, num, boo, str, aE_eq, aV]; done) | simp [ends, ite_true, ite_false, reduceIte, Nat.reduceEqDiff, Nat.reduceLeDiff, Nat.reduceLT, Nat.reduceAdd, reduceCtorEq, num, boo, ints, tapeO, aV, aX, num, boo, str, aE_eq, aV]) (by first | rfl | (simp only [ends, ite_true, ite_false, reduceIte, Nat.reduceEqDiff, Nat.reduceLeDiff, Nat.reduceLT, Nat.reduceAdd, reduceCtorEq, num, boo, ints, tapeO, aV, aX, num, boo, str, aE_eq, aV]; done) | simp [ends, ite_true, ite_false, reduceIte, Nat.reduceEqDiff, Nat.reduceLeDiff, Nat.reduceLT, Nat.reduceAdd, reduceCtorEq, num, boo, ints, tapeO, aV, aX, num, boo, str, aE_eq, aV]) (by simp only [ends, ite_true, ite_false, reduceIte, Nat.reduceEqDiff, Nat.reduceLeDiff, Nat.reduceLT, Nat.reduceAdd, reduceCtorEq, num, boo, ints, tapeO, aV, aX]) (by simp [idsOk, lookO, updO, ren1]) ?_
    simp -implicitDefEqProofs only [↓steps, push_cast, reduceIte, Nat.reduceEqDiff, Nat.reduceAdd, Nat.reduceMul, Nat.reduceLT, Nat.reduceLeDiff, Int.reduceToNat, Int.reduceLE, Int.reduceLT, reduceCtorEq, tte, num, boo, ints, tapeO, aV, aX]
    refine callx_of [[1], [], [], [1]] [] rfl (k2) (by first | (simp; done) | (simp [rowsOf_length]; done) | (simp [rowsOf_length]; omega)) (by first | (simp only [ends, ite_true, ite_false, reduceIte, Nat.reduceEqDiff, Nat.reduceLeDiff, Nat.reduceLT, Nat.reduceAdd, reduceCtorEq, num, boo, ints, tapeO, aV, aX, num, boo, str, aE_eq, aV]; done) | simp [ends, ite_true, ite_false, reduceIte, Nat.reduceEqDiff, Nat.reduceLeDiff, Nat.reduceLT, Nat.reduceAdd, reduceCtorEq, num, boo, ints, tapeO, aV, aX, num, boo, str, aE_eq, aV]) (by first | rfl | (simp only [ends, ite_true, ite_false, reduceIte, Nat.reduceEqDiff, Nat.reduceLeDiff, Nat.reduceLT, Nat.reduceAdd, reduceCtorEq, num, boo, ints, tapeO, aV, aX, num, boo, str, aE_eq, aV]; done) | simp [ends, ite_true, ite_false, reduceIte, Nat.reduceEqDiff, Nat.reduceLeDiff, Nat.reduceLT, Nat.reduceAdd, reduceCtorEq, num, boo, ints, tapeO, aV, aX, num, boo, str, aE_eq, aV]) (by simp only [ends, ite_true, ite_false, reduceIte, Nat.reduceEqDiff, Nat.reduceLeDiff, Nat.reduceLT, Nat.reduceAdd, reduceCtorEq, num, boo, ints, tapeO, aV, aX]) (by simp [idsOk, lookO, updO, ren1]) ?_
    simp -implicitDefEqProofs only [↓steps, push_cast, reduceIte, Nat.reduceEqDiff, Nat.reduceAdd, Nat.reduceMul, Nat.reduceLT, Nat.reduceLeDiff, Int.reduceToNat, Int.reduceLE, Int.reduceLT, reduceCtorEq, tte, num, boo, ints, tapeO, aV, aX]
    refine callx_of [[1], [], [], [1]] [] rfl (k3) (by first | (simp; done) | (simp [rowsOf_length]; done) | (simp [rowsOf_length]; omega)) (by first | (simp only [ends, ite_true, ite_false, reduceIte, Nat.reduceEqDiff, Nat.reduceLeDiff, Nat.reduceLT, Nat.reduceAdd, reduceCtorEq, num, boo, ints, tapeO, aV, aX, num, boo, str, aE_eq, aV]; done) | simp [ends, ite_true, ite_false, reduceIte, Nat.reduceEqDiff, Nat.reduceLeDiff, Nat.reduceLT, Nat.reduceAdd, reduceCtorEq, num, boo, ints, tapeO, aV, aX, num, boo, str, aE_eq, aV]) (by first | rfl | (simp only [ends, ite_true, ite_false, reduceIte, Nat.reduceEqDiff, Nat.reduceLeDiff, Nat.reduceLT, Nat.reduceAdd, reduceCtorEq, num, boo, ints, tapeO, aV, aX, num, boo, str, aE_eq, aV]; done) | simp [ends, ite_true, ite_false, reduceIte, Nat.reduceEqDiff, Nat.reduceLeDiff, Nat.reduceLT, Nat.reduceAdd, reduceCtorEq, num, boo, ints, tapeO, aV, aX, num, boo, str, aE_eq, aV]) (by simp only [ends, ite_true, ite_false, reduceIte, Nat.reduceEqDiff, Nat.reduceLeDiff, Nat.reduceLT, Nat.reduceAdd, reduceCtorEq, num, boo, ints, tapeO, aV, aX]) (by simp [idsOk, lookO, updO, ren1]) ?_
    simp -implicitDefEqProofs only [↓steps, push_cast, reduceIte, Nat.reduceEqDiff, Nat.reduceAdd, Nat.reduceMul, Nat.reduceLT, Nat.reduceLeDiff, Int.reduceToNat, Int.reduceLE, Int.reduceLT, reduceCtorEq, tte, num, boo, ints, tapeO, aV, aX]
    refine callx_of [[1], [], [], [1]] [] rfl (k4) (by first | (simp; done) | (simp [rowsOf_length]; done) | (simp [rowsOf_length]; omega)) (by first | (simp only [ends, ite_true, ite_false, reduceIte, Nat.reduceEqDiff, Nat.reduceLeDiff, Nat.reduceLT, Nat.reduceAdd, reduceCtorEq, num, boo, ints, tapeO, aV, aX, num, boo, str, aE_eq, aV]; done) | simp [ends, ite_true, ite_false, reduceIte, Nat.reduceEqDiff, Nat.reduceLeDiff, Nat.reduceLT, Nat.reduceAdd, reduceCtorEq, num, boo, ints, tapeO, aV, aX, num, boo, str, aE_eq, aV]) (by first | rfl | (simp only [ends, ite_true, ite_false, reduceIte, Nat.reduceEqDiff, Nat.reduceLeDiff, Nat.reduceLT, Nat.reduceAdd, reduceCtorEq, num, boo, ints, tapeO, aV, aX, num, boo, str, aE_eq, aV]; done) | simp [ends, ite_true, ite_false, reduceIte, Nat.reduceEqDiff, Nat.reduceLeDiff, Nat.reduceLT, Nat.reduceAdd, reduceCtorEq, num, boo, ints, tapeO, aV, aX, num, boo, str, aE_eq, aV]) (by simp only [ends, ite_true, ite_false, reduceIte, Nat.reduceEqDiff, Nat.reduceLeDiff, Nat.reduceLT, Nat.reduceAdd, reduceCtorEq, num, boo, ints, tapeO, aV, aX]) (by simp [idsOk, lookO, updO, ren1]) ?_
    simp -implicitDefEqProofs only [↓steps, push_cast, reduceIte, Nat.reduceEqDiff, Nat.reduceAdd, Nat.reduceMul, Nat.reduceLT, Nat.reduceLeDiff, Int.reduceToNat, Int.reduceLE, Int.reduceLT, reduceCtorEq, tte, num, boo, ints, tapeO, aV, aX]
    refine callx_of [[], []] [] rfl (c6 g1) (by first | (simp; done) | (simp [rowsOf_length]; done) | (simp [rowsOf_length]; omega)) (by first | (simp only [ends, ite_true, ite_false, reduceIte, Nat.reduceEqDiff, Nat.reduceLeDiff, Nat.reduceLT, Nat.reduceAdd, reduceCtorEq, num, boo, ints, tapeO, aV, aX, num, boo, str, aE_eq, aV]; done) | simp [ends, ite_true, ite_false, reduceIte, Nat.reduceEqDiff, Nat.reduceLeDiff, Nat.reduceLT, Nat.reduceAdd, reduceCtorEq, num, boo, ints, tapeO, aV, aX, num, boo, str, aE_eq, aV]) (by first | rfl | (simp only [ends, ite_true, ite_false, reduceIte, Nat.reduceEqDiff, Nat.reduceLeDiff, Nat.reduceLT, Nat.reduceAdd, reduceCtorEq, num, boo, ints, tapeO, aV, aX, num, boo, str, aE_eq, aV]; done) | simp [ends, ite_true, ite_false, reduceIte, Nat.reduceEqDiff, Nat.reduceLeDiff, Nat.reduceLT, Nat.reduceAdd, reduceCtorEq, num, boo, ints, tapeO, aV, aX, num, boo, str, aE_eq, aV]) (by simp only [ends, ite_true, ite_false, reduceIte, Nat.reduceEqDiff, Nat.reduceLeDiff, Nat.reduceLT, Nat.reduceAdd, reduceCtorEq, num, boo, ints, tapeO, aV, aX]) (by simp [idsOk, lookO, updO, ren1]) ?_
    simp -implicitDefEqProofs only [↓steps, push_cast, reduceIte, Nat.reduceEqDiff, Nat.reduceAdd, Nat.reduceMul, Nat.reduceLT, Nat.reduceLeDiff, Int.reduceToNat, Int.reduceLE, Int.reduceLT, reduceCtorEq, tte, num, boo, ints, tapeO, aV, aX]
    refine callx_of [[], []] [] rfl (c6 g2) (by first | (simp; done) | (simp [rowsOf_length]; done) | (simp [rowsOf_length]; omega)) (by first | (simp only [ends, ite_true, ite_false, reduceIte, Nat.reduceEqDiff, Nat.reduceLeDiff, Nat.reduceLT, Nat.reduceAdd, reduceCtorEq, num, boo, ints, tapeO, aV, aX, num, boo, str, aE_eq, aV]; done) | simp [ends, ite_true, ite_false, reduceIte, Nat.reduceEqDiff, Nat.reduceLeDiff, Nat.reduceLT, Nat.reduceAdd, reduceCtorEq, num, boo, ints, tapeO, aV, aX, num, boo, str, aE_eq, aV]) (by first | rfl | (simp only [ends, ite_true, ite_false, reduceIte, Nat.reduceEqDiff, Nat.reduceLeDiff, Nat.reduceLT, Nat.reduceAdd, reduceCtorEq, num, boo, ints, tapeO, aV, aX, num, boo, str, aE_eq, aV]; done) | simp [ends, ite_true, ite_false, reduceIte, Nat.reduceEqDiff, Nat.reduceLeDiff, Nat.reduceLT, Nat.reduceAdd, reduceCtorEq, num, boo, ints, tapeO, aV, aX, num, boo, str, aE_eq, aV]) (by simp only [ends, ite_true, ite_false, reduceIte, Nat.reduceEqDiff, Nat.reduceLeDiff, Nat.reduceLT, Nat.reduceAdd, reduceCtorEq, num, boo, ints, tapeO, aV, aX]) (by simp [idsOk, lookO, updO, ren1]) ?_
    simp -implicitDefEqProofs only [↓steps, push_cast, reduceIte, Nat.reduceEqDiff, Nat.reduceAdd, Nat.reduceMul, Nat.reduceLT, Nat.reduceLeDiff, Int.reduceToNat, Int.reduceLE, Int.reduceLT, reduceCtorEq, tte, num, boo, ints, tapeO, aV, aX]
    refine callx_of [[1]] [] rfl (s1) (by first | (simp; done) | (simp [rowsOf_length]; done) | (simp [rowsOf_length]; omega)) (by first | (simp only [ends, ite_true, ite_false, reduceIte, Nat.reduceEqDiff, Nat.reduceLeDiff, Nat.reduceLT, Nat.reduceAdd, reduceCtorEq, num, boo, ints, tapeO, aV, aX, num, boo, str, aE_eq, aV]; done) | simp [ends, ite_true, ite_false, reduceIte, Nat.reduceEqDiff, Nat.reduceLeDiff, Nat.reduceLT, Nat.reduceAdd, reduceCtorEq, num, boo, ints, tapeO, aV, aX, num, boo, str, aE_eq, aV]) (by first | rfl | (simp only [ends, ite_true, ite_false, reduceIte, Nat.reduceEqDiff, Nat.reduceLeDiff, Nat.reduceLT, Nat.reduceAdd, reduceCtorEq, num, boo, ints, tapeO, aV, aX, num, boo, str, aE_eq, aV]; done) | simp [ends, ite_true, ite_false, reduceIte, Nat.reduceEqDiff, Nat.reduceLeDiff, Nat.reduceLT, Nat.reduceAdd, reduceCtorEq, num, boo, ints, tapeO, aV, aX, num, boo, str, aE_eq, aV]) (by simp only [ends, ite_true, ite_false, reduceIte, Nat.reduceEqDiff, Nat.reduceLeDiff, Nat.reduceLT, Nat.reduceAdd, reduceCtorEq, num, boo, ints, tapeO, aV, aX]) (by simp [idsOk, lookO, updO, ren1]) ?_
    simp -implicitDefEqProofs only [aS, ↓steps, push_cast, reduceIte, Nat.reduceEqDiff, Nat.reduceAdd, Nat.reduceMul, Nat.reduceLT, Nat.reduceLeDiff, Int.reduceToNat, Int.reduceLE, Int.reduceLT, reduceCtorEq, tte, num, boo, ints, tapeO, aV, aX]
    refine callx_of [[1]] [] rfl (s2) (by first | (simp; done) | (simp [rowsOf_length]; done) | (simp [rowsOf_length]; omega)) (by first | (simp only [ends, ite_true, ite_false, reduceIte, Nat.reduceEqDiff, Nat.reduceLeDiff, Nat.reduceLT, Nat.reduceAdd, reduceCtorEq, num, boo, ints, tapeO, aV, aX, num, boo, str, aE_eq, aV]; done) | simp [ends, ite_true, ite_false, reduceIte, Nat.reduceEqDiff, Nat.reduceLeDiff, Nat.reduceLT, Nat.reduceAdd, reduceCtorEq, num, boo, ints, tapeO, aV, aX, num, boo, str, aE_eq, aV]) (by first | rfl | (simp only [ends, ite_true, ite_false, reduceIte, Nat.reduceEqDiff, Nat.reduceLeDiff, Nat.reduceLT, Nat.reduceAdd, reduceCtorEq, num, boo, ints, tapeO, aV, aX, num, boo, str, aE_eq, aV]; done) | simp [ends, ite_true, ite_false, reduceIte, Nat.reduceEqDiff, Nat.reduceLeDiff, Nat.reduceLT, Nat.reduceAdd, reduceCtorEq, num, boo, ints, tapeO, aV, aX, num, boo, str, aE_eq, aV]) (by simp only [ends, ite_true, ite_false, reduceIte, Nat.reduceEqDiff, Nat.reduceLeDiff, Nat.reduceLT, Nat.reduceAdd, reduceCtorEq, num, boo, ints, tapeO, aV, aX]) (by simp [idsOk, lookO, updO, ren1]) ?_
    simp -implicitDefEqProofs only [aS, ↓steps, push_cast, reduceIte, Nat.reduceEqDiff, Nat.reduceAdd, Nat.reduceMul, Nat.reduceLT, Nat.reduceLeDiff, Int.reduceToNat, Int.reduceLE, Int.reduceLT, reduceCtorEq, tte, num, boo, ints, tapeO, aV, aX]
    have s5 := c7 S s3 s4
    simp only [aS] at s5
    refine callx_of [[6], [6]] [] rfl (s5) (by first | (simp; done) | (simp [rowsOf_length]; done) | (simp [rowsOf_length]; omega)) (by first | (simp only [ends, ite_true, ite_false, reduceIte, Nat.reduceEqDiff, Nat.reduceLeDiff, Nat.reduceLT, Nat.reduceAdd, reduceCtorEq, num, boo, ints, tapeO, aV, aX, num, boo, str, aE_eq, aV]; done) | simp [ends, ite_true, ite_false, reduceIte, Nat.reduceEqDiff, Nat.reduceLeDiff, Nat.reduceLT, Nat.reduceAdd, reduceCtorEq, num, boo, ints, tapeO, aV, aX, num, boo, str, aE_eq, aV]) (by first | rfl | (simp only [ends, ite_true, ite_false, reduceIte, Nat.reduceEqDiff, Nat.reduceLeDiff, Nat.reduceLT, Nat.reduceAdd, reduceCtorEq, num, boo, ints, tapeO, aV, aX, num, boo, str, aE_eq, aV]; done) | simp [ends, ite_true, ite_false, reduceIte, Nat.reduceEqDiff, Nat.reduceLeDiff, Nat.reduceLT, Nat.reduceAdd, reduceCtorEq, num, boo, ints, tapeO, aV, aX, num, boo, str, aE_eq, aV]) (by simp only [ends, ite_true, ite_false, reduceIte, Nat.reduceEqDiff, Nat.reduceLeDiff, Nat.reduceLT, Nat.reduceAdd, reduceCtorEq, num, boo, ints, tapeO, aV, aX]) (by simp [idsOk, lookO, updO, ren1]) ?_
    simp -implicitDefEqProofs only [↓steps, push_cast, reduceIte, Nat.reduceEqDiff, Nat.reduceAdd, Nat.reduceMul, Nat.reduceLT, Nat.reduceLeDiff, Int.reduceToNat, Int.reduceLE, Int.reduceLT, reduceCtorEq, tte, num, boo, ints, tapeO, aV, aX]
    refine callx_of [] [] rfl (c4) (by first | (simp; done) | (simp [rowsOf_length]; done) | (simp [rowsOf_length]; omega)) (by first | (simp only [ends, ite_true, ite_false, reduceIte, Nat.reduceEqDiff, Nat.reduceLeDiff, Nat.reduceLT, Nat.reduceAdd, reduceCtorEq, num, boo, ints, tapeO, aV, aX, num, boo, str, aE_eq, aV]; done) | simp [ends, ite_true, ite_false, reduceIte, Nat.reduceEqDiff, Nat.reduceLeDiff, Nat.reduceLT, Nat.reduceAdd, reduceCtorEq, num, boo, ints, tapeO, aV, aX, num, boo, str, aE_eq, aV]) (by first | rfl | (simp only [ends, ite_true, ite_false, reduceIte, Nat.reduceEqDiff, Nat.reduceLeDiff, Nat.reduceLT, Nat.reduceAdd, reduceCtorEq, num, boo, ints, tapeO, aV, aX, num, boo, str, aE_eq, aV]; done) | simp [ends, ite_true, ite_false, reduceIte, Nat.reduceEqDiff, Nat.reduceLeDiff, Nat.reduceLT, Nat.reduceAdd, reduceCtorEq, num, boo, ints, tapeO, aV, aX, num, boo, str, aE_eq, aV]) (by simp only [ends, ite_true, ite_false, reduceIte, Nat.reduceEqDiff, Nat.reduceLeDiff, Nat.reduceLT, Nat.reduceAdd, reduceCtorEq, num, boo, ints, tapeO, aV, aX]) (by simp [idsOk, lookO, updO, ren1]) ?_
    simp -implicitDefEqProofs only [↓steps, push_cast, reduceIte, Nat.reduceEqDiff, Nat.reduceAdd, Nat.reduceMul, Nat.reduceLT, Nat.reduceLeDiff, Int.reduceToNat, Int.reduceLE, Int.reduceLT, reduceCtorEq, tte, num, boo, ints, tapeO, aV, aX]
    refine retx_of [0] rfl trivial trivial rfl rfl trivial ?_
    simp only [ends, ite_true, ite_false, reduceIte, Nat.reduceEqDiff, Nat.reduceLeDiff, Nat.reduceLT, Nat.reduceAdd, reduceCtorEq, num, boo, ints, tapeO, aV, aX]
end Go.Proofs.Ytcpaofpnabiggaa

namespace Go.Proofs.Ytcpaofpnabiggaa.randomTape
open Go.ChangeShapes Go.WideShapes Go.ChangeAt Go.RowKit Go.Am
set_option linter.unusedVariables false
set_option linter.unusedSimpArgs false

theorem own : ownKnob Try.prog.godebug = none := by kernel_rfl
theorem laidOut : laidOutB Try.prog = true := by kernel_rfl
theorem cells3 : Try.prog.cellsOf 3 = 1 := by kernel_rfl
theorem readable : (Try.f3.params.toList.all fun t => Try.prog.readableRec t && decide (t < Try.prog.types.size)) = true := by rw [Try.params3]; kernel_rfl

theorem i64_of {x : Int} (h : (Lit.int .i64 x).wf = true) : i64 x := by
  have : -9223372036854775808 ≤ x ∧ x ≤ 9223372036854775807 := by simpa [Lit.wf, IntKind.min, IntKind.max, IntKind.signed, IntKind.bits] using h
  unfold i64
  omega

theorem contract (H : Type) (enc : TypeId × Value → H) (W : World) (base : Nat) (args : Array Value) (ds gs : List (DataW H)) (before : List MemPlace)
    (hval : ∀ (j : Nat) t v, Try.f3.params[j]? = some t → args[j]? = some v → Value.okWide Try.prog W .any base t v)
    (hW : DataW.Whole enc Try.prog Try.f3.params.toList Rows.randomTapeSpec.vars false W args.toList ds gs before) :
    Calls Try.prog 3 args W fun e W' => ∃ v, e = .returned v ∧ Rows.randomTapeSpec.post enc Try.prog Try.f3 false true false false W args v W' := by
  have hW' := hW
  obtain ⟨p, q, hA0, hV, rfl, hfz, hnd⟩ := hW
  have hA : DataW.TrodAll enc Try.prog W 0 (fun _ => true) true Try.f3.params.toList args.toList ds p := hA0
  rw [Try.params3] at hA hval
  obtain ⟨v0, vs0, d0, ds0, p0, q0, hargs, rfl, rfl, h0, r0⟩ := trodAll_cons hA
  obtain ⟨v1, vs1, d1, ds1, p1, q1, rfl, rfl, rfl, h1, r1⟩ := trodAll_cons r0
  obtain ⟨v2, vs2, d2, ds2, p2, q2, rfl, rfl, rfl, h2, r2⟩ := trodAll_cons r1
  obtain ⟨rfl, rfl, rfl⟩ := trodAll_nil r2
  obtain rfl : args = #[v0, v1, v2] := by cases args; simp_all
  obtain ⟨xs, wx, rx, _⟩ := open_sl Try.underlying22 Try.underlying3 cells3 (hval 0 22 v0 rfl rfl) h0
  obtain ⟨ys, wy, ry, _⟩ := open_sl Try.underlying22 Try.underlying3 cells3 (hval 1 22 v1 rfl rfl) h1
  obtain ⟨tm, rfl, rfl, rfl, wt⟩ := open_int Try.underlying23 (hval 2 23 v2 rfl rfl) h2
  have ht : -128 ≤ tm ∧ tm ≤ 127 := by simpa [Lit.wf, IntKind.min, IntKind.max, IntKind.signed, IntKind.bits] using wt
  have hr : repL (E0 W) [ints xs, ints ys, .d (.lit (.int .i8 tm))] [v0, v1, .int .i8 tm] := repL_mk rx (repL_mk ry (repL_mk (repL_lit rfl) repL_mk0))
  refine ((c3 (fun x h => i64_of (wx x h)) (fun x h => i64_of (wy x h)) ht).run hr).mono fun e W' ⟨he, hb⟩ => ?_
  exact ⟨_, he, post_true hW' rfl laidOut readable rfl Try.underlying4 rfl hb⟩

set_option maxRecDepth 100000 in
theorem lifted (os : Os) (started : os.Started) (H : Type) (enc : TypeId × Value → H) :
    ReturnsInHanded {} Try.checked os 3 .any (Rows.randomTapeSpec.pre6 enc Try.prog Try.f3 Rows.randomTapeRow.domain false) (Rows.randomTapeSpec.post enc Try.prog Try.f3 false true false false) := by
  refine returnsInHanded_of_change (C := Try.checked) own started (by kernel_rfl) Try.func3
    (ChangeSpec.witness6 (enc := enc) (C := Try.checked) false ⟨#[], #[.slice none 0 0, .slice none 0 0, .int .i8 0], []⟩ 8 (by kernel_rfl) (by kernel_rfl) (by kernel_rfl) (by kernel_rfl)) ?_
  intro W base args ds gs before hval hW _ _
  exact contract H enc W base args ds gs before hval hW

/-- Whatever the two tapes and the factor are, the law of tapes says true. -/
theorem proved : Rows.RandomTapeSaid :=
  OpenClaim.holds_of_wide 3 Try.f3 rfl rfl rfl rfl rfl rfl rfl ⟨rfl, rfl, rfl, rfl, rfl⟩ rfl rfl rfl rfl rfl (by kernel_rfl) Try.func3 (by kernel_rfl)
    (of_decide_eq_true (by kernel_rfl)) (by unfold Func.isWrapper; first | (rw [if_pos (by decide +kernel)]; kernel_rfl) | (rw [if_neg (by decide +kernel)]; exact ⟨rfl, rfl⟩))
    (fun os started H enc _ => lifted os started H enc)
end Go.Proofs.Ytcpaofpnabiggaa.randomTape
