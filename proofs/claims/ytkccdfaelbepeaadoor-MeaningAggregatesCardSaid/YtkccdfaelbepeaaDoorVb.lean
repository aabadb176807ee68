/- Any aggregate over any rows is what the specification says: a proof over an abstract machine of our own (part Vb) -/
import Derived.Test.YtkccdfaelbepeaaDoorW0
import Derived.Shelf.SlSortCmp.NoneTotal
import Derived.Test.YtkccdfaelbepeaaDoorVa
set_option linter.all false

namespace Go.Proofs.YtkccdfaelbepeaaDoor
open Go.Proofs Go.Shelf
def Tryd.sortV_ren : Go.Shelf.Ren := ⟨fun | 6 => 21 | 15 => 44 | 14 => 43 | 28 => 101 | 29 => 102 | 20 => 93 | 21 => 94 | 22 => 95 | 23 => 96 | 24 => 97 | 25 => 98 | 26 => 99 | 27 => 100 | 46 => 128 | 47 => 129 | 48 => 130 | 49 => 131 | 50 => 132 | 57 => 141 | n => n, fun | 22 => 54 | 24 => 42 | 25 => 63 | 3 => 3 | 39 => 84 | 0 => 0 | 53 => 127 | 55 => 129 | 4 => 4 | 46 => 121 | 45 => 120 | 50 => 69 | 5 => 5 | 9 => 9 | 66 => 148 | 70 => 152 | 76 => 158 | 77 => 159 | n => n, fun | n => n⟩
theorem Tryd.sortV : Go.Proofs.SlLaysF0.n6 Tryd.prog Tryd.sortV_ren := {
  mixed := by kernel_rfl
  f6 := ⟨Tryd.f21.name, by decide, Tryd.func21.trans (congrArg some (by kernel_rfl))⟩
  f14 := ⟨Tryd.f43.name, by decide, Tryd.func43.trans (congrArg some (by kernel_rfl))⟩
  f15 := Tryd.func44.trans (congrArg some (by kernel_rfl))
  f20 := ⟨Tryd.f93.name, by decide, Tryd.func93.trans (congrArg some (by kernel_rfl))⟩
  f21 := ⟨Tryd.f94.name, by decide, Tryd.func94.trans (congrArg some (by kernel_rfl))⟩
  f22 := ⟨Tryd.f95.name, by decide, Tryd.func95.trans (congrArg some (by kernel_rfl))⟩
  f23 := ⟨Tryd.f96.name, by decide, Tryd.func96.trans (congrArg some (by kernel_rfl))⟩
  f24 := ⟨Tryd.f97.name, by decide, Tryd.func97.trans (congrArg some (by kernel_rfl))⟩
  f25 := ⟨Tryd.f98.name, by decide, Tryd.func98.trans (congrArg some (by kernel_rfl))⟩
  f26 := ⟨Tryd.f99.name, by decide, Tryd.func99.trans (congrArg some (by kernel_rfl))⟩
  f27 := ⟨Tryd.f100.name, by decide, Tryd.func100.trans (congrArg some (by kernel_rfl))⟩
  f28 := Tryd.func101.trans (congrArg some (by kernel_rfl))
  f29 := Tryd.func102.trans (congrArg some (by kernel_rfl))
  f46 := ⟨Tryd.f128.name, by decide, Tryd.func128.trans (congrArg some (by kernel_rfl))⟩
  f47 := Tryd.func129.trans (congrArg some (by kernel_rfl))
  f48 := Tryd.func130.trans (congrArg some (by kernel_rfl))
  f49 := ⟨Tryd.f131.name, by decide, Tryd.func131.trans (congrArg some (by kernel_rfl))⟩
  f50 := ⟨Tryd.f132.name, by decide, Tryd.func132.trans (congrArg some (by kernel_rfl))⟩
  f57 := ⟨Tryd.f141.name, by decide, Tryd.func141.trans (congrArg some (by kernel_rfl))⟩
  t0 := Tryd.underlying0
  a0 := Tryd.isAgg0
  z0 := Tryd.sizeOf0
  v0 := Tryd.zeroValue0
  t3 := Tryd.underlying3
  a3 := Tryd.isAgg3
  z3 := Tryd.sizeOf3
  v3 := Tryd.zeroValue3
  t4 := Tryd.underlying4
  a4 := Tryd.isAgg4
  z4 := Tryd.sizeOf4
  v4 := Tryd.zeroValue4
  t5 := Tryd.underlying5
  a5 := Tryd.isAgg5
  z5 := Tryd.sizeOf5
  v5 := Tryd.zeroValue5
  t9 := Tryd.underlying9
  a9 := Tryd.isAgg9
  z9 := Tryd.sizeOf9
  v9 := Tryd.zeroValue9
  t22 := Tryd.underlying54
  a22 := Tryd.isAgg54
  z22 := Tryd.sizeOf54
  v22 := Tryd.zeroValue54
  t25 := Tryd.underlying63
  a25 := Tryd.isAgg63
  z25 := Tryd.sizeOf63
  v25 := Tryd.zeroValue63
  t39 := Tryd.underlying84
  a39 := Tryd.isAgg84
  z39 := Tryd.sizeOf84
  v39 := Tryd.zeroValue84
  t45 := Tryd.underlying120
  a45 := Tryd.isAgg120
  z45 := Tryd.sizeOf120
  v45 := Tryd.zeroValue120
  t46 := Tryd.underlying121
  a46 := Tryd.isAgg121
  z46 := Tryd.sizeOf121
  v46 := Tryd.zeroValue121
  t50 := Tryd.underlying69
  a50 := Tryd.isAgg69
  z50 := Tryd.sizeOf69
  v50 := Tryd.zeroValue69
  t53 := Tryd.underlying127
  a53 := Tryd.isAgg127
  z53 := Tryd.sizeOf127
  v53 := Tryd.zeroValue127
  t55 := Tryd.underlying129
  a55 := Tryd.isAgg129
  z55 := Tryd.sizeOf129
  v55 := Tryd.zeroValue129
  t66 := Tryd.underlying148
  a66 := Tryd.isAgg148
  z66 := Tryd.sizeOf148
  v66 := Tryd.zeroValue148
  t70 := Tryd.underlying152
  a70 := Tryd.isAgg152
  z70 := Tryd.sizeOf152
  v70 := Tryd.zeroValue152
  t76 := Tryd.underlying158
  a76 := Tryd.isAgg158
  z76 := Tryd.sizeOf158
  v76 := Tryd.zeroValue158
  t77 := Tryd.underlying159
  a77 := Tryd.isAgg159
  z77 := Tryd.sizeOf159
  v77 := Tryd.zeroValue159 }
end Go.Proofs.YtkccdfaelbepeaaDoor

namespace Go.Proofs.YtkccdfaelbepeaaDoor
open Go.Am
set_option linter.unusedVariables false
set_option maxRecDepth 100000
set_option maxHeartbeats 4000000

/-- A value as a result. -/
theorem ret_v {p : Prop} {k n : Int} {s : ByteArray} {t : List (Nat × A)} {o : List (Nat × Ob)} {R : A} (hp : p) (hr : aV ⟨k, n, s⟩ = R) (ho : keepIn (inO []) o) :
    retx (some (p, .agg [.d (.lit (.int .i64 k)), .d (.lit (.int .i64 n)), .d (.lit (.string s))])) ⟨t, o⟩ R [] := by
  subst hr
  exact retx_of [0, 0, 0] rfl hp (by simp) rfl rfl trivial ho

theorem tabN : Tab.tab 1 = some [.lit (.int .i64 0), .lit (.int .i64 0), .lit (.string ByteArray.empty)] := rfl
def nullV : Val := ⟨0, 0, ByteArray.empty⟩
def boolV (n : Int) : Val := if n ≠ 0 ∧ n ≠ 1 then nullV else ⟨2, n, ByteArray.empty⟩
def ofV (b : Bool) : Val := ⟨2, if b then 1 else 0, ByteArray.empty⟩
def truthM (v : Val) : Int := if v.kind ≠ 2 then 2 else if v.num = 1 then 1 else 0

theorem c_bool (n : Int) : ACall Tryd.prog 92 [num n] [] (aV (boolV n)) [] := by
  refine ACall.enter mixed ttok Tryd.func92 rfl rfl _ Tryd.ntmps92 (Nat.le_of_ble_eq_true rfl) (by kernel_rfl) _ (congrArg Array.toList Tryd.results92) ?_
  generalize hr : aV (boolV n) = R
  simp -implicitDefEqProofs only [argT, tabN, ↓steps, push_cast, reduceIte, Nat.reduceEqDiff, Nat.reduceAdd, Nat.reduceMul, Nat.reduceLT, Nat.reduceLeDiff, Int.reduceToNat, Int.reduceLE, Int.reduceLT, reduceCtorEq, tte, num, boo, str, ints, aV, aTab, aInst, aS, aT, aC]
  refine bcase_intro (fun h1 => ?_) fun h1 => ?_
  · refine bcase_intro (fun h2 => ?_) fun h2 => ?_
    · exact ret_v (by first | trivial | (simp; done) | (simp; omega)) (by rw [← hr] <;> first | rfl | (simp [boolV, nullV]; done) | (simp_all [boolV, nullV]; done)) (by simp only [ends, ite_true, ite_false, reduceIte, Nat.reduceEqDiff, Nat.reduceLeDiff, Nat.reduceLT, Nat.reduceAdd, reduceCtorEq, num, boo, str, ints, aV, aTab, aInst, aS, aT, aC])
    · exact ret_v (by first | trivial | (simp; done) | (simp; omega)) (by rw [← hr] <;> first | rfl | (simp [boolV, nullV]; done) | (simp_all [boolV, nullV]; done)) (by simp only [ends, ite_true, ite_false, reduceIte, Nat.reduceEqDiff, Nat.reduceLeDiff, Nat.reduceLT, Nat.reduceAdd, reduceCtorEq, num, boo, str, ints, aV, aTab, aInst, aS, aT, aC])
  · exact ret_v (by first | trivial | (simp; done) | (simp; omega)) (by rw [← hr] <;> first | rfl | (simp [boolV, nullV]; done) | (simp_all [boolV, nullV]; done)) (by simp only [ends, ite_true, ite_false, reduceIte, Nat.reduceEqDiff, Nat.reduceLeDiff, Nat.reduceLT, Nat.reduceAdd, reduceCtorEq, num, boo, str, ints, aV, aTab, aInst, aS, aT, aC])
theorem c_rbool (n : Int) : ACall Tryd.prog 109 [num n] [] (aV (boolV n)) [] := by
  refine ACall.enter mixed ttok Tryd.func109 rfl rfl _ Tryd.ntmps109 (Nat.le_of_ble_eq_true rfl) (by kernel_rfl) _ (congrArg Array.toList Tryd.results109) ?_
  generalize hr : aV (boolV n) = R
  simp -implicitDefEqProofs only [argT, tabN, ↓steps, push_cast, reduceIte, Nat.reduceEqDiff, Nat.reduceAdd, Nat.reduceMul, Nat.reduceLT, Nat.reduceLeDiff, Int.reduceToNat, Int.reduceLE, Int.reduceLT, reduceCtorEq, tte, num, boo, str, ints, aV, aTab, aInst, aS, aT, aC]
  refine bcase_intro (fun h1 => ?_) fun h1 => ?_
  · refine bcase_intro (fun h2 => ?_) fun h2 => ?_
    · exact ret_v (by first | trivial | (simp; done) | (simp; omega)) (by rw [← hr] <;> first | rfl | (simp [boolV, nullV]; done) | (simp_all [boolV, nullV]; done)) (by simp only [ends, ite_true, ite_false, reduceIte, Nat.reduceEqDiff, Nat.reduceLeDiff, Nat.reduceLT, Nat.reduceAdd, reduceCtorEq, num, boo, str, ints, aV, aTab, aInst, aS, aT, aC])
    · exact ret_v (by first | trivial | (simp; done) | (simp; omega)) (by rw [← hr] <;> first | rfl | (simp [boolV, nullV]; done) | (simp_all [boolV, nullV]; done)) (by simp only [ends, ite_true, ite_false, reduceIte, Nat.reduceEqDiff, Nat.reduceLeDiff, Nat.reduceLT, Nat.reduceAdd, reduceCtorEq, num, boo, str, ints, aV, aTab, aInst, aS, aT, aC])
  · exact ret_v (by first | trivial | (simp; done) | (simp; omega)) (by rw [← hr] <;> first | rfl | (simp [boolV, nullV]; done) | (simp_all [boolV, nullV]; done)) (by simp only [ends, ite_true, ite_false, reduceIte, Nat.reduceEqDiff, Nat.reduceLeDiff, Nat.reduceLT, Nat.reduceAdd, reduceCtorEq, num, boo, str, ints, aV, aTab, aInst, aS, aT, aC])

theorem c_truth (b : Bool) : ACall Tryd.prog 127 [boo b] [] (aV (ofV b)) [] := by
  refine ACall.enter mixed ttok Tryd.func127 rfl rfl _ Tryd.ntmps127 (Nat.le_of_ble_eq_true rfl) (by kernel_rfl) _ (congrArg Array.toList Tryd.results127) ?_
  generalize hr : aV (ofV b) = R
  simp -implicitDefEqProofs only [argT, ↓steps, push_cast, reduceIte, Nat.reduceEqDiff, Nat.reduceAdd, Nat.reduceMul, Nat.reduceLT, Nat.reduceLeDiff, Int.reduceToNat, Int.reduceLE, Int.reduceLT, reduceCtorEq, tte, num, boo, str, ints, aV, aTab, aInst, aS, aT, aC]
  refine bcase_intro (fun h1 => ?_) fun h1 => ?_
  · refine callx_of [[0]] [] rfl (c_bool 1) (by first | (simp; done) | (simp [rowsOf_length]; done) | (simp [rowsOf_length]; omega)) (by first | (simp only [ends, ite_true, ite_false, reduceIte, Nat.reduceEqDiff, Nat.reduceLeDiff, Nat.reduceLT, Nat.reduceAdd, reduceCtorEq, num, boo, str, ints, aV, aTab, aInst, aS, aT, aC, num, boo, str, aE_eq, aV]; done) | simp [ends, ite_true, ite_false, reduceIte, Nat.reduceEqDiff, Nat.reduceLeDiff, Nat.reduceLT, Nat.reduceAdd, reduceCtorEq, num, boo, str, ints, aV, aTab, aInst, aS, aT, aC, num, boo, str, aE_eq, aV]) (by first | rfl | (simp only [ends, ite_true, ite_false, reduceIte, Nat.reduceEqDiff, Nat.reduceLeDiff, Nat.reduceLT, Nat.reduceAdd, reduceCtorEq, num, boo, str, ints, aV, aTab, aInst, aS, aT, aC, num, boo, str, aE_eq, aV]; done) | simp [ends, ite_true, ite_false, reduceIte, Nat.reduceEqDiff, Nat.reduceLeDiff, Nat.reduceLT, Nat.reduceAdd, reduceCtorEq, num, boo, str, ints, aV, aTab, aInst, aS, aT, aC, num, boo, str, aE_eq, aV]) (by simp only [ends, ite_true, ite_false, reduceIte, Nat.reduceEqDiff, Nat.reduceLeDiff, Nat.reduceLT, Nat.reduceAdd, reduceCtorEq, num, boo, str, ints, aV, aTab, aInst, aS, aT, aC]) (by simp [idsOk, lookO, updO, ren1]) ?_
    simp -implicitDefEqProofs only [aV, ↓steps, push_cast, reduceIte, Nat.reduceEqDiff, Nat.reduceAdd, Nat.reduceMul, Nat.reduceLT, Nat.reduceLeDiff, Int.reduceToNat, Int.reduceLE, Int.reduceLT, reduceCtorEq, tte, num, boo, str, ints, aV, aTab, aInst, aS, aT, aC]
    exact ret_v (by first | trivial | (simp; done) | (simp; omega)) (by rw [← hr] <;> first | rfl | (simp [ofV, boolV]; done) | (simp_all [ofV, boolV]; done)) (by simp only [ends, ite_true, ite_false, reduceIte, Nat.reduceEqDiff, Nat.reduceLeDiff, Nat.reduceLT, Nat.reduceAdd, reduceCtorEq, num, boo, str, ints, aV, aTab, aInst, aS, aT, aC])
  · refine callx_of [[0]] [] rfl (c_bool 0) (by first | (simp; done) | (simp [rowsOf_length]; done) | (simp [rowsOf_length]; omega)) (by first | (simp only [ends, ite_true, ite_false, reduceIte, Nat.reduceEqDiff, Nat.reduceLeDiff, Nat.reduceLT, Nat.reduceAdd, reduceCtorEq, num, boo, str, ints, aV, aTab, aInst, aS, aT, aC, num, boo, str, aE_eq, aV]; done) | simp [ends, ite_true, ite_false, reduceIte, Nat.reduceEqDiff, Nat.reduceLeDiff, Nat.reduceLT, Nat.reduceAdd, reduceCtorEq, num, boo, str, ints, aV, aTab, aInst, aS, aT, aC, num, boo, str, aE_eq, aV]) (by first | rfl | (simp only [ends, ite_true, ite_false, reduceIte, Nat.reduceEqDiff, Nat.reduceLeDiff, Nat.reduceLT, Nat.reduceAdd, reduceCtorEq, num, boo, str, ints, aV, aTab, aInst, aS, aT, aC, num, boo, str, aE_eq, aV]; done) | simp [ends, ite_true, ite_false, reduceIte, Nat.reduceEqDiff, Nat.reduceLeDiff, Nat.reduceLT, Nat.reduceAdd, reduceCtorEq, num, boo, str, ints, aV, aTab, aInst, aS, aT, aC, num, boo, str, aE_eq, aV]) (by simp only [ends, ite_true, ite_false, reduceIte, Nat.reduceEqDiff, Nat.reduceLeDiff, Nat.reduceLT, Nat.reduceAdd, reduceCtorEq, num, boo, str, ints, aV, aTab, aInst, aS, aT, aC]) (by simp [idsOk, lookO, updO, ren1]) ?_
    simp -implicitDefEqProofs only [aV, ↓steps, push_cast, reduceIte, Nat.reduceEqDiff, Nat.reduceAdd, Nat.reduceMul, Nat.reduceLT, Nat.reduceLeDiff, Int.reduceToNat, Int.reduceLE, Int.reduceLT, reduceCtorEq, tte, num, boo, str, ints, aV, aTab, aInst, aS, aT, aC]
    exact ret_v (by first | trivial | (simp; done) | (simp; omega)) (by rw [← hr] <;> first | rfl | (simp [ofV, boolV]; done) | (simp_all [ofV, boolV]; done)) (by simp only [ends, ite_true, ite_false, reduceIte, Nat.reduceEqDiff, Nat.reduceLeDiff, Nat.reduceLT, Nat.reduceAdd, reduceCtorEq, num, boo, str, ints, aV, aTab, aInst, aS, aT, aC])
theorem c_etruth (b : Bool) : ACall Tryd.prog 88 [boo b] [] (aV (ofV b)) [] := by
  refine ACall.enter mixed ttok Tryd.func88 rfl rfl _ Tryd.ntmps88 (Nat.le_of_ble_eq_true rfl) (by kernel_rfl) _ (congrArg Array.toList Tryd.results88) ?_
  generalize hr : aV (ofV b) = R
  simp -implicitDefEqProofs only [argT, ↓steps, push_cast, reduceIte, Nat.reduceEqDiff, Nat.reduceAdd, Nat.reduceMul, Nat.reduceLT, Nat.reduceLeDiff, Int.reduceToNat, Int.reduceLE, Int.reduceLT, reduceCtorEq, tte, num, boo, str, ints, aV, aTab, aInst, aS, aT, aC]
  refine bcase_intro (fun h1 => ?_) fun h1 => ?_
  · refine callx_of [[0]] [] rfl (c_bool 1) (by first | (simp; done) | (simp [rowsOf_length]; done) | (simp [rowsOf_length]; omega)) (by first | (simp only [ends, ite_true, ite_false, reduceIte, Nat.reduceEqDiff, Nat.reduceLeDiff, Nat.reduceLT, Nat.reduceAdd, reduceCtorEq, num, boo, str, ints, aV, aTab, aInst, aS, aT, aC, num, boo, str, aE_eq, aV]; done) | simp [ends, ite_true, ite_false, reduceIte, Nat.reduceEqDiff, Nat.reduceLeDiff, Nat.reduceLT, Nat.reduceAdd, reduceCtorEq, num, boo, str, ints, aV, aTab, aInst, aS, aT, aC, num, boo, str, aE_eq, aV]) (by first | rfl | (simp only [ends, ite_true, ite_false, reduceIte, Nat.reduceEqDiff, Nat.reduceLeDiff, Nat.reduceLT, Nat.reduceAdd, reduceCtorEq, num, boo, str, ints, aV, aTab, aInst, aS, aT, aC, num, boo, str, aE_eq, aV]; done) | simp [ends, ite_true, ite_false, reduceIte, Nat.reduceEqDiff, Nat.reduceLeDiff, Nat.reduceLT, Nat.reduceAdd, reduceCtorEq, num, boo, str, ints, aV, aTab, aInst, aS, aT, aC, num, boo, str, aE_eq, aV]) (by simp only [ends, ite_true, ite_false, reduceIte, Nat.reduceEqDiff, Nat.reduceLeDiff, Nat.reduceLT, Nat.reduceAdd, reduceCtorEq, num, boo, str, ints, aV, aTab, aInst, aS, aT, aC]) (by simp [idsOk, lookO, updO, ren1]) ?_
    simp -implicitDefEqProofs only [aV, ↓steps, push_cast, reduceIte, Nat.reduceEqDiff, Nat.reduceAdd, Nat.reduceMul, Nat.reduceLT, Nat.reduceLeDiff, Int.reduceToNat, Int.reduceLE, Int.reduceLT, reduceCtorEq, tte, num, boo, str, ints, aV, aTab, aInst, aS, aT, aC]
    exact ret_v (by first | trivial | (simp; done) | (simp; omega)) (by rw [← hr] <;> first | rfl | (simp [ofV, boolV]; done) | (simp_all [ofV, boolV]; done)) (by simp only [ends, ite_true, ite_false, reduceIte, Nat.reduceEqDiff, Nat.reduceLeDiff, Nat.reduceLT, Nat.reduceAdd, reduceCtorEq, num, boo, str, ints, aV, aTab, aInst, aS, aT, aC])
  · refine callx_of [[0]] [] rfl (c_bool 0) (by first | (simp; done) | (simp [rowsOf_length]; done) | (simp [rowsOf_length]; omega)) (by first | (simp only [ends, ite_true, ite_false, reduceIte, Nat.reduceEqDiff, Nat.reduceLeDiff, Nat.reduceLT, Nat.reduceAdd, reduceCtorEq, num, boo, str, ints, aV, aTab, aInst, aS, aT, aC, num, boo, str, aE_eq, aV]; done) | simp [ends, ite_true, ite_false, reduceIte, Nat.reduceEqDiff, Nat.reduceLeDiff, Nat.reduceLT, Nat.reduceAdd, reduceCtorEq, num, boo, str, ints, aV, aTab, aInst, aS, aT, aC, num, boo, str, aE_eq, aV]) (by first | rfl | (simp only [ends, ite_true, ite_false, reduceIte, Nat.reduceEqDiff, Nat.reduceLeDiff, Nat.reduceLT, Nat.reduceAdd, reduceCtorEq, num, boo, str, ints, aV, aTab, aInst, aS, aT, aC, num, boo, str, aE_eq, aV]; done) | simp [ends, ite_true, ite_false, reduceIte, Nat.reduceEqDiff, Nat.reduceLeDiff, Nat.reduceLT, Nat.reduceAdd, reduceCtorEq, num, boo, str, ints, aV, aTab, aInst, aS, aT, aC, num, boo, str, aE_eq, aV]) (by simp only [ends, ite_true, ite_false, reduceIte, Nat.reduceEqDiff, Nat.reduceLeDiff, Nat.reduceLT, Nat.reduceAdd, reduceCtorEq, num, boo, str, ints, aV, aTab, aInst, aS, aT, aC]) (by simp [idsOk, lookO, updO, ren1]) ?_
    simp -implicitDefEqProofs only [aV, ↓steps, push_cast, reduceIte, Nat.reduceEqDiff, Nat.reduceAdd, Nat.reduceMul, Nat.reduceLT, Nat.reduceLeDiff, Int.reduceToNat, Int.reduceLE, Int.reduceLT, reduceCtorEq, tte, num, boo, str, ints, aV, aTab, aInst, aS, aT, aC]
    exact ret_v (by first | trivial | (simp; done) | (simp; omega)) (by rw [← hr] <;> first | rfl | (simp [ofV, boolV]; done) | (simp_all [ofV, boolV]; done)) (by simp only [ends, ite_true, ite_false, reduceIte, Nat.reduceEqDiff, Nat.reduceLeDiff, Nat.reduceLT, Nat.reduceAdd, reduceCtorEq, num, boo, str, ints, aV, aTab, aInst, aS, aT, aC])
theorem c_of (b : Bool) : ACall Tryd.prog 56 [boo b] [] (aV (ofV b)) [] := by
  refine ACall.enter mixed ttok Tryd.func56 rfl rfl _ Tryd.ntmps56 (Nat.le_of_ble_eq_true rfl) (by kernel_rfl) _ (congrArg Array.toList Tryd.results56) ?_
  generalize hr : aV (ofV b) = R
  simp -implicitDefEqProofs only [argT, ↓steps, push_cast, reduceIte, Nat.reduceEqDiff, Nat.reduceAdd, Nat.reduceMul, Nat.reduceLT, Nat.reduceLeDiff, Int.reduceToNat, Int.reduceLE, Int.reduceLT, reduceCtorEq, tte, num, boo, str, ints, aV, aTab, aInst, aS, aT, aC]
  refine bcase_intro (fun h1 => ?_) fun h1 => ?_
  · refine callx_of [[0]] [] rfl (c_rbool 1) (by first | (simp; done) | (simp [rowsOf_length]; done) | (simp [rowsOf_length]; omega)) (by first | (simp only [ends, ite_true, ite_false, reduceIte, Nat.reduceEqDiff, Nat.reduceLeDiff, Nat.reduceLT, Nat.reduceAdd, reduceCtorEq, num, boo, str, ints, aV, aTab, aInst, aS, aT, aC, num, boo, str, aE_eq, aV]; done) | simp [ends, ite_true, ite_false, reduceIte, Nat.reduceEqDiff, Nat.reduceLeDiff, Nat.reduceLT, Nat.reduceAdd, reduceCtorEq, num, boo, str, ints, aV, aTab, aInst, aS, aT, aC, num, boo, str, aE_eq, aV]) (by first | rfl | (simp only [ends, ite_true, ite_false, reduceIte, Nat.reduceEqDiff, Nat.reduceLeDiff, Nat.reduceLT, Nat.reduceAdd, reduceCtorEq, num, boo, str, ints, aV, aTab, aInst, aS, aT, aC, num, boo, str, aE_eq, aV]; done) | simp [ends, ite_true, ite_false, reduceIte, Nat.reduceEqDiff, Nat.reduceLeDiff, Nat.reduceLT, Nat.reduceAdd, reduceCtorEq, num, boo, str, ints, aV, aTab, aInst, aS, aT, aC, num, boo, str, aE_eq, aV]) (by simp only [ends, ite_true, ite_false, reduceIte, Nat.reduceEqDiff, Nat.reduceLeDiff, Nat.reduceLT, Nat.reduceAdd, reduceCtorEq, num, boo, str, ints, aV, aTab, aInst, aS, aT, aC]) (by simp [idsOk, lookO, updO, ren1]) ?_
    simp -implicitDefEqProofs only [aV, ↓steps, push_cast, reduceIte, Nat.reduceEqDiff, Nat.reduceAdd, Nat.reduceMul, Nat.reduceLT, Nat.reduceLeDiff, Int.reduceToNat, Int.reduceLE, Int.reduceLT, reduceCtorEq, tte, num, boo, str, ints, aV, aTab, aInst, aS, aT, aC]
    exact ret_v (by first | trivial | (simp; done) | (simp; omega)) (by rw [← hr] <;> first | rfl | (simp [ofV, boolV]; done) | (simp_all [ofV, boolV]; done)) (by simp only [ends, ite_true, ite_false, reduceIte, Nat.reduceEqDiff, Nat.reduceLeDiff, Nat.reduceLT, Nat.reduceAdd, reduceCtorEq, num, boo, str, ints, aV, aTab, aInst, aS, aT, aC])
  · refine callx_of [[0]] [] rfl (c_rbool 0) (by first | (simp; done) | (simp [rowsOf_length]; done) | (simp [rowsOf_length]; omega)) (by first | (simp only [ends, ite_true, ite_false, reduceIte, Nat.reduceEqDiff, Nat.reduceLeDiff, Nat.reduceLT, Nat.reduceAdd, reduceCtorEq, num, boo, str, ints, aV, aTab, aInst, aS, aT, aC, num, boo, str, aE_eq, aV]; done) | simp [ends, ite_true, ite_false, reduceIte, Nat.reduceEqDiff, Nat.reduceLeDiff, Nat.reduceLT, Nat.reduceAdd, reduceCtorEq, num, boo, str, ints, aV, aTab, aInst, aS, aT, aC, num, boo, str, aE_eq, aV]) (by first | rfl | (simp only [ends, ite_true, ite_false, reduceIte, Nat.reduceEqDiff, Nat.reduceLeDiff, Nat.reduceLT, Nat.reduceAdd, reduceCtorEq, num, boo, str, ints, aV, aTab, aInst, aS, aT, aC, num, boo, str, aE_eq, aV]; done) | simp [ends, ite_true, ite_false, reduceIte, Nat.reduceEqDiff, Nat.reduceLeDiff, Nat.reduceLT, Nat.reduceAdd, reduceCtorEq, num, boo, str, ints, aV, aTab, aInst, aS, aT, aC, num, boo, str, aE_eq, aV]) (by simp only [ends, ite_true, ite_false, reduceIte, Nat.reduceEqDiff, Nat.reduceLeDiff, Nat.reduceLT, Nat.reduceAdd, reduceCtorEq, num, boo, str, ints, aV, aTab, aInst, aS, aT, aC]) (by simp [idsOk, lookO, updO, ren1]) ?_
    simp -implicitDefEqProofs only [aV, ↓steps, push_cast, reduceIte, Nat.reduceEqDiff, Nat.reduceAdd, Nat.reduceMul, Nat.reduceLT, Nat.reduceLeDiff, Int.reduceToNat, Int.reduceLE, Int.reduceLT, reduceCtorEq, tte, num, boo, str, ints, aV, aTab, aInst, aS, aT, aC]
    exact ret_v (by first | trivial | (simp; done) | (simp; omega)) (by rw [← hr] <;> first | rfl | (simp [ofV, boolV]; done) | (simp_all [ofV, boolV]; done)) (by simp only [ends, ite_true, ite_false, reduceIte, Nat.reduceEqDiff, Nat.reduceLeDiff, Nat.reduceLT, Nat.reduceAdd, reduceCtorEq, num, boo, str, ints, aV, aTab, aInst, aS, aT, aC])

theorem c_Truth (v : Val) : ACall Tryd.prog 41 [aV v] [] (num (truthM v)) [] := by
  refine ACall.enter mixed ttok Tryd.func41 rfl rfl _ Tryd.ntmps41 (Nat.le_of_ble_eq_true rfl) (by kernel_rfl) _ (congrArg Array.toList Tryd.results41) ?_
  generalize hr : num (truthM v) = R
  simp -implicitDefEqProofs only [argT, ↓steps, push_cast, reduceIte, Nat.reduceEqDiff, Nat.reduceAdd, Nat.reduceMul, Nat.reduceLT, Nat.reduceLeDiff, Int.reduceToNat, Int.reduceLE, Int.reduceLT, reduceCtorEq, tte, num, boo, str, ints, aV, aTab, aInst, aS, aT, aC]
  refine bcase_intro (fun h1 => ?_) fun h1 => ?_
  · exact ret_d trivial (by rw [← hr]; simp at h1; simp [truthM, h1, num]) (by simp only [ends, ite_true, ite_false, reduceIte, Nat.reduceEqDiff, Nat.reduceLeDiff, Nat.reduceLT, Nat.reduceAdd, reduceCtorEq, num, boo, str, ints, aV, aTab, aInst, aS, aT, aC])
  refine bcase_intro (fun h2 => ?_) fun h2 => ?_
  · exact ret_d trivial (by rw [← hr]; simp at h1 h2; simp [truthM, h1, h2, num]) (by simp only [ends, ite_true, ite_false, reduceIte, Nat.reduceEqDiff, Nat.reduceLeDiff, Nat.reduceLT, Nat.reduceAdd, reduceCtorEq, num, boo, str, ints, aV, aTab, aInst, aS, aT, aC])
  · exact ret_d trivial (by rw [← hr]; simp at h1 h2; simp [truthM, h1, h2, num]) (by simp only [ends, ite_true, ite_false, reduceIte, Nat.reduceEqDiff, Nat.reduceLeDiff, Nat.reduceLT, Nat.reduceAdd, reduceCtorEq, num, boo, str, ints, aV, aTab, aInst, aS, aT, aC])
theorem c_rTruth (v : Val) : ACall Tryd.prog 60 [aV v] [] (num (truthM v)) [] := by
  refine ACall.enter mixed ttok Tryd.func60 rfl rfl _ Tryd.ntmps60 (Nat.le_of_ble_eq_true rfl) (by kernel_rfl) _ (congrArg Array.toList Tryd.results60) ?_
  generalize hr : num (truthM v) = R
  simp -implicitDefEqProofs only [argT, ↓steps, push_cast, reduceIte, Nat.reduceEqDiff, Nat.reduceAdd, Nat.reduceMul, Nat.reduceLT, Nat.reduceLeDiff, Int.reduceToNat, Int.reduceLE, Int.reduceLT, reduceCtorEq, tte, num, boo, str, ints, aV, aTab, aInst, aS, aT, aC]
  refine bcase_intro (fun h1 => ?_) fun h1 => ?_
  · exact ret_d trivial (by rw [← hr]; simp at h1; simp [truthM, h1, num]) (by simp only [ends, ite_true, ite_false, reduceIte, Nat.reduceEqDiff, Nat.reduceLeDiff, Nat.reduceLT, Nat.reduceAdd, reduceCtorEq, num, boo, str, ints, aV, aTab, aInst, aS, aT, aC])
  refine bcase_intro (fun h2 => ?_) fun h2 => ?_
  · exact ret_d trivial (by rw [← hr]; simp at h1 h2; simp [truthM, h1, h2, num]) (by simp only [ends, ite_true, ite_false, reduceIte, Nat.reduceEqDiff, Nat.reduceLeDiff, Nat.reduceLT, Nat.reduceAdd, reduceCtorEq, num, boo, str, ints, aV, aTab, aInst, aS, aT, aC])
  · exact ret_d trivial (by rw [← hr]; simp at h1 h2; simp [truthM, h1, h2, num]) (by simp only [ends, ite_true, ite_false, reduceIte, Nat.reduceEqDiff, Nat.reduceLeDiff, Nat.reduceLT, Nat.reduceAdd, reduceCtorEq, num, boo, str, ints, aV, aTab, aInst, aS, aT, aC])

def notM (v : Val) : Val := if truthM v = 2 then nullV else ofV (truthM v == 0)
theorem c_not (v : Val) : ACall Tryd.prog 86 [aV v] [] (aV (notM v)) [] := by
  refine ACall.enter mixed ttok Tryd.func86 rfl rfl _ Tryd.ntmps86 (Nat.le_of_ble_eq_true rfl) (by kernel_rfl) _ (congrArg Array.toList Tryd.results86) ?_
  generalize hr : aV (notM v) = R
  simp -implicitDefEqProofs only [argT, tabN, ↓steps, push_cast, reduceIte, Nat.reduceEqDiff, Nat.reduceAdd, Nat.reduceMul, Nat.reduceLT, Nat.reduceLeDiff, Int.reduceToNat, Int.reduceLE, Int.reduceLT, reduceCtorEq, tte, num, boo, str, ints, aV, aTab, aInst, aS, aT, aC]
  refine callx_of [[0, 0, 0]] [] rfl (c_Truth v) (by first | (simp; done) | (simp [rowsOf_length]; done) | (simp [rowsOf_length]; omega)) (by first | (simp only [ends, ite_true, ite_false, reduceIte, Nat.reduceEqDiff, Nat.reduceLeDiff, Nat.reduceLT, Nat.reduceAdd, reduceCtorEq, num, boo, str, ints, aV, aTab, aInst, aS, aT, aC, num, boo, str, aE_eq, aV]; done) | simp [ends, ite_true, ite_false, reduceIte, Nat.reduceEqDiff, Nat.reduceLeDiff, Nat.reduceLT, Nat.reduceAdd, reduceCtorEq, num, boo, str, ints, aV, aTab, aInst, aS, aT, aC, num, boo, str, aE_eq, aV]) (by first | rfl | (simp only [ends, ite_true, ite_false, reduceIte, Nat.reduceEqDiff, Nat.reduceLeDiff, Nat.reduceLT, Nat.reduceAdd, reduceCtorEq, num, boo, str, ints, aV, aTab, aInst, aS, aT, aC, num, boo, str, aE_eq, aV]; done) | simp [ends, ite_true, ite_false, reduceIte, Nat.reduceEqDiff, Nat.reduceLeDiff, Nat.reduceLT, Nat.reduceAdd, reduceCtorEq, num, boo, str, ints, aV, aTab, aInst, aS, aT, aC, num, boo, str, aE_eq, aV]) (by simp only [ends, ite_true, ite_false, reduceIte, Nat.reduceEqDiff, Nat.reduceLeDiff, Nat.reduceLT, Nat.reduceAdd, reduceCtorEq, num, boo, str, ints, aV, aTab, aInst, aS, aT, aC]) (by simp [idsOk, lookO, updO, ren1]) ?_
  have ht : truthM v = 0 ∨ truthM v = 1 ∨ truthM v = 2 := by unfold truthM; split <;> (try split) <;> simp
  simp -implicitDefEqProofs only [tabN, ↓steps, push_cast, reduceIte, Nat.reduceEqDiff, Nat.reduceAdd, Nat.reduceMul, Nat.reduceLT, Nat.reduceLeDiff, Int.reduceToNat, Int.reduceLE, Int.reduceLT, reduceCtorEq, tte, num, boo, str, ints, aV, aTab, aInst, aS, aT, aC]
  unfold notM at hr
  generalize truthM v = x at ht hr
  refine bcase_intro (fun h1 => ?_) fun h1 => ?_
  · have hw : IntKind.i64.wrap (1 - x) = 1 - x := wrap_eq (by omega) (by omega)
    simp only [hw]
    refine callx_of [[0]] [] rfl (c_bool (1 - x)) (by first | (simp; done) | (simp [rowsOf_length]; done) | (simp [rowsOf_length]; omega)) (by first | (simp only [ends, ite_true, ite_false, reduceIte, Nat.reduceEqDiff, Nat.reduceLeDiff, Nat.reduceLT, Nat.reduceAdd, reduceCtorEq, num, boo, str, ints, aV, aTab, aInst, aS, aT, aC, num, boo, str, aE_eq, aV]; done) | simp [ends, ite_true, ite_false, reduceIte, Nat.reduceEqDiff, Nat.reduceLeDiff, Nat.reduceLT, Nat.reduceAdd, reduceCtorEq, num, boo, str, ints, aV, aTab, aInst, aS, aT, aC, num, boo, str, aE_eq, aV]) (by first | rfl | (simp only [ends, ite_true, ite_false, reduceIte, Nat.reduceEqDiff, Nat.reduceLeDiff, Nat.reduceLT, Nat.reduceAdd, reduceCtorEq, num, boo, str, ints, aV, aTab, aInst, aS, aT, aC, num, boo, str, aE_eq, aV]; done) | simp [ends, ite_true, ite_false, reduceIte, Nat.reduceEqDiff, Nat.reduceLeDiff, Nat.reduceLT, Nat.reduceAdd, reduceCtorEq, num, boo, str, ints, aV, aTab, aInst, aS, aT, aC, num, boo, str, aE_eq, aV]) (by simp only [ends, ite_true, ite_false, reduceIte, Nat.reduceEqDiff, Nat.reduceLeDiff, Nat.reduceLT, Nat.reduceAdd, reduceCtorEq, num, boo, str, ints, aV, aTab, aInst, aS, aT, aC]) (by simp [idsOk, lookO, updO, ren1]) ?_
    simp -implicitDefEqProofs only [aV, ↓steps, push_cast, reduceIte, Nat.reduceEqDiff, Nat.reduceAdd, Nat.reduceMul, Nat.reduceLT, Nat.reduceLeDiff, Int.reduceToNat, Int.reduceLE, Int.reduceLT, reduceCtorEq, tte, num, boo, str, ints, aV, aTab, aInst, aS, aT, aC]
    rcases ht with rfl | rfl | rfl
    · exact ret_v (by first | trivial | (simp; done) | (simp; omega)) (by rw [← hr] <;> first | rfl | (simp [ofV, boolV]; done) | (simp_all [ofV, boolV]; done)) (by simp only [ends, ite_true, ite_false, reduceIte, Nat.reduceEqDiff, Nat.reduceLeDiff, Nat.reduceLT, Nat.reduceAdd, reduceCtorEq, num, boo, str, ints, aV, aTab, aInst, aS, aT, aC])
    · exact ret_v (by first | trivial | (simp; done) | (simp; omega)) (by rw [← hr] <;> first | rfl | (simp [ofV, boolV]; done) | (simp_all [ofV, boolV]; done)) (by simp only [ends, ite_true, ite_false, reduceIte, Nat.reduceEqDiff, Nat.reduceLeDiff, Nat.reduceLT, Nat.reduceAdd, reduceCtorEq, num, boo, str, ints, aV, aTab, aInst, aS, aT, aC])
    · simp at h1
  · have hx : x = 2 := by simpa using h1
    subst hx
    exact ret_v (by first | trivial | (simp; done) | (simp; omega)) (by rw [← hr] <;> first | rfl | (simp [nullV]; done) | (simp_all [nullV]; done)) (by simp only [ends, ite_true, ite_false, reduceIte, Nat.reduceEqDiff, Nat.reduceLeDiff, Nat.reduceLT, Nat.reduceAdd, reduceCtorEq, num, boo, str, ints, aV, aTab, aInst, aS, aT, aC])
theorem c_rnot (v : Val) : ACall Tryd.prog 54 [aV v] [] (aV (notM v)) [] := by
  refine ACall.enter mixed ttok Tryd.func54 rfl rfl _ Tryd.ntmps54 (Nat.le_of_ble_eq_true rfl) (by kernel_rfl) _ (congrArg Array.toList Tryd.results54) ?_
  generalize hr : aV (notM v) = R
  simp -implicitDefEqProofs only [argT, tabN, ↓steps, push_cast, reduceIte, Nat.reduceEqDiff, Nat.reduceAdd, Nat.reduceMul, Nat.reduceLT, Nat.reduceLeDiff, Int.reduceToNat, Int.reduceLE, Int.reduceLT, reduceCtorEq, tte, num, boo, str, ints, aV, aTab, aInst, aS, aT, aC]
  refine callx_of [[0, 0, 0]] [] rfl (c_rTruth v) (by first | (simp; done) | (simp [rowsOf_length]; done) | (simp [rowsOf_length]; omega)) (by first | (simp only [ends, ite_true, ite_false, reduceIte, Nat.reduceEqDiff, Nat.reduceLeDiff, Nat.reduceLT, Nat.reduceAdd, reduceCtorEq, num, boo, str, ints, aV, aTab, aInst, aS, aT, aC, num, boo, str, aE_eq, aV]; done) | simp [ends, ite_true, ite_false, reduceIte, Nat.reduceEqDiff, Nat.reduceLeDiff, Nat.reduceLT, Nat.reduceAdd, reduceCtorEq, num, boo, str, ints, aV, aTab, aInst, aS, aT, aC, num, boo, str, aE_eq, aV]) (by first | rfl | (simp only [ends, ite_true, ite_false, reduceIte, Nat.reduceEqDiff, Nat.reduceLeDiff, Nat.reduceLT, Nat.reduceAdd, reduceCtorEq, num, boo, str, ints, aV, aTab, aInst, aS, aT, aC, num, boo, str, aE_eq, aV]; done) | simp [ends, ite_true, ite_false, reduceIte, Nat.reduceEqDiff, Nat.reduceLeDiff, Nat.reduceLT, Nat.reduceAdd, reduceCtorEq, num, boo, str, ints, aV, aTab, aInst, aS, aT, aC, num, boo, str, aE_eq, aV]) (by simp only [ends, ite_true, ite_false, reduceIte, Nat.reduceEqDiff, Nat.reduceLeDiff, Nat.reduceLT, Nat.reduceAdd, reduceCtorEq, num, boo, str, ints, aV, aTab, aInst, aS, aT, aC]) (by simp [idsOk, lookO, updO, ren1]) ?_
  have ht : truthM v = 0 ∨ truthM v = 1 ∨ truthM v = 2 := by unfold truthM; split <;> (try split) <;> simp
  simp -implicitDefEqProofs only [↓steps, push_cast, reduceIte, Nat.reduceEqDiff, Nat.reduceAdd, Nat.reduceMul, Nat.reduceLT, Nat.reduceLeDiff, Int.reduceToNat, Int.reduceLE, Int.reduceLT, reduceCtorEq, tte, num, boo, str, ints, aV, aTab, aInst, aS, aT, aC]
  unfold notM at hr
  generalize truthM v = x at ht hr
  refine bcase_intro (fun h1 => ?_) fun h1 => ?_
  · refine callx_of [[0]] [] rfl (c_rbool 1) (by first | (simp; done) | (simp [rowsOf_length]; done) | (simp [rowsOf_length]; omega)) (by first | (simp only [ends, ite_true, ite_false, reduceIte, Nat.reduceEqDiff, Nat.reduceLeDiff, Nat.reduceLT, Nat.reduceAdd, reduceCtorEq, num, boo, str, ints, aV, aTab, aInst, aS, aT, aC, num, boo, str, aE_eq, aV]; done) | simp [ends, ite_true, ite_false, reduceIte, Nat.reduceEqDiff, Nat.reduceLeDiff, Nat.reduceLT, Nat.reduceAdd, reduceCtorEq, num, boo, str, ints, aV, aTab, aInst, aS, aT, aC, num, boo, str, aE_eq, aV]) (by first | rfl | (simp only [ends, ite_true, ite_false, reduceIte, Nat.reduceEqDiff, Nat.reduceLeDiff, Nat.reduceLT, Nat.reduceAdd, reduceCtorEq, num, boo, str, ints, aV, aTab, aInst, aS, aT, aC, num, boo, str, aE_eq, aV]; done) | simp [ends, ite_true, ite_false, reduceIte, Nat.reduceEqDiff, Nat.reduceLeDiff, Nat.reduceLT, Nat.reduceAdd, reduceCtorEq, num, boo, str, ints, aV, aTab, aInst, aS, aT, aC, num, boo, str, aE_eq, aV]) (by simp only [ends, ite_true, ite_false, reduceIte, Nat.reduceEqDiff, Nat.reduceLeDiff, Nat.reduceLT, Nat.reduceAdd, reduceCtorEq, num, boo, str, ints, aV, aTab, aInst, aS, aT, aC]) (by simp [idsOk, lookO, updO, ren1]) ?_
    have hx : x = 0 := by simpa using h1
    subst hx
    simp -implicitDefEqProofs only [aV, ↓steps, push_cast, reduceIte, Nat.reduceEqDiff, Nat.reduceAdd, Nat.reduceMul, Nat.reduceLT, Nat.reduceLeDiff, Int.reduceToNat, Int.reduceLE, Int.reduceLT, reduceCtorEq, tte, num, boo, str, ints, aV, aTab, aInst, aS, aT, aC]
    exact ret_v (by first | trivial | (simp; done) | (simp; omega)) (by rw [← hr] <;> first | rfl | (simp [ofV, boolV]; done) | (simp_all [ofV, boolV]; done)) (by simp only [ends, ite_true, ite_false, reduceIte, Nat.reduceEqDiff, Nat.reduceLeDiff, Nat.reduceLT, Nat.reduceAdd, reduceCtorEq, num, boo, str, ints, aV, aTab, aInst, aS, aT, aC])
  refine bcase_intro (fun h2 => ?_) fun h2 => ?_
  · refine callx_of [[0]] [] rfl (c_rbool 0) (by first | (simp; done) | (simp [rowsOf_length]; done) | (simp [rowsOf_length]; omega)) (by first | (simp only [ends, ite_true, ite_false, reduceIte, Nat.reduceEqDiff, Nat.reduceLeDiff, Nat.reduceLT, Nat.reduceAdd, reduceCtorEq, num, boo, str, ints, aV, aTab, aInst, aS, aT, aC, num, boo, str, aE_eq, aV]; done) | simp [ends, ite_true, ite_false, reduceIte, Nat.reduceEqDiff, Nat.reduceLeDiff, Nat.reduceLT, Nat.reduceAdd, reduceCtorEq, num, boo, str, ints, aV, aTab, aInst, aS, aT, aC, num, boo, str, aE_eq, aV]) (by first | rfl | (simp only [ends, ite_true, ite_false, reduceIte, Nat.reduceEqDiff, Nat.reduceLeDiff, Nat.reduceLT, Nat.reduceAdd, reduceCtorEq, num, boo, str, ints, aV, aTab, aInst, aS, aT, aC, num, boo, str, aE_eq, aV]; done) | simp [ends, ite_true, ite_false, reduceIte, Nat.reduceEqDiff, Nat.reduceLeDiff, Nat.reduceLT, Nat.reduceAdd, reduceCtorEq, num, boo, str, ints, aV, aTab, aInst, aS, aT, aC, num, boo, str, aE_eq, aV]) (by simp only [ends, ite_true, ite_false, reduceIte, Nat.reduceEqDiff, Nat.reduceLeDiff, Nat.reduceLT, Nat.reduceAdd, reduceCtorEq, num, boo, str, ints, aV, aTab, aInst, aS, aT, aC]) (by simp [idsOk, lookO, updO, ren1]) ?_
    have hx : x = 1 := by simpa using h2
    subst hx
    simp -implicitDefEqProofs only [aV, ↓steps, push_cast, reduceIte, Nat.reduceEqDiff, Nat.reduceAdd, Nat.reduceMul, Nat.reduceLT, Nat.reduceLeDiff, Int.reduceToNat, Int.reduceLE, Int.reduceLT, reduceCtorEq, tte, num, boo, str, ints, aV, aTab, aInst, aS, aT, aC]
    exact ret_v (by first | trivial | (simp; done) | (simp; omega)) (by rw [← hr] <;> first | rfl | (simp [ofV, boolV]; done) | (simp_all [ofV, boolV]; done)) (by simp only [ends, ite_true, ite_false, reduceIte, Nat.reduceEqDiff, Nat.reduceLeDiff, Nat.reduceLT, Nat.reduceAdd, reduceCtorEq, num, boo, str, ints, aV, aTab, aInst, aS, aT, aC])
  · have hx : x = 2 := by simp at h1 h2; omega
    subst hx
    exact ret_v (by first | trivial | (simp; done) | (simp; omega)) (by rw [← hr] <;> first | rfl | (simp [nullV]; done) | (simp_all [nullV]; done)) (by simp only [ends, ite_true, ite_false, reduceIte, Nat.reduceEqDiff, Nat.reduceLeDiff, Nat.reduceLT, Nat.reduceAdd, reduceCtorEq, num, boo, str, ints, aV, aTab, aInst, aS, aT, aC])
end Go.Proofs.YtkccdfaelbepeaaDoor

namespace Go.Proofs.YtkccdfaelbepeaaDoor
open Go.Am
set_option linter.unusedVariables false
set_option maxRecDepth 100000
set_option maxHeartbeats 4000000

def andM (a b : Val) : Val := if truthM a = 0 ∨ truthM b = 0 then ofV false else if truthM a = 2 ∨ truthM b = 2 then nullV else ofV true
def orM (a b : Val) : Val := if truthM a = 1 ∨ truthM b = 1 then ofV true else if truthM a = 2 ∨ truthM b = 2 then nullV else ofV false

theorem c_and (a b : Val) : ACall Tryd.prog 90 [aV a, aV b] [] (aV (andM a b)) [] := by
  refine ACall.enter mixed ttok Tryd.func90 rfl rfl _ Tryd.ntmps90 (Nat.le_of_ble_eq_true rfl) (by kernel_rfl) _ (congrArg Array.toList Tryd.results90) ?_
  generalize hr : aV (andM a b) = R
  simp -implicitDefEqProofs only [argT, tabN, ↓steps, push_cast, reduceIte, Nat.reduceEqDiff, Nat.reduceAdd, Nat.reduceMul, Nat.reduceLT, Nat.reduceLeDiff, Int.reduceToNat, Int.reduceLE, Int.reduceLT, reduceCtorEq, tte, num, boo, str, ints, aV, aTab, aInst, aS, aT, aC]
  refine callx_of [[0, 0, 0]] [] rfl (c_Truth a) (by first | (simp; done) | (simp [rowsOf_length]; done) | (simp [rowsOf_length]; omega)) (by first | (simp only [ends, ite_true, ite_false, reduceIte, Nat.reduceEqDiff, Nat.reduceLeDiff, Nat.reduceLT, Nat.reduceAdd, reduceCtorEq, num, boo, str, ints, aV, aTab, aInst, aS, aT, aC, num, boo, str, aE_eq, aV]; done) | simp [ends, ite_true, ite_false, reduceIte, Nat.reduceEqDiff, Nat.reduceLeDiff, Nat.reduceLT, Nat.reduceAdd, reduceCtorEq, num, boo, str, ints, aV, aTab, aInst, aS, aT, aC, num, boo, str, aE_eq, aV]) (by first | rfl | (simp only [ends, ite_true, ite_false, reduceIte, Nat.reduceEqDiff, Nat.reduceLeDiff, Nat.reduceLT, Nat.reduceAdd, reduceCtorEq, num, boo, str, ints, aV, aTab, aInst, aS, aT, aC, num, boo, str, aE_eq, aV]; done) | simp [ends, ite_true, ite_false, reduceIte, Nat.reduceEqDiff, Nat.reduceLeDiff, Nat.reduceLT, Nat.reduceAdd, reduceCtorEq, num, boo, str, ints, aV, aTab, aInst, aS, aT, aC, num, boo, str, aE_eq, aV]) (by simp only [ends, ite_true, ite_false, reduceIte, Nat.reduceEqDiff, Nat.reduceLeDiff, Nat.reduceLT, Nat.reduceAdd, reduceCtorEq, num, boo, str, ints, aV, aTab, aInst, aS, aT, aC]) (by simp [idsOk, lookO, updO, ren1]) ?_
  simp -implicitDefEqProofs only [tabN, ↓steps, push_cast, reduceIte, Nat.reduceEqDiff, Nat.reduceAdd, Nat.reduceMul, Nat.reduceLT, Nat.reduceLeDiff, Int.reduceToNat, Int.reduceLE, Int.reduceLT, reduceCtorEq, tte, num, boo, str, ints, aV, aTab, aInst, aS, aT, aC]
  refine callx_of [[0, 0, 0]] [] rfl (c_Truth b) (by first | (simp; done) | (simp [rowsOf_length]; done) | (simp [rowsOf_length]; omega)) (by first | (simp only [ends, ite_true, ite_false, reduceIte, Nat.reduceEqDiff, Nat.reduceLeDiff, Nat.reduceLT, Nat.reduceAdd, reduceCtorEq, num, boo, str, ints, aV, aTab, aInst, aS, aT, aC, num, boo, str, aE_eq, aV]; done) | simp [ends, ite_true, ite_false, reduceIte, Nat.reduceEqDiff, Nat.reduceLeDiff, Nat.reduceLT, Nat.reduceAdd, reduceCtorEq, num, boo, str, ints, aV, aTab, aInst, aS, aT, aC, num, boo, str, aE_eq, aV]) (by first | rfl | (simp only [ends, ite_true, ite_false, reduceIte, Nat.reduceEqDiff, Nat.reduceLeDiff, Nat.reduceLT, Nat.reduceAdd, reduceCtorEq, num, boo, str, ints, aV, aTab, aInst, aS, aT, aC, num, boo, str, aE_eq, aV]; done) | simp [ends, ite_true, ite_false, reduceIte, Nat.reduceEqDiff, Nat.reduceLeDiff, Nat.reduceLT, Nat.reduceAdd, reduceCtorEq, num, boo, str, ints, aV, aTab, aInst, aS, aT, aC, num, boo, str, aE_eq, aV]) (by simp only [ends, ite_true, ite_false, reduceIte, Nat.reduceEqDiff, Nat.reduceLeDiff, Nat.reduceLT, Nat.reduceAdd, reduceCtorEq, num, boo, str, ints, aV, aTab, aInst, aS, aT, aC]) (by simp [idsOk, lookO, updO, ren1]) ?_
  simp -implicitDefEqProofs only [tabN, ↓steps, push_cast, reduceIte, Nat.reduceEqDiff, Nat.reduceAdd, Nat.reduceMul, Nat.reduceLT, Nat.reduceLeDiff, Int.reduceToNat, Int.reduceLE, Int.reduceLT, reduceCtorEq, tte, num, boo, str, ints, aV, aTab, aInst, aS, aT, aC]
  refine ⟨drawx_intro (by kernel_rfl), ?_⟩
  unfold andM at hr
  generalize truthM a = x at hr
  generalize truthM b = y at hr
  refine bcase_intro (fun h1 => ?_) fun h1 => ?_
  · refine callx_of [[0]] [] rfl (c_bool 0) (by first | (simp; done) | (simp [rowsOf_length]; done) | (simp [rowsOf_length]; omega)) (by first | (simp only [ends, ite_true, ite_false, reduceIte, Nat.reduceEqDiff, Nat.reduceLeDiff, Nat.reduceLT, Nat.reduceAdd, reduceCtorEq, num, boo, str, ints, aV, aTab, aInst, aS, aT, aC, num, boo, str, aE_eq, aV]; done) | simp [ends, ite_true, ite_false, reduceIte, Nat.reduceEqDiff, Nat.reduceLeDiff, Nat.reduceLT, Nat.reduceAdd, reduceCtorEq, num, boo, str, ints, aV, aTab, aInst, aS, aT, aC, num, boo, str, aE_eq, aV]) (by first | rfl | (simp only [ends, ite_true, ite_false, reduceIte, Nat.reduceEqDiff, Nat.reduceLeDiff, Nat.reduceLT, Nat.reduceAdd, reduceCtorEq, num, boo, str, ints, aV, aTab, aInst, aS, aT, aC, num, boo, str, aE_eq, aV]; done) | simp [ends, ite_true, ite_false, reduceIte, Nat.reduceEqDiff, Nat.reduceLeDiff, Nat.reduceLT, Nat.reduceAdd, reduceCtorEq, num, boo, str, ints, aV, aTab, aInst, aS, aT, aC, num, boo, str, aE_eq, aV]) (by simp only [ends, ite_true, ite_false, reduceIte, Nat.reduceEqDiff, Nat.reduceLeDiff, Nat.reduceLT, Nat.reduceAdd, reduceCtorEq, num, boo, str, ints, aV, aTab, aInst, aS, aT, aC]) (by simp [idsOk, lookO, updO, ren1]) ?_
    simp -implicitDefEqProofs only [aV, ↓steps, push_cast, reduceIte, Nat.reduceEqDiff, Nat.reduceAdd, Nat.reduceMul, Nat.reduceLT, Nat.reduceLeDiff, Int.reduceToNat, Int.reduceLE, Int.reduceLT, reduceCtorEq, tte, num, boo, str, ints, aV, aTab, aInst, aS, aT, aC]
    exact ret_v (by first | trivial | (simp; done) | (simp; omega)) (by rw [← hr] <;> first | rfl | (simp [ofV, boolV]; done) | (simp_all [ofV, boolV]; done)) (by simp only [ends, ite_true, ite_false, reduceIte, Nat.reduceEqDiff, Nat.reduceLeDiff, Nat.reduceLT, Nat.reduceAdd, reduceCtorEq, num, boo, str, ints, aV, aTab, aInst, aS, aT, aC])
  refine bcase_intro (fun h2 => ?_) fun h2 => ?_
  · refine callx_of [[0]] [] rfl (c_bool 0) (by first | (simp; done) | (simp [rowsOf_length]; done) | (simp [rowsOf_length]; omega)) (by first | (simp only [ends, ite_true, ite_false, reduceIte, Nat.reduceEqDiff, Nat.reduceLeDiff, Nat.reduceLT, Nat.reduceAdd, reduceCtorEq, num, boo, str, ints, aV, aTab, aInst, aS, aT, aC, num, boo, str, aE_eq, aV]; done) | simp [ends, ite_true, ite_false, reduceIte, Nat.reduceEqDiff, Nat.reduceLeDiff, Nat.reduceLT, Nat.reduceAdd, reduceCtorEq, num, boo, str, ints, aV, aTab, aInst, aS, aT, aC, num, boo, str, aE_eq, aV]) (by first | rfl | (simp only [ends, ite_true, ite_false, reduceIte, Nat.reduceEqDiff, Nat.reduceLeDiff, Nat.reduceLT, Nat.reduceAdd, reduceCtorEq, num, boo, str, ints, aV, aTab, aInst, aS, aT, aC, num, boo, str, aE_eq, aV]; done) | simp [ends, ite_true, ite_false, reduceIte, Nat.reduceEqDiff, Nat.reduceLeDiff, Nat.reduceLT, Nat.reduceAdd, reduceCtorEq, num, boo, str, ints, aV, aTab, aInst, aS, aT, aC, num, boo, str, aE_eq, aV]) (by simp only [ends, ite_true, ite_false, reduceIte, Nat.reduceEqDiff, Nat.reduceLeDiff, Nat.reduceLT, Nat.reduceAdd, reduceCtorEq, num, boo, str, ints, aV, aTab, aInst, aS, aT, aC]) (by simp [idsOk, lookO, updO, ren1]) ?_
    simp -implicitDefEqProofs only [aV, ↓steps, push_cast, reduceIte, Nat.reduceEqDiff, Nat.reduceAdd, Nat.reduceMul, Nat.reduceLT, Nat.reduceLeDiff, Int.reduceToNat, Int.reduceLE, Int.reduceLT, reduceCtorEq, tte, num, boo, str, ints, aV, aTab, aInst, aS, aT, aC]
    exact ret_v (by first | trivial | (simp; done) | (simp; omega)) (by rw [← hr] <;> first | rfl | (simp [ofV, boolV]; done) | (simp_all [ofV, boolV]; done)) (by simp only [ends, ite_true, ite_false, reduceIte, Nat.reduceEqDiff, Nat.reduceLeDiff, Nat.reduceLT, Nat.reduceAdd, reduceCtorEq, num, boo, str, ints, aV, aTab, aInst, aS, aT, aC])
  refine bcase_intro (fun h3 => ?_) fun h3 => ?_
  · exact ret_v (by first | trivial | (simp; done) | (simp; omega)) (by rw [← hr] <;> first | rfl | (simp [nullV]; done) | (simp_all [nullV]; done)) (by simp only [ends, ite_true, ite_false, reduceIte, Nat.reduceEqDiff, Nat.reduceLeDiff, Nat.reduceLT, Nat.reduceAdd, reduceCtorEq, num, boo, str, ints, aV, aTab, aInst, aS, aT, aC])
  refine bcase_intro (fun h4 => ?_) fun h4 => ?_
  · exact ret_v (by first | trivial | (simp; done) | (simp; omega)) (by rw [← hr] <;> first | rfl | (simp [nullV]; done) | (simp_all [nullV]; done)) (by simp only [ends, ite_true, ite_false, reduceIte, Nat.reduceEqDiff, Nat.reduceLeDiff, Nat.reduceLT, Nat.reduceAdd, reduceCtorEq, num, boo, str, ints, aV, aTab, aInst, aS, aT, aC])
  · refine callx_of [[0]] [] rfl (c_bool 1) (by first | (simp; done) | (simp [rowsOf_length]; done) | (simp [rowsOf_length]; omega)) (by first | (simp only [ends, ite_true, ite_false, reduceIte, Nat.reduceEqDiff, Nat.reduceLeDiff, Nat.reduceLT, Nat.reduceAdd, reduceCtorEq, num, boo, str, ints, aV, aTab, aInst, aS, aT, aC, num, boo, str, aE_eq, aV]; done) | simp [ends, ite_true, ite_false, reduceIte, Nat.reduceEqDiff, Nat.reduceLeDiff, Nat.reduceLT, Nat.reduceAdd, reduceCtorEq, num, boo, str, ints, aV, aTab, aInst, aS, aT, aC, num, boo, str, aE_eq, aV]) (by first | rfl | (simp only [ends, ite_true, ite_false, reduceIte, Nat.reduceEqDiff, Nat.reduceLeDiff, Nat.reduceLT, Nat.reduceAdd, reduceCtorEq, num, boo, str, ints, aV, aTab, aInst, aS, aT, aC, num, boo, str, aE_eq, aV]; done) | simp [ends, ite_true, ite_false, reduceIte, Nat.reduceEqDiff, Nat.reduceLeDiff, Nat.reduceLT, Nat.reduceAdd, reduceCtorEq, num, boo, str, ints, aV, aTab, aInst, aS, aT, aC, num, boo, str, aE_eq, aV]) (by simp only [ends, ite_true, ite_false, reduceIte, Nat.reduceEqDiff, Nat.reduceLeDiff, Nat.reduceLT, Nat.reduceAdd, reduceCtorEq, num, boo, str, ints, aV, aTab, aInst, aS, aT, aC]) (by simp [idsOk, lookO, updO, ren1]) ?_
    simp -implicitDefEqProofs only [aV, ↓steps, push_cast, reduceIte, Nat.reduceEqDiff, Nat.reduceAdd, Nat.reduceMul, Nat.reduceLT, Nat.reduceLeDiff, Int.reduceToNat, Int.reduceLE, Int.reduceLT, reduceCtorEq, tte, num, boo, str, ints, aV, aTab, aInst, aS, aT, aC]
    exact ret_v (by first | trivial | (simp; done) | (simp; omega)) (by rw [← hr] <;> first | rfl | (simp [ofV, boolV]; done) | (simp_all [ofV, boolV]; done)) (by simp only [ends, ite_true, ite_false, reduceIte, Nat.reduceEqDiff, Nat.reduceLeDiff, Nat.reduceLT, Nat.reduceAdd, reduceCtorEq, num, boo, str, ints, aV, aTab, aInst, aS, aT, aC])
theorem c_or2 (a b : Val) : ACall Tryd.prog 91 [aV a, aV b] [] (aV (orM a b)) [] := by
  refine ACall.enter mixed ttok Tryd.func91 rfl rfl _ Tryd.ntmps91 (Nat.le_of_ble_eq_true rfl) (by kernel_rfl) _ (congrArg Array.toList Tryd.results91) ?_
  generalize hr : aV (orM a b) = R
  simp -implicitDefEqProofs only [argT, tabN, ↓steps, push_cast, reduceIte, Nat.reduceEqDiff, Nat.reduceAdd, Nat.reduceMul, Nat.reduceLT, Nat.reduceLeDiff, Int.reduceToNat, Int.reduceLE, Int.reduceLT, reduceCtorEq, tte, num, boo, str, ints, aV, aTab, aInst, aS, aT, aC]
  refine callx_of [[0, 0, 0]] [] rfl (c_Truth a) (by first | (simp; done) | (simp [rowsOf_length]; done) | (simp [rowsOf_length]; omega)) (by first | (simp only [ends, ite_true, ite_false, reduceIte, Nat.reduceEqDiff, Nat.reduceLeDiff, Nat.reduceLT, Nat.reduceAdd, reduceCtorEq, num, boo, str, ints, aV, aTab, aInst, aS, aT, aC, num, boo, str, aE_eq, aV]; done) | simp [ends, ite_true, ite_false, reduceIte, Nat.reduceEqDiff, Nat.reduceLeDiff, Nat.reduceLT, Nat.reduceAdd, reduceCtorEq, num, boo, str, ints, aV, aTab, aInst, aS, aT, aC, num, boo, str, aE_eq, aV]) (by first | rfl | (simp only [ends, ite_true, ite_false, reduceIte, Nat.reduceEqDiff, Nat.reduceLeDiff, Nat.reduceLT, Nat.reduceAdd, reduceCtorEq, num, boo, str, ints, aV, aTab, aInst, aS, aT, aC, num, boo, str, aE_eq, aV]; done) | simp [ends, ite_true, ite_false, reduceIte, Nat.reduceEqDiff, Nat.reduceLeDiff, Nat.reduceLT, Nat.reduceAdd, reduceCtorEq, num, boo, str, ints, aV, aTab, aInst, aS, aT, aC, num, boo, str, aE_eq, aV]) (by simp only [ends, ite_true, ite_false, reduceIte, Nat.reduceEqDiff, Nat.reduceLeDiff, Nat.reduceLT, Nat.reduceAdd, reduceCtorEq, num, boo, str, ints, aV, aTab, aInst, aS, aT, aC]) (by simp [idsOk, lookO, updO, ren1]) ?_
  simp -implicitDefEqProofs only [tabN, ↓steps, push_cast, reduceIte, Nat.reduceEqDiff, Nat.reduceAdd, Nat.reduceMul, Nat.reduceLT, Nat.reduceLeDiff, Int.reduceToNat, Int.reduceLE, Int.reduceLT, reduceCtorEq, tte, num, boo, str, ints, aV, aTab, aInst, aS, aT, aC]
  refine callx_of [[0, 0, 0]] [] rfl (c_Truth b) (by first | (simp; done) | (simp [rowsOf_length]; done) | (simp [rowsOf_length]; omega)) (by first | (simp only [ends, ite_true, ite_false, reduceIte, Nat.reduceEqDiff, Nat.reduceLeDiff, Nat.reduceLT, Nat.reduceAdd, reduceCtorEq, num, boo, str, ints, aV, aTab, aInst, aS, aT, aC, num, boo, str, aE_eq, aV]; done) | simp [ends, ite_true, ite_false, reduceIte, Nat.reduceEqDiff, Nat.reduceLeDiff, Nat.reduceLT, Nat.reduceAdd, reduceCtorEq, num, boo, str, ints, aV, aTab, aInst, aS, aT, aC, num, boo, str, aE_eq, aV]) (by first | rfl | (simp only [ends, ite_true, ite_false, reduceIte, Nat.reduceEqDiff, Nat.reduceLeDiff, Nat.reduceLT, Nat.reduceAdd, reduceCtorEq, num, boo, str, ints, aV, aTab, aInst, aS, aT, aC, num, boo, str, aE_eq, aV]; done) | simp [ends, ite_true, ite_false, reduceIte, Nat.reduceEqDiff, Nat.reduceLeDiff, Nat.reduceLT, Nat.reduceAdd, reduceCtorEq, num, boo, str, ints, aV, aTab, aInst, aS, aT, aC, num, boo, str, aE_eq, aV]) (by simp only [ends, ite_true, ite_false, reduceIte, Nat.reduceEqDiff, Nat.reduceLeDiff, Nat.reduceLT, Nat.reduceAdd, reduceCtorEq, num, boo, str, ints, aV, aTab, aInst, aS, aT, aC]) (by simp [idsOk, lookO, updO, ren1]) ?_
  simp -implicitDefEqProofs only [tabN, ↓steps, push_cast, reduceIte, Nat.reduceEqDiff, Nat.reduceAdd, Nat.reduceMul, Nat.reduceLT, Nat.reduceLeDiff, Int.reduceToNat, Int.reduceLE, Int.reduceLT, reduceCtorEq, tte, num, boo, str, ints, aV, aTab, aInst, aS, aT, aC]
  refine ⟨drawx_intro (by kernel_rfl), ?_⟩
  unfold orM at hr
  generalize truthM a = x at hr
  generalize truthM b = y at hr
  refine bcase_intro (fun h1 => ?_) fun h1 => ?_
  · refine callx_of [[0]] [] rfl (c_bool 1) (by first | (simp; done) | (simp [rowsOf_length]; done) | (simp [rowsOf_length]; omega)) (by first | (simp only [ends, ite_true, ite_false, reduceIte, Nat.reduceEqDiff, Nat.reduceLeDiff, Nat.reduceLT, Nat.reduceAdd, reduceCtorEq, num, boo, str, ints, aV, aTab, aInst, aS, aT, aC, num, boo, str, aE_eq, aV]; done) | simp [ends, ite_true, ite_false, reduceIte, Nat.reduceEqDiff, Nat.reduceLeDiff, Nat.reduceLT, Nat.reduceAdd, reduceCtorEq, num, boo, str, ints, aV, aTab, aInst, aS, aT, aC, num, boo, str, aE_eq, aV]) (by first | rfl | (simp only [ends, ite_true, ite_false, reduceIte, Nat.reduceEqDiff, Nat.reduceLeDiff, Nat.reduceLT, Nat.reduceAdd, reduceCtorEq, num, boo, str, ints, aV, aTab, aInst, aS, aT, aC, num, boo, str, aE_eq, aV]; done) | simp [ends, ite_true, ite_false, reduceIte, Nat.reduceEqDiff, Nat.reduceLeDiff, Nat.reduceLT, Nat.reduceAdd, reduceCtorEq, num, boo, str, ints, aV, aTab, aInst, aS, aT, aC, num, boo, str, aE_eq, aV]) (by simp only [ends, ite_true, ite_false, reduceIte, Nat.reduceEqDiff, Nat.reduceLeDiff, Nat.reduceLT, Nat.reduceAdd, reduceCtorEq, num, boo, str, ints, aV, aTab, aInst, aS, aT, aC]) (by simp [idsOk, lookO, updO, ren1]) ?_
    simp -implicitDefEqProofs only [aV, ↓steps, push_cast, reduceIte, Nat.reduceEqDiff, Nat.reduceAdd, Nat.reduceMul, Nat.reduceLT, Nat.reduceLeDiff, Int.reduceToNat, Int.reduceLE, Int.reduceLT, reduceCtorEq, tte, num, boo, str, ints, aV, aTab, aInst, aS, aT, aC]
    exact ret_v (by first | trivial | (simp; done) | (simp; omega)) (by rw [← hr] <;> first | rfl | (simp [ofV, boolV]; done) | (simp_all [ofV, boolV]; done)) (by simp only [ends, ite_true, ite_false, reduceIte, Nat.reduceEqDiff, Nat.reduceLeDiff, Nat.reduceLT, Nat.reduceAdd, reduceCtorEq, num, boo, str, ints, aV, aTab, aInst, aS, aT, aC])
  refine bcase_intro (fun h2 => ?_) fun h2 => ?_
  · refine callx_of [[0]] [] rfl (c_bool 1) (by first | (simp; done) | (simp [rowsOf_length]; done) | (simp [rowsOf_length]; omega)) (by first | (simp only [ends, ite_true, ite_false, reduceIte, Nat.reduceEqDiff, Nat.reduceLeDiff, Nat.reduceLT, Nat.reduceAdd, reduceCtorEq, num, boo, str, ints, aV, aTab, aInst, aS, aT, aC, num, boo, str, aE_eq, aV]; done) | simp [ends, ite_true, ite_false, reduceIte, Nat.reduceEqDiff, Nat.reduceLeDiff, Nat.reduceLT, Nat.reduceAdd, reduceCtorEq, num, boo, str, ints, aV, aTab, aInst, aS, aT, aC, num, boo, str, aE_eq, aV]) (by first | rfl | (simp only [ends, ite_true, ite_false, reduceIte, Nat.reduceEqDiff, Nat.reduceLeDiff, Nat.reduceLT, Nat.reduceAdd, reduceCtorEq, num, boo, str, ints, aV, aTab, aInst, aS, aT, aC, num, boo, str, aE_eq, aV]; done) | simp [ends, ite_true, ite_false, reduceIte, Nat.reduceEqDiff, Nat.reduceLeDiff, Nat.reduceLT, Nat.reduceAdd, reduceCtorEq, num, boo, str, ints, aV, aTab, aInst, aS, aT, aC, num, boo, str, aE_eq, aV]) (by simp only [ends, ite_true, ite_false, reduceIte, Nat.reduceEqDiff, Nat.reduceLeDiff, Nat.reduceLT, Nat.reduceAdd, reduceCtorEq, num, boo, str, ints, aV, aTab, aInst, aS, aT, aC]) (by simp [idsOk, lookO, updO, ren1]) ?_
    simp -implicitDefEqProofs only [aV, ↓steps, push_cast, reduceIte, Nat.reduceEqDiff, Nat.reduceAdd, Nat.reduceMul, Nat.reduceLT, Nat.reduceLeDiff, Int.reduceToNat, Int.reduceLE, Int.reduceLT, reduceCtorEq, tte, num, boo, str, ints, aV, aTab, aInst, aS, aT, aC]
    exact ret_v (by first | trivial | (simp; done) | (simp; omega)) (by rw [← hr] <;> first | rfl | (simp [ofV, boolV]; done) | (simp_all [ofV, boolV]; done)) (by simp only [ends, ite_true, ite_false, reduceIte, Nat.reduceEqDiff, Nat.reduceLeDiff, Nat.reduceLT, Nat.reduceAdd, reduceCtorEq, num, boo, str, ints, aV, aTab, aInst, aS, aT, aC])
  refine bcase_intro (fun h3 => ?_) fun h3 => ?_
  · exact ret_v (by first | trivial | (simp; done) | (simp; omega)) (by rw [← hr] <;> first | rfl | (simp [nullV]; done) | (simp_all [nullV]; done)) (by simp only [ends, ite_true, ite_false, reduceIte, Nat.reduceEqDiff, Nat.reduceLeDiff, Nat.reduceLT, Nat.reduceAdd, reduceCtorEq, num, boo, str, ints, aV, aTab, aInst, aS, aT, aC])
  refine bcase_intro (fun h4 => ?_) fun h4 => ?_
  · exact ret_v (by first | trivial | (simp; done) | (simp; omega)) (by rw [← hr] <;> first | rfl | (simp [nullV]; done) | (simp_all [nullV]; done)) (by simp only [ends, ite_true, ite_false, reduceIte, Nat.reduceEqDiff, Nat.reduceLeDiff, Nat.reduceLT, Nat.reduceAdd, reduceCtorEq, num, boo, str, ints, aV, aTab, aInst, aS, aT, aC])
  · refine callx_of [[0]] [] rfl (c_bool 0) (by first | (simp; done) | (simp [rowsOf_length]; done) | (simp [rowsOf_length]; omega)) (by first | (simp only [ends, ite_true, ite_false, reduceIte, Nat.reduceEqDiff, Nat.reduceLeDiff, Nat.reduceLT, Nat.reduceAdd, reduceCtorEq, num, boo, str, ints, aV, aTab, aInst, aS, aT, aC, num, boo, str, aE_eq, aV]; done) | simp [ends, ite_true, ite_false, reduceIte, Nat.reduceEqDiff, Nat.reduceLeDiff, Nat.reduceLT, Nat.reduceAdd, reduceCtorEq, num, boo, str, ints, aV, aTab, aInst, aS, aT, aC, num, boo, str, aE_eq, aV]) (by first | rfl | (simp only [ends, ite_true, ite_false, reduceIte, Nat.reduceEqDiff, Nat.reduceLeDiff, Nat.reduceLT, Nat.reduceAdd, reduceCtorEq, num, boo, str, ints, aV, aTab, aInst, aS, aT, aC, num, boo, str, aE_eq, aV]; done) | simp [ends, ite_true, ite_false, reduceIte, Nat.reduceEqDiff, Nat.reduceLeDiff, Nat.reduceLT, Nat.reduceAdd, reduceCtorEq, num, boo, str, ints, aV, aTab, aInst, aS, aT, aC, num, boo, str, aE_eq, aV]) (by simp only [ends, ite_true, ite_false, reduceIte, Nat.reduceEqDiff, Nat.reduceLeDiff, Nat.reduceLT, Nat.reduceAdd, reduceCtorEq, num, boo, str, ints, aV, aTab, aInst, aS, aT, aC]) (by simp [idsOk, lookO, updO, ren1]) ?_
    simp -implicitDefEqProofs only [aV, ↓steps, push_cast, reduceIte, Nat.reduceEqDiff, Nat.reduceAdd, Nat.reduceMul, Nat.reduceLT, Nat.reduceLeDiff, Int.reduceToNat, Int.reduceLE, Int.reduceLT, reduceCtorEq, tte, num, boo, str, ints, aV, aTab, aInst, aS, aT, aC]
    exact ret_v (by first | trivial | (simp; done) | (simp; omega)) (by rw [← hr] <;> first | rfl | (simp [ofV, boolV]; done) | (simp_all [ofV, boolV]; done)) (by simp only [ends, ite_true, ite_false, reduceIte, Nat.reduceEqDiff, Nat.reduceLeDiff, Nat.reduceLT, Nat.reduceAdd, reduceCtorEq, num, boo, str, ints, aV, aTab, aInst, aS, aT, aC])
theorem c_rand (a b : Val) : ACall Tryd.prog 58 [aV a, aV b] [] (aV (andM a b)) [] := by
  refine ACall.enter mixed ttok Tryd.func58 rfl rfl _ Tryd.ntmps58 (Nat.le_of_ble_eq_true rfl) (by kernel_rfl) _ (congrArg Array.toList Tryd.results58) ?_
  generalize hr : aV (andM a b) = R
  simp -implicitDefEqProofs only [argT, tabN, ↓steps, push_cast, reduceIte, Nat.reduceEqDiff, Nat.reduceAdd, Nat.reduceMul, Nat.reduceLT, Nat.reduceLeDiff, Int.reduceToNat, Int.reduceLE, Int.reduceLT, reduceCtorEq, tte, num, boo, str, ints, aV, aTab, aInst, aS, aT, aC]
  refine callx_of [[0, 0, 0]] [] rfl (c_rTruth a) (by first | (simp; done) | (simp [rowsOf_length]; done) | (simp [rowsOf_length]; omega)) (by first | (simp only [ends, ite_true, ite_false, reduceIte, Nat.reduceEqDiff, Nat.reduceLeDiff, Nat.reduceLT, Nat.reduceAdd, reduceCtorEq, num, boo, str, ints, aV, aTab, aInst, aS, aT, aC, num, boo, str, aE_eq, aV]; done) | simp [ends, ite_true, ite_false, reduceIte, Nat.reduceEqDiff, Nat.reduceLeDiff, Nat.reduceLT, Nat.reduceAdd, reduceCtorEq, num, boo, str, ints, aV, aTab, aInst, aS, aT, aC, num, boo, str, aE_eq, aV]) (by first | rfl | (simp only [ends, ite_true, ite_false, reduceIte, Nat.reduceEqDiff, Nat.reduceLeDiff, Nat.reduceLT, Nat.reduceAdd, reduceCtorEq, num, boo, str, ints, aV, aTab, aInst, aS, aT, aC, num, boo, str, aE_eq, aV]; done) | simp [ends, ite_true, ite_false, reduceIte, Nat.reduceEqDiff, Nat.reduceLeDiff, Nat.reduceLT, Nat.reduceAdd, reduceCtorEq, num, boo, str, ints, aV, aTab, aInst, aS, aT, aC, num, boo, str, aE_eq, aV]) (by simp only [ends, ite_true, ite_false, reduceIte, Nat.reduceEqDiff, Nat.reduceLeDiff, Nat.reduceLT, Nat.reduceAdd, reduceCtorEq, num, boo, str, ints, aV, aTab, aInst, aS, aT, aC]) (by simp [idsOk, lookO, updO, ren1]) ?_
  simp -implicitDefEqProofs only [↓steps, push_cast, reduceIte, Nat.reduceEqDiff, Nat.reduceAdd, Nat.reduceMul, Nat.reduceLT, Nat.reduceLeDiff, Int.reduceToNat, Int.reduceLE, Int.reduceLT, reduceCtorEq, tte, num, boo, str, ints, aV, aTab, aInst, aS, aT, aC]
  refine callx_of [[0, 0, 0]] [] rfl (c_rTruth b) (by first | (simp; done) | (simp [rowsOf_length]; done) | (simp [rowsOf_length]; omega)) (by first | (simp only [ends, ite_true, ite_false, reduceIte, Nat.reduceEqDiff, Nat.reduceLeDiff, Nat.reduceLT, Nat.reduceAdd, reduceCtorEq, num, boo, str, ints, aV, aTab, aInst, aS, aT, aC, num, boo, str, aE_eq, aV]; done) | simp [ends, ite_true, ite_false, reduceIte, Nat.reduceEqDiff, Nat.reduceLeDiff, Nat.reduceLT, Nat.reduceAdd, reduceCtorEq, num, boo, str, ints, aV, aTab, aInst, aS, aT, aC, num, boo, str, aE_eq, aV]) (by first | rfl | (simp only [ends, ite_true, ite_false, reduceIte, Nat.reduceEqDiff, Nat.reduceLeDiff, Nat.reduceLT, Nat.reduceAdd, reduceCtorEq, num, boo, str, ints, aV, aTab, aInst, aS, aT, aC, num, boo, str, aE_eq, aV]; done) | simp [ends, ite_true, ite_false, reduceIte, Nat.reduceEqDiff, Nat.reduceLeDiff, Nat.reduceLT, Nat.reduceAdd, reduceCtorEq, num, boo, str, ints, aV, aTab, aInst, aS, aT, aC, num, boo, str, aE_eq, aV]) (by simp only [ends, ite_true, ite_false, reduceIte, Nat.reduceEqDiff, Nat.reduceLeDiff, Nat.reduceLT, Nat.reduceAdd, reduceCtorEq, num, boo, str, ints, aV, aTab, aInst, aS, aT, aC]) (by simp [idsOk, lookO, updO, ren1]) ?_
  simp -implicitDefEqProofs only [↓steps, push_cast, reduceIte, Nat.reduceEqDiff, Nat.reduceAdd, Nat.reduceMul, Nat.reduceLT, Nat.reduceLeDiff, Int.reduceToNat, Int.reduceLE, Int.reduceLT, reduceCtorEq, tte, num, boo, str, ints, aV, aTab, aInst, aS, aT, aC]
  refine ⟨drawx_intro (by kernel_rfl), ?_⟩
  unfold andM at hr
  generalize truthM a = x at hr
  generalize truthM b = y at hr
  refine bcase_intro (fun h1 => ?_) fun h1 => ?_
  · refine callx_of [[0]] [] rfl (c_rbool 0) (by first | (simp; done) | (simp [rowsOf_length]; done) | (simp [rowsOf_length]; omega)) (by first | (simp only [ends, ite_true, ite_false, reduceIte, Nat.reduceEqDiff, Nat.reduceLeDiff, Nat.reduceLT, Nat.reduceAdd, reduceCtorEq, num, boo, str, ints, aV, aTab, aInst, aS, aT, aC, num, boo, str, aE_eq, aV]; done) | simp [ends, ite_true, ite_false, reduceIte, Nat.reduceEqDiff, Nat.reduceLeDiff, Nat.reduceLT, Nat.reduceAdd, reduceCtorEq, num, boo, str, ints, aV, aTab, aInst, aS, aT, aC, num, boo, str, aE_eq, aV]) (by first | rfl | (simp only [ends, ite_true, ite_false, reduceIte, Nat.reduceEqDiff, Nat.reduceLeDiff, Nat.reduceLT, Nat.reduceAdd, reduceCtorEq, num, boo, str, ints, aV, aTab, aInst, aS, aT, aC, num, boo, str, aE_eq, aV]; done) | simp [ends, ite_true, ite_false, reduceIte, Nat.reduceEqDiff, Nat.reduceLeDiff, Nat.reduceLT, Nat.reduceAdd, reduceCtorEq, num, boo, str, ints, aV, aTab, aInst, aS, aT, aC, num, boo, str, aE_eq, aV]) (by simp only [ends, ite_true, ite_false, reduceIte, Nat.reduceEqDiff, Nat.reduceLeDiff, Nat.reduceLT, Nat.reduceAdd, reduceCtorEq, num, boo, str, ints, aV, aTab, aInst, aS, aT, aC]) (by simp [idsOk, lookO, updO, ren1]) ?_
    simp -implicitDefEqProofs only [aV, ↓steps, push_cast, reduceIte, Nat.reduceEqDiff, Nat.reduceAdd, Nat.reduceMul, Nat.reduceLT, Nat.reduceLeDiff, Int.reduceToNat, Int.reduceLE, Int.reduceLT, reduceCtorEq, tte, num, boo, str, ints, aV, aTab, aInst, aS, aT, aC]
    exact ret_v (by first | trivial | (simp; done) | (simp; omega)) (by rw [← hr] <;> first | rfl | (simp [ofV, boolV]; done) | (simp_all [ofV, boolV]; done)) (by simp only [ends, ite_true, ite_false, reduceIte, Nat.reduceEqDiff, Nat.reduceLeDiff, Nat.reduceLT, Nat.reduceAdd, reduceCtorEq, num, boo, str, ints, aV, aTab, aInst, aS, aT, aC])
  refine bcase_intro (fun h2 => ?_) fun h2 => ?_
  · refine callx_of [[0]] [] rfl (c_rbool 0) (by first | (simp; done) | (simp [rowsOf_length]; done) | (simp [rowsOf_length]; omega)) (by first | (simp only [ends, ite_true, ite_false, reduceIte, Nat.reduceEqDiff, Nat.reduceLeDiff, Nat.reduceLT, Nat.reduceAdd, reduceCtorEq, num, boo, str, ints, aV, aTab, aInst, aS, aT, aC, num, boo, str, aE_eq, aV]; done) | simp [ends, ite_true, ite_false, reduceIte, Nat.reduceEqDiff, Nat.reduceLeDiff, Nat.reduceLT, Nat.reduceAdd, reduceCtorEq, num, boo, str, ints, aV, aTab, aInst, aS, aT, aC, num, boo, str, aE_eq, aV]) (by first | rfl | (simp only [ends, ite_true, ite_false, reduceIte, Nat.reduceEqDiff, Nat.reduceLeDiff, Nat.reduceLT, Nat.reduceAdd, reduceCtorEq, num, boo, str, ints, aV, aTab, aInst, aS, aT, aC, num, boo, str, aE_eq, aV]; done) | simp [ends, ite_true, ite_false, reduceIte, Nat.reduceEqDiff, Nat.reduceLeDiff, Nat.reduceLT, Nat.reduceAdd, reduceCtorEq, num, boo, str, ints, aV, aTab, aInst, aS, aT, aC, num, boo, str, aE_eq, aV]) (by simp only [ends, ite_true, ite_false, reduceIte, Nat.reduceEqDiff, Nat.reduceLeDiff, Nat.reduceLT, Nat.reduceAdd, reduceCtorEq, num, boo, str, ints, aV, aTab, aInst, aS, aT, aC]) (by simp [idsOk, lookO, updO, ren1]) ?_
    simp -implicitDefEqProofs only [aV, ↓steps, push_cast, reduceIte, Nat.reduceEqDiff, Nat.reduceAdd, Nat.reduceMul, Nat.reduceLT, Nat.reduceLeDiff, Int.reduceToNat, Int.reduceLE, Int.reduceLT, reduceCtorEq, tte, num, boo, str, ints, aV, aTab, aInst, aS, aT, aC]
    exact ret_v (by first | trivial | (simp; done) | (simp; omega)) (by rw [← hr] <;> first | rfl | (simp [ofV, boolV]; done) | (simp_all [ofV, boolV]; done)) (by simp only [ends, ite_true, ite_false, reduceIte, Nat.reduceEqDiff, Nat.reduceLeDiff, Nat.reduceLT, Nat.reduceAdd, reduceCtorEq, num, boo, str, ints, aV, aTab, aInst, aS, aT, aC])
  refine bcase_intro (fun h3 => ?_) fun h3 => ?_
  · exact ret_v (by first | trivial | (simp; done) | (simp; omega)) (by rw [← hr] <;> first | rfl | (simp [nullV]; done) | (simp_all [nullV]; done)) (by simp only [ends, ite_true, ite_false, reduceIte, Nat.reduceEqDiff, Nat.reduceLeDiff, Nat.reduceLT, Nat.reduceAdd, reduceCtorEq, num, boo, str, ints, aV, aTab, aInst, aS, aT, aC])
  refine bcase_intro (fun h4 => ?_) fun h4 => ?_
  · exact ret_v (by first | trivial | (simp; done) | (simp; omega)) (by rw [← hr] <;> first | rfl | (simp [nullV]; done) | (simp_all [nullV]; done)) (by simp only [ends, ite_true, ite_false, reduceIte, Nat.reduceEqDiff, Nat.reduceLeDiff, Nat.reduceLT, Nat.reduceAdd, reduceCtorEq, num, boo, str, ints, aV, aTab, aInst, aS, aT, aC])
  · refine callx_of [[0]] [] rfl (c_rbool 1) (by first | (simp; done) | (simp [rowsOf_length]; done) | (simp [rowsOf_length]; omega)) (by first | (simp only [ends, ite_true, ite_false, reduceIte, Nat.reduceEqDiff, Nat.reduceLeDiff, Nat.reduceLT, Nat.reduceAdd, reduceCtorEq, num, boo, str, ints, aV, aTab, aInst, aS, aT, aC, num, boo, str, aE_eq, aV]; done) | simp [ends, ite_true, ite_false, reduceIte, Nat.reduceEqDiff, Nat.reduceLeDiff, Nat.reduceLT, Nat.reduceAdd, reduceCtorEq, num, boo, str, ints, aV, aTab, aInst, aS, aT, aC, num, boo, str, aE_eq, aV]) (by first | rfl | (simp only [ends, ite_true, ite_false, reduceIte, Nat.reduceEqDiff, Nat.reduceLeDiff, Nat.reduceLT, Nat.reduceAdd, reduceCtorEq, num, boo, str, ints, aV, aTab, aInst, aS, aT, aC, num, boo, str, aE_eq, aV]; done) | simp [ends, ite_true, ite_false, reduceIte, Nat.reduceEqDiff, Nat.reduceLeDiff, Nat.reduceLT, Nat.reduceAdd, reduceCtorEq, num, boo, str, ints, aV, aTab, aInst, aS, aT, aC, num, boo, str, aE_eq, aV]) (by simp only [ends, ite_true, ite_false, reduceIte, Nat.reduceEqDiff, Nat.reduceLeDiff, Nat.reduceLT, Nat.reduceAdd, reduceCtorEq, num, boo, str, ints, aV, aTab, aInst, aS, aT, aC]) (by simp [idsOk, lookO, updO, ren1]) ?_
    simp -implicitDefEqProofs only [aV, ↓steps, push_cast, reduceIte, Nat.reduceEqDiff, Nat.reduceAdd, Nat.reduceMul, Nat.reduceLT, Nat.reduceLeDiff, Int.reduceToNat, Int.reduceLE, Int.reduceLT, reduceCtorEq, tte, num, boo, str, ints, aV, aTab, aInst, aS, aT, aC]
    exact ret_v (by first | trivial | (simp; done) | (simp; omega)) (by rw [← hr] <;> first | rfl | (simp [ofV, boolV]; done) | (simp_all [ofV, boolV]; done)) (by simp only [ends, ite_true, ite_false, reduceIte, Nat.reduceEqDiff, Nat.reduceLeDiff, Nat.reduceLT, Nat.reduceAdd, reduceCtorEq, num, boo, str, ints, aV, aTab, aInst, aS, aT, aC])
theorem c_ror (a b : Val) : ACall Tryd.prog 59 [aV a, aV b] [] (aV (orM a b)) [] := by
  refine ACall.enter mixed ttok Tryd.func59 rfl rfl _ Tryd.ntmps59 (Nat.le_of_ble_eq_true rfl) (by kernel_rfl) _ (congrArg Array.toList Tryd.results59) ?_
  generalize hr : aV (orM a b) = R
  simp -implicitDefEqProofs only [argT, tabN, ↓steps, push_cast, reduceIte, Nat.reduceEqDiff, Nat.reduceAdd, Nat.reduceMul, Nat.reduceLT, Nat.reduceLeDiff, Int.reduceToNat, Int.reduceLE, Int.reduceLT, reduceCtorEq, tte, num, boo, str, ints, aV, aTab, aInst, aS, aT, aC]
  refine callx_of [[0, 0, 0]] [] rfl (c_rTruth a) (by first | (simp; done) | (simp [rowsOf_length]; done) | (simp [rowsOf_length]; omega)) (by first | (simp only [ends, ite_true, ite_false, reduceIte, Nat.reduceEqDiff, Nat.reduceLeDiff, Nat.reduceLT, Nat.reduceAdd, reduceCtorEq, num, boo, str, ints, aV, aTab, aInst, aS, aT, aC, num, boo, str, aE_eq, aV]; done) | simp [ends, ite_true, ite_false, reduceIte, Nat.reduceEqDiff, Nat.reduceLeDiff, Nat.reduceLT, Nat.reduceAdd, reduceCtorEq, num, boo, str, ints, aV, aTab, aInst, aS, aT, aC, num, boo, str, aE_eq, aV]) (by first | rfl | (simp only [ends, ite_true, ite_false, reduceIte, Nat.reduceEqDiff, Nat.reduceLeDiff, Nat.reduceLT, Nat.reduceAdd, reduceCtorEq, num, boo, str, ints, aV, aTab, aInst, aS, aT, aC, num, boo, str, aE_eq, aV]; done) | simp [ends, ite_true, ite_false, reduceIte, Nat.reduceEqDiff, Nat.reduceLeDiff, Nat.reduceLT, Nat.reduceAdd, reduceCtorEq, num, boo, str, ints, aV, aTab, aInst, aS, aT, aC, num, boo, str, aE_eq, aV]) (by simp only [ends, ite_true, ite_false, reduceIte, Nat.reduceEqDiff, Nat.reduceLeDiff, Nat.reduceLT, Nat.reduceAdd, reduceCtorEq, num, boo, str, ints, aV, aTab, aInst, aS, aT, aC]) (by simp [idsOk, lookO, updO, ren1]) ?_
  simp -implicitDefEqProofs only [↓steps, push_cast, reduceIte, Nat.reduceEqDiff, Nat.reduceAdd, Nat.reduceMul, Nat.reduceLT, Nat.reduceLeDiff, Int.reduceToNat, Int.reduceLE, Int.reduceLT, reduceCtorEq, tte, num, boo, str, ints, aV, aTab, aInst, aS, aT, aC]
  refine callx_of [[0, 0, 0]] [] rfl (c_rTruth b) (by first | (simp; done) | (simp [rowsOf_length]; done) | (simp [rowsOf_length]; omega)) (by first | (simp only [ends, ite_true, ite_false, reduceIte, Nat.reduceEqDiff, Nat.reduceLeDiff, Nat.reduceLT, Nat.reduceAdd, reduceCtorEq, num, boo, str, ints, aV, aTab, aInst, aS, aT, aC, num, boo, str, aE_eq, aV]; done) | simp [ends, ite_true, ite_false, reduceIte, Nat.reduceEqDiff, Nat.reduceLeDiff, Nat.reduceLT, Nat.reduceAdd, reduceCtorEq, num, boo, str, ints, aV, aTab, aInst, aS, aT, aC, num, boo, str, aE_eq, aV]) (by first | rfl | (simp only [ends, ite_true, ite_false, reduceIte, Nat.reduceEqDiff, Nat.reduceLeDiff, Nat.reduceLT, Nat.reduceAdd, reduceCtorEq, num, boo, str, ints, aV, aTab, aInst, aS, aT, aC, num, boo, str, aE_eq, aV]; done) | simp [ends, ite_true, ite_false, reduceIte, Nat.reduceEqDiff, Nat.reduceLeDiff, Nat.reduceLT, Nat.reduceAdd, reduceCtorEq, num, boo, str, ints, aV, aTab, aInst, aS, aT, aC, num, boo, str, aE_eq, aV]) (by simp only [ends, ite_true, ite_false, reduceIte, Nat.reduceEqDiff, Nat.reduceLeDiff, Nat.reduceLT, Nat.reduceAdd, reduceCtorEq, num, boo, str, ints, aV, aTab, aInst, aS, aT, aC]) (by simp [idsOk, lookO, updO, ren1]) ?_
  simp -implicitDefEqProofs only [↓steps, push_cast, reduceIte, Nat.reduceEqDiff, Nat.reduceAdd, Nat.reduceMul, Nat.reduceLT, Nat.reduceLeDiff, Int.reduceToNat, Int.reduceLE, Int.reduceLT, reduceCtorEq, tte, num, boo, str, ints, aV, aTab, aInst, aS, aT, aC]
  refine ⟨drawx_intro (by kernel_rfl), ?_⟩
  unfold orM at hr
  generalize truthM a = x at hr
  generalize truthM b = y at hr
  refine bcase_intro (fun h1 => ?_) fun h1 => ?_
  · refine callx_of [[0]] [] rfl (c_rbool 1) (by first | (simp; done) | (simp [rowsOf_length]; done) | (simp [rowsOf_length]; omega)) (by first | (simp only [ends, ite_true, ite_false, reduceIte, Nat.reduceEqDiff, Nat.reduceLeDiff, Nat.reduceLT, Nat.reduceAdd, reduceCtorEq, num, boo, str, ints, aV, aTab, aInst, aS, aT, aC, num, boo, str, aE_eq, aV]; done) | simp [ends, ite_true, ite_false, reduceIte, Nat.reduceEqDiff, Nat.reduceLeDiff, Nat.reduceLT, Nat.reduceAdd, reduceCtorEq, num, boo, str, ints, aV, aTab, aInst, aS, aT, aC, num, boo, str, aE_eq, aV]) (by first | rfl | (simp only [ends, ite_true, ite_false, reduceIte, Nat.reduceEqDiff, Nat.reduceLeDiff, Nat.reduceLT, Nat.reduceAdd, reduceCtorEq, num, boo, str, ints, aV, aTab, aInst, aS, aT, aC, num, boo, str, aE_eq, aV]; done) | simp [ends, ite_true, ite_false, reduceIte, Nat.reduceEqDiff, Nat.reduceLeDiff, Nat.reduceLT, Nat.reduceAdd, reduceCtorEq, num, boo, str, ints, aV, aTab, aInst, aS, aT, aC, num, boo, str, aE_eq, aV]) (by simp only [ends, ite_true, ite_false, reduceIte, Nat.reduceEqDiff, Nat.reduceLeDiff, Nat.reduceLT, Nat.reduceAdd, reduceCtorEq, num, boo, str, ints, aV, aTab, aInst, aS, aT, aC]) (by simp [idsOk, lookO, updO, ren1]) ?_
    simp -implicitDefEqProofs only [aV, ↓steps, push_cast, reduceIte, Nat.reduceEqDiff, Nat.reduceAdd, Nat.reduceMul, Nat.reduceLT, Nat.reduceLeDiff, Int.reduceToNat, Int.reduceLE, Int.reduceLT, reduceCtorEq, tte, num, boo, str, ints, aV, aTab, aInst, aS, aT, aC]
    exact ret_v (by first | trivial | (simp; done) | (simp; omega)) (by rw [← hr] <;> first | rfl | (simp [ofV, boolV]; done) | (simp_all [ofV, boolV]; done)) (by simp only [ends, ite_true, ite_false, reduceIte, Nat.reduceEqDiff, Nat.reduceLeDiff, Nat.reduceLT, Nat.reduceAdd, reduceCtorEq, num, boo, str, ints, aV, aTab, aInst, aS, aT, aC])
  refine bcase_intro (fun h2 => ?_) fun h2 => ?_
  · refine callx_of [[0]] [] rfl (c_rbool 1) (by first | (simp; done) | (simp [rowsOf_length]; done) | (simp [rowsOf_length]; omega)) (by first | (simp only [ends, ite_true, ite_false, reduceIte, Nat.reduceEqDiff, Nat.reduceLeDiff, Nat.reduceLT, Nat.reduceAdd, reduceCtorEq, num, boo, str, ints, aV, aTab, aInst, aS, aT, aC, num, boo, str, aE_eq, aV]; done) | simp [ends, ite_true, ite_false, reduceIte, Nat.reduceEqDiff, Nat.reduceLeDiff, Nat.reduceLT, Nat.reduceAdd, reduceCtorEq, num, boo, str, ints, aV, aTab, aInst, aS, aT, aC, num, boo, str, aE_eq, aV]) (by first | rfl | (simp only [ends, ite_true, ite_false, reduceIte, Nat.reduceEqDiff, Nat.reduceLeDiff, Nat.reduceLT, Nat.reduceAdd, reduceCtorEq, num, boo, str, ints, aV, aTab, aInst, aS, aT, aC, num, boo, str, aE_eq, aV]; done) | simp [ends, ite_true, ite_false, reduceIte, Nat.reduceEqDiff, Nat.reduceLeDiff, Nat.reduceLT, Nat.reduceAdd, reduceCtorEq, num, boo, str, ints, aV, aTab, aInst, aS, aT, aC, num, boo, str, aE_eq, aV]) (by simp only [ends, ite_true, ite_false, reduceIte, Nat.reduceEqDiff, Nat.reduceLeDiff, Nat.reduceLT, Nat.reduceAdd, reduceCtorEq, num, boo, str, ints, aV, aTab, aInst, aS, aT, aC]) (by simp [idsOk, lookO, updO, ren1]) ?_
    simp -implicitDefEqProofs only [aV, ↓steps, push_cast, reduceIte, Nat.reduceEqDiff, Nat.reduceAdd, Nat.reduceMul, Nat.reduceLT, Nat.reduceLeDiff, Int.reduceToNat, Int.reduceLE, Int.reduceLT, reduceCtorEq, tte, num, boo, str, ints, aV, aTab, aInst, aS, aT, aC]
    exact ret_v (by first | trivial | (simp; done) | (simp; omega)) (by rw [← hr] <;> first | rfl | (simp [ofV, boolV]; done) | (simp_all [ofV, boolV]; done)) (by simp only [ends, ite_true, ite_false, reduceIte, Nat.reduceEqDiff, Nat.reduceLeDiff, Nat.reduceLT, Nat.reduceAdd, reduceCtorEq, num, boo, str, ints, aV, aTab, aInst, aS, aT, aC])
  refine bcase_intro (fun h3 => ?_) fun h3 => ?_
  · exact ret_v (by first | trivial | (simp; done) | (simp; omega)) (by rw [← hr] <;> first | rfl | (simp [nullV]; done) | (simp_all [nullV]; done)) (by simp only [ends, ite_true, ite_false, reduceIte, Nat.reduceEqDiff, Nat.reduceLeDiff, Nat.reduceLT, Nat.reduceAdd, reduceCtorEq, num, boo, str, ints, aV, aTab, aInst, aS, aT, aC])
  refine bcase_intro (fun h4 => ?_) fun h4 => ?_
  · exact ret_v (by first | trivial | (simp; done) | (simp; omega)) (by rw [← hr] <;> first | rfl | (simp [nullV]; done) | (simp_all [nullV]; done)) (by simp only [ends, ite_true, ite_false, reduceIte, Nat.reduceEqDiff, Nat.reduceLeDiff, Nat.reduceLT, Nat.reduceAdd, reduceCtorEq, num, boo, str, ints, aV, aTab, aInst, aS, aT, aC])
  · refine callx_of [[0]] [] rfl (c_rbool 0) (by first | (simp; done) | (simp [rowsOf_length]; done) | (simp [rowsOf_length]; omega)) (by first | (simp only [ends, ite_true, ite_false, reduceIte, Nat.reduceEqDiff, Nat.reduceLeDiff, Nat.reduceLT, Nat.reduceAdd, reduceCtorEq, num, boo, str, ints, aV, aTab, aInst, aS, aT, aC, num, boo, str, aE_eq, aV]; done) | simp [ends, ite_true, ite_false, reduceIte, Nat.reduceEqDiff, Nat.reduceLeDiff, Nat.reduceLT, Nat.reduceAdd, reduceCtorEq, num, boo, str, ints, aV, aTab, aInst, aS, aT, aC, num, boo, str, aE_eq, aV]) (by first | rfl | (simp only [ends, ite_true, ite_false, reduceIte, Nat.reduceEqDiff, Nat.reduceLeDiff, Nat.reduceLT, Nat.reduceAdd, reduceCtorEq, num, boo, str, ints, aV, aTab, aInst, aS, aT, aC, num, boo, str, aE_eq, aV]; done) | simp [ends, ite_true, ite_false, reduceIte, Nat.reduceEqDiff, Nat.reduceLeDiff, Nat.reduceLT, Nat.reduceAdd, reduceCtorEq, num, boo, str, ints, aV, aTab, aInst, aS, aT, aC, num, boo, str, aE_eq, aV]) (by simp only [ends, ite_true, ite_false, reduceIte, Nat.reduceEqDiff, Nat.reduceLeDiff, Nat.reduceLT, Nat.reduceAdd, reduceCtorEq, num, boo, str, ints, aV, aTab, aInst, aS, aT, aC]) (by simp [idsOk, lookO, updO, ren1]) ?_
    simp -implicitDefEqProofs only [aV, ↓steps, push_cast, reduceIte, Nat.reduceEqDiff, Nat.reduceAdd, Nat.reduceMul, Nat.reduceLT, Nat.reduceLeDiff, Int.reduceToNat, Int.reduceLE, Int.reduceLT, reduceCtorEq, tte, num, boo, str, ints, aV, aTab, aInst, aS, aT, aC]
    exact ret_v (by first | trivial | (simp; done) | (simp; omega)) (by rw [← hr] <;> first | rfl | (simp [ofV, boolV]; done) | (simp_all [ofV, boolV]; done)) (by simp only [ends, ite_true, ite_false, reduceIte, Nat.reduceEqDiff, Nat.reduceLeDiff, Nat.reduceLT, Nat.reduceAdd, reduceCtorEq, num, boo, str, ints, aV, aTab, aInst, aS, aT, aC])

def cmpI (x y : Int) : Int := if x < y then -1 else if x > y then 1 else 0
def cmpS (x y : ByteArray) : Int := if Op.bytesLess x.toList y.toList then -1 else if x.toList = y.toList then 0 else 1
def cmpM (a b : Val) : Int := if cmpI a.kind b.kind ≠ 0 then cmpI a.kind b.kind else if cmpI a.num b.num ≠ 0 then cmpI a.num b.num else cmpS a.text b.text

theorem c_isNaN (x : Int) : ACall Tryd.prog 103 [num x] [] (boo false) [] := by
  refine ACall.enter mixed ttok Tryd.func103 rfl rfl _ Tryd.ntmps103 (Nat.le_of_ble_eq_true rfl) (by kernel_rfl) _ (congrArg Array.toList Tryd.results103) ?_
  generalize hr : boo false = R
  simp -implicitDefEqProofs only [argT, ↓steps, push_cast, reduceIte, Nat.reduceEqDiff, Nat.reduceAdd, Nat.reduceMul, Nat.reduceLT, Nat.reduceLeDiff, Int.reduceToNat, Int.reduceLE, Int.reduceLT, reduceCtorEq, tte, num, boo, str, ints, aV, aTab, aInst, aS, aT, aC]
  exact ret_d trivial (by rw [← hr]; rfl) (by simp only [ends, ite_true, ite_false, reduceIte, Nat.reduceEqDiff, Nat.reduceLeDiff, Nat.reduceLT, Nat.reduceAdd, reduceCtorEq, num, boo, str, ints, aV, aTab, aInst, aS, aT, aC])
theorem c_isNaN64 (x : Int) : ACall Tryd.prog 104 [num x] [] (boo false) [] := by
  refine ACall.enter mixed ttok Tryd.func104 rfl rfl _ Tryd.ntmps104 (Nat.le_of_ble_eq_true rfl) (by kernel_rfl) _ (congrArg Array.toList Tryd.results104) ?_
  generalize hr : boo false = R
  simp -implicitDefEqProofs only [argT, ↓steps, push_cast, reduceIte, Nat.reduceEqDiff, Nat.reduceAdd, Nat.reduceMul, Nat.reduceLT, Nat.reduceLeDiff, Int.reduceToNat, Int.reduceLE, Int.reduceLT, reduceCtorEq, tte, num, boo, str, ints, aV, aTab, aInst, aS, aT, aC]
  exact ret_d trivial (by rw [← hr]; rfl) (by simp only [ends, ite_true, ite_false, reduceIte, Nat.reduceEqDiff, Nat.reduceLeDiff, Nat.reduceLT, Nat.reduceAdd, reduceCtorEq, num, boo, str, ints, aV, aTab, aInst, aS, aT, aC])
theorem c_isNaNs (x : ByteArray) : ACall Tryd.prog 105 [str x] [] (boo false) [] := by
  refine ACall.enter mixed ttok Tryd.func105 rfl rfl _ Tryd.ntmps105 (Nat.le_of_ble_eq_true rfl) (by kernel_rfl) _ (congrArg Array.toList Tryd.results105) ?_
  generalize hr : boo false = R
  simp -implicitDefEqProofs only [argT, ↓steps, push_cast, reduceIte, Nat.reduceEqDiff, Nat.reduceAdd, Nat.reduceMul, Nat.reduceLT, Nat.reduceLeDiff, Int.reduceToNat, Int.reduceLE, Int.reduceLT, reduceCtorEq, tte, num, boo, str, ints, aV, aTab, aInst, aS, aT, aC]
  exact ret_d trivial (by rw [← hr]; simp [boo]) (by simp only [ends, ite_true, ite_false, reduceIte, Nat.reduceEqDiff, Nat.reduceLeDiff, Nat.reduceLT, Nat.reduceAdd, reduceCtorEq, num, boo, str, ints, aV, aTab, aInst, aS, aT, aC])

theorem c_cmpI (x y : Int) : ACall Tryd.prog 46 [num x, num y] [] (num (cmpI x y)) [] := by
  refine ACall.enter mixed ttok Tryd.func46 rfl rfl _ Tryd.ntmps46 (Nat.le_of_ble_eq_true rfl) (by kernel_rfl) _ (congrArg Array.toList Tryd.results46) ?_
  generalize hr : num (cmpI x y) = R
  simp -implicitDefEqProofs only [argT, ↓steps, push_cast, reduceIte, Nat.reduceEqDiff, Nat.reduceAdd, Nat.reduceMul, Nat.reduceLT, Nat.reduceLeDiff, Int.reduceToNat, Int.reduceLE, Int.reduceLT, reduceCtorEq, tte, num, boo, str, ints, aV, aTab, aInst, aS, aT, aC]
  refine callx_of [[0]] [] rfl (c_isNaN x) (by first | (simp; done) | (simp [rowsOf_length]; done) | (simp [rowsOf_length]; omega)) (by first | (simp only [ends, ite_true, ite_false, reduceIte, Nat.reduceEqDiff, Nat.reduceLeDiff, Nat.reduceLT, Nat.reduceAdd, reduceCtorEq, num, boo, str, ints, aV, aTab, aInst, aS, aT, aC, num, boo, str, aE_eq, aV]; done) | simp [ends, ite_true, ite_false, reduceIte, Nat.reduceEqDiff, Nat.reduceLeDiff, Nat.reduceLT, Nat.reduceAdd, reduceCtorEq, num, boo, str, ints, aV, aTab, aInst, aS, aT, aC, num, boo, str, aE_eq, aV]) (by first | rfl | (simp only [ends, ite_true, ite_false, reduceIte, Nat.reduceEqDiff, Nat.reduceLeDiff, Nat.reduceLT, Nat.reduceAdd, reduceCtorEq, num, boo, str, ints, aV, aTab, aInst, aS, aT, aC, num, boo, str, aE_eq, aV]; done) | simp [ends, ite_true, ite_false, reduceIte, Nat.reduceEqDiff, Nat.reduceLeDiff, Nat.reduceLT, Nat.reduceAdd, reduceCtorEq, num, boo, str, ints, aV, aTab, aInst, aS, aT, aC, num, boo, str, aE_eq, aV]) (by simp only [ends, ite_true, ite_false, reduceIte, Nat.reduceEqDiff, Nat.reduceLeDiff, Nat.reduceLT, Nat.reduceAdd, reduceCtorEq, num, boo, str, ints, aV, aTab, aInst, aS, aT, aC]) (by simp [idsOk, lookO, updO, ren1]) ?_
  simp -implicitDefEqProofs only [↓steps, push_cast, reduceIte, Nat.reduceEqDiff, Nat.reduceAdd, Nat.reduceMul, Nat.reduceLT, Nat.reduceLeDiff, Int.reduceToNat, Int.reduceLE, Int.reduceLT, reduceCtorEq, tte, num, boo, str, ints, aV, aTab, aInst, aS, aT, aC]
  refine callx_of [[0]] [] rfl (c_isNaN y) (by first | (simp; done) | (simp [rowsOf_length]; done) | (simp [rowsOf_length]; omega)) (by first | (simp only [ends, ite_true, ite_false, reduceIte, Nat.reduceEqDiff, Nat.reduceLeDiff, Nat.reduceLT, Nat.reduceAdd, reduceCtorEq, num, boo, str, ints, aV, aTab, aInst, aS, aT, aC, num, boo, str, aE_eq, aV]; done) | simp [ends, ite_true, ite_false, reduceIte, Nat.reduceEqDiff, Nat.reduceLeDiff, Nat.reduceLT, Nat.reduceAdd, reduceCtorEq, num, boo, str, ints, aV, aTab, aInst, aS, aT, aC, num, boo, str, aE_eq, aV]) (by first | rfl | (simp only [ends, ite_true, ite_false, reduceIte, Nat.reduceEqDiff, Nat.reduceLeDiff, Nat.reduceLT, Nat.reduceAdd, reduceCtorEq, num, boo, str, ints, aV, aTab, aInst, aS, aT, aC, num, boo, str, aE_eq, aV]; done) | simp [ends, ite_true, ite_false, reduceIte, Nat.reduceEqDiff, Nat.reduceLeDiff, Nat.reduceLT, Nat.reduceAdd, reduceCtorEq, num, boo, str, ints, aV, aTab, aInst, aS, aT, aC, num, boo, str, aE_eq, aV]) (by simp only [ends, ite_true, ite_false, reduceIte, Nat.reduceEqDiff, Nat.reduceLeDiff, Nat.reduceLT, Nat.reduceAdd, reduceCtorEq, num, boo, str, ints, aV, aTab, aInst, aS, aT, aC]) (by simp [idsOk, lookO, updO, ren1]) ?_
  simp -implicitDefEqProofs only [↓steps, push_cast, reduceIte, Nat.reduceEqDiff, Nat.reduceAdd, Nat.reduceMul, Nat.reduceLT, Nat.reduceLeDiff, Int.reduceToNat, Int.reduceLE, Int.reduceLT, reduceCtorEq, tte, num, boo, str, ints, aV, aTab, aInst, aS, aT, aC]
  unfold cmpI at hr
  refine bcase_intro (fun h1 => ?_) fun h1 => ?_
  · exact ret_d trivial (by rw [← hr]; simp_all [num]) (by simp only [ends, ite_true, ite_false, reduceIte, Nat.reduceEqDiff, Nat.reduceLeDiff, Nat.reduceLT, Nat.reduceAdd, reduceCtorEq, num, boo, str, ints, aV, aTab, aInst, aS, aT, aC])
  refine bcase_intro (fun h2 => ?_) fun h2 => ?_
  · exact ret_d trivial (by rw [← hr]; simp at h1 h2; rw [if_neg (by omega), if_pos (by omega)]; rfl) (by simp only [ends, ite_true, ite_false, reduceIte, Nat.reduceEqDiff, Nat.reduceLeDiff, Nat.reduceLT, Nat.reduceAdd, reduceCtorEq, num, boo, str, ints, aV, aTab, aInst, aS, aT, aC])
  · exact ret_d trivial (by rw [← hr]; simp at h1 h2; rw [if_neg (by omega), if_neg (by omega)]; rfl) (by simp only [ends, ite_true, ite_false, reduceIte, Nat.reduceEqDiff, Nat.reduceLeDiff, Nat.reduceLT, Nat.reduceAdd, reduceCtorEq, num, boo, str, ints, aV, aTab, aInst, aS, aT, aC])
theorem c_cmpI64 (x y : Int) : ACall Tryd.prog 47 [num x, num y] [] (num (cmpI x y)) [] := by
  refine ACall.enter mixed ttok Tryd.func47 rfl rfl _ Tryd.ntmps47 (Nat.le_of_ble_eq_true rfl) (by kernel_rfl) _ (congrArg Array.toList Tryd.results47) ?_
  generalize hr : num (cmpI x y) = R
  simp -implicitDefEqProofs only [argT, ↓steps, push_cast, reduceIte, Nat.reduceEqDiff, Nat.reduceAdd, Nat.reduceMul, Nat.reduceLT, Nat.reduceLeDiff, Int.reduceToNat, Int.reduceLE, Int.reduceLT, reduceCtorEq, tte, num, boo, str, ints, aV, aTab, aInst, aS, aT, aC]
  refine callx_of [[0]] [] rfl (c_isNaN64 x) (by first | (simp; done) | (simp [rowsOf_length]; done) | (simp [rowsOf_length]; omega)) (by first | (simp only [ends, ite_true, ite_false, reduceIte, Nat.reduceEqDiff, Nat.reduceLeDiff, Nat.reduceLT, Nat.reduceAdd, reduceCtorEq, num, boo, str, ints, aV, aTab, aInst, aS, aT, aC, num, boo, str, aE_eq, aV]; done) | simp [ends, ite_true, ite_false, reduceIte, Nat.reduceEqDiff, Nat.reduceLeDiff, Nat.reduceLT, Nat.reduceAdd, reduceCtorEq, num, boo, str, ints, aV, aTab, aInst, aS, aT, aC, num, boo, str, aE_eq, aV]) (by first | rfl | (simp only [ends, ite_true, ite_false, reduceIte, Nat.reduceEqDiff, Nat.reduceLeDiff, Nat.reduceLT, Nat.reduceAdd, reduceCtorEq, num, boo, str, ints, aV, aTab, aInst, aS, aT, aC, num, boo, str, aE_eq, aV]; done) | simp [ends, ite_true, ite_false, reduceIte, Nat.reduceEqDiff, Nat.reduceLeDiff, Nat.reduceLT, Nat.reduceAdd, reduceCtorEq, num, boo, str, ints, aV, aTab, aInst, aS, aT, aC, num, boo, str, aE_eq, aV]) (by simp only [ends, ite_true, ite_false, reduceIte, Nat.reduceEqDiff, Nat.reduceLeDiff, Nat.reduceLT, Nat.reduceAdd, reduceCtorEq, num, boo, str, ints, aV, aTab, aInst, aS, aT, aC]) (by simp [idsOk, lookO, updO, ren1]) ?_
  simp -implicitDefEqProofs only [↓steps, push_cast, reduceIte, Nat.reduceEqDiff, Nat.reduceAdd, Nat.reduceMul, Nat.reduceLT, Nat.reduceLeDiff, Int.reduceToNat, Int.reduceLE, Int.reduceLT, reduceCtorEq, tte, num, boo, str, ints, aV, aTab, aInst, aS, aT, aC]
  refine callx_of [[0]] [] rfl (c_isNaN64 y) (by first | (simp; done) | (simp [rowsOf_length]; done) | (simp [rowsOf_length]; omega)) (by first | (simp only [ends, ite_true, ite_false, reduceIte, Nat.reduceEqDiff, Nat.reduceLeDiff, Nat.reduceLT, Nat.reduceAdd, reduceCtorEq, num, boo, str, ints, aV, aTab, aInst, aS, aT, aC, num, boo, str, aE_eq, aV]; done) | simp [ends, ite_true, ite_false, reduceIte, Nat.reduceEqDiff, Nat.reduceLeDiff, Nat.reduceLT, Nat.reduceAdd, reduceCtorEq, num, boo, str, ints, aV, aTab, aInst, aS, aT, aC, num, boo, str, aE_eq, aV]) (by first | rfl | (simp only [ends, ite_true, ite_false, reduceIte, Nat.reduceEqDiff, Nat.reduceLeDiff, Nat.reduceLT, Nat.reduceAdd, reduceCtorEq, num, boo, str, ints, aV, aTab, aInst, aS, aT, aC, num, boo, str, aE_eq, aV]; done) | simp [ends, ite_true, ite_false, reduceIte, Nat.reduceEqDiff, Nat.reduceLeDiff, Nat.reduceLT, Nat.reduceAdd, reduceCtorEq, num, boo, str, ints, aV, aTab, aInst, aS, aT, aC, num, boo, str, aE_eq, aV]) (by simp only [ends, ite_true, ite_false, reduceIte, Nat.reduceEqDiff, Nat.reduceLeDiff, Nat.reduceLT, Nat.reduceAdd, reduceCtorEq, num, boo, str, ints, aV, aTab, aInst, aS, aT, aC]) (by simp [idsOk, lookO, updO, ren1]) ?_
  simp -implicitDefEqProofs only [↓steps, push_cast, reduceIte, Nat.reduceEqDiff, Nat.reduceAdd, Nat.reduceMul, Nat.reduceLT, Nat.reduceLeDiff, Int.reduceToNat, Int.reduceLE, Int.reduceLT, reduceCtorEq, tte, num, boo, str, ints, aV, aTab, aInst, aS, aT, aC]
  unfold cmpI at hr
  refine bcase_intro (fun h1 => ?_) fun h1 => ?_
  · exact ret_d trivial (by rw [← hr]; simp_all [num]) (by simp only [ends, ite_true, ite_false, reduceIte, Nat.reduceEqDiff, Nat.reduceLeDiff, Nat.reduceLT, Nat.reduceAdd, reduceCtorEq, num, boo, str, ints, aV, aTab, aInst, aS, aT, aC])
  refine bcase_intro (fun h2 => ?_) fun h2 => ?_
  · exact ret_d trivial (by rw [← hr]; simp at h1 h2; rw [if_neg (by omega), if_pos (by omega)]; rfl) (by simp only [ends, ite_true, ite_false, reduceIte, Nat.reduceEqDiff, Nat.reduceLeDiff, Nat.reduceLT, Nat.reduceAdd, reduceCtorEq, num, boo, str, ints, aV, aTab, aInst, aS, aT, aC])
  · exact ret_d trivial (by rw [← hr]; simp at h1 h2; rw [if_neg (by omega), if_neg (by omega)]; rfl) (by simp only [ends, ite_true, ite_false, reduceIte, Nat.reduceEqDiff, Nat.reduceLeDiff, Nat.reduceLT, Nat.reduceAdd, reduceCtorEq, num, boo, str, ints, aV, aTab, aInst, aS, aT, aC])
theorem c_cmpS (x y : ByteArray) : ACall Tryd.prog 48 [str x, str y] [] (num (cmpS x y)) [] := by
  refine ACall.enter mixed ttok Tryd.func48 rfl rfl _ Tryd.ntmps48 (Nat.le_of_ble_eq_true rfl) (by kernel_rfl) _ (congrArg Array.toList Tryd.results48) ?_
  generalize hr : num (cmpS x y) = R
  simp -implicitDefEqProofs only [argT, ↓steps, push_cast, reduceIte, Nat.reduceEqDiff, Nat.reduceAdd, Nat.reduceMul, Nat.reduceLT, Nat.reduceLeDiff, Int.reduceToNat, Int.reduceLE, Int.reduceLT, reduceCtorEq, tte, num, boo, str, ints, aV, aTab, aInst, aS, aT, aC]
  refine callx_of [[0]] [] rfl (c_isNaNs x) (by first | (simp; done) | (simp [rowsOf_length]; done) | (simp [rowsOf_length]; omega)) (by first | (simp only [ends, ite_true, ite_false, reduceIte, Nat.reduceEqDiff, Nat.reduceLeDiff, Nat.reduceLT, Nat.reduceAdd, reduceCtorEq, num, boo, str, ints, aV, aTab, aInst, aS, aT, aC, num, boo, str, aE_eq, aV]; done) | simp [ends, ite_true, ite_false, reduceIte, Nat.reduceEqDiff, Nat.reduceLeDiff, Nat.reduceLT, Nat.reduceAdd, reduceCtorEq, num, boo, str, ints, aV, aTab, aInst, aS, aT, aC, num, boo, str, aE_eq, aV]) (by first | rfl | (simp only [ends, ite_true, ite_false, reduceIte, Nat.reduceEqDiff, Nat.reduceLeDiff, Nat.reduceLT, Nat.reduceAdd, reduceCtorEq, num, boo, str, ints, aV, aTab, aInst, aS, aT, aC, num, boo, str, aE_eq, aV]; done) | simp [ends, ite_true, ite_false, reduceIte, Nat.reduceEqDiff, Nat.reduceLeDiff, Nat.reduceLT, Nat.reduceAdd, reduceCtorEq, num, boo, str, ints, aV, aTab, aInst, aS, aT, aC, num, boo, str, aE_eq, aV]) (by simp only [ends, ite_true, ite_false, reduceIte, Nat.reduceEqDiff, Nat.reduceLeDiff, Nat.reduceLT, Nat.reduceAdd, reduceCtorEq, num, boo, str, ints, aV, aTab, aInst, aS, aT, aC]) (by simp [idsOk, lookO, updO, ren1]) ?_
  simp -implicitDefEqProofs only [↓steps, push_cast, reduceIte, Nat.reduceEqDiff, Nat.reduceAdd, Nat.reduceMul, Nat.reduceLT, Nat.reduceLeDiff, Int.reduceToNat, Int.reduceLE, Int.reduceLT, reduceCtorEq, tte, num, boo, str, ints, aV, aTab, aInst, aS, aT, aC]
  refine callx_of [[0]] [] rfl (c_isNaNs y) (by first | (simp; done) | (simp [rowsOf_length]; done) | (simp [rowsOf_length]; omega)) (by first | (simp only [ends, ite_true, ite_false, reduceIte, Nat.reduceEqDiff, Nat.reduceLeDiff, Nat.reduceLT, Nat.reduceAdd, reduceCtorEq, num, boo, str, ints, aV, aTab, aInst, aS, aT, aC, num, boo, str, aE_eq, aV]; done) | simp [ends, ite_true, ite_false, reduceIte, Nat.reduceEqDiff, Nat.reduceLeDiff, Nat.reduceLT, Nat.reduceAdd, reduceCtorEq, num, boo, str, ints, aV, aTab, aInst, aS, aT, aC, num, boo, str, aE_eq, aV]) (by first | rfl | (simp only [ends, ite_true, ite_false, reduceIte, Nat.reduceEqDiff, Nat.reduceLeDiff, Nat.reduceLT, Nat.reduceAdd, reduceCtorEq, num, boo, str, ints, aV, aTab, aInst, aS, aT, aC, num, boo, str, aE_eq, aV]; done) | simp [ends, ite_true, ite_false, reduceIte, Nat.reduceEqDiff, Nat.reduceLeDiff, Nat.reduceLT, Nat.reduceAdd, reduceCtorEq, num, boo, str, ints, aV, aTab, aInst, aS, aT, aC, num, boo, str, aE_eq, aV]) (by simp only [ends, ite_true, ite_false, reduceIte, Nat.reduceEqDiff, Nat.reduceLeDiff, Nat.reduceLT, Nat.reduceAdd, reduceCtorEq, num, boo, str, ints, aV, aTab, aInst, aS, aT, aC]) (by simp [idsOk, lookO, updO, ren1]) ?_
  simp -implicitDefEqProofs only [↓steps, push_cast, reduceIte, Nat.reduceEqDiff, Nat.reduceAdd, Nat.reduceMul, Nat.reduceLT, Nat.reduceLeDiff, Int.reduceToNat, Int.reduceLE, Int.reduceLT, reduceCtorEq, tte, num, boo, str, ints, aV, aTab, aInst, aS, aT, aC]
  unfold cmpS at hr
  refine bcase_intro (fun h1 => ?_) fun h1 => ?_
  · exact ret_d trivial (by rw [← hr]; simp_all [num]) (by simp only [ends, ite_true, ite_false, reduceIte, Nat.reduceEqDiff, Nat.reduceLeDiff, Nat.reduceLT, Nat.reduceAdd, reduceCtorEq, num, boo, str, ints, aV, aTab, aInst, aS, aT, aC])
  refine bcase_intro (fun h2 => ?_) fun h2 => ?_
  · exact ret_d trivial (by rw [← hr]; rw [h1]; simp [h1] at h2; simp [h2, num]) (by simp only [ends, ite_true, ite_false, reduceIte, Nat.reduceEqDiff, Nat.reduceLeDiff, Nat.reduceLT, Nat.reduceAdd, reduceCtorEq, num, boo, str, ints, aV, aTab, aInst, aS, aT, aC])
  · exact ret_d trivial (by rw [← hr]; rw [h1]; simp [h1] at h2; simp [h2, num]) (by simp only [ends, ite_true, ite_false, reduceIte, Nat.reduceEqDiff, Nat.reduceLeDiff, Nat.reduceLT, Nat.reduceAdd, reduceCtorEq, num, boo, str, ints, aV, aTab, aInst, aS, aT, aC])

def firstN : List Int → Int
  | [] => 0
  | x :: l => if x ≠ 0 then x else firstN l
theorem c_cor (l : List Int) (hl : l.length ≤ 1000) : ACall Tryd.prog 45 [ints l] [] (num (firstN l)) [] := by
  refine ACall.enter mixed ttok Tryd.func45 rfl rfl _ Tryd.ntmps45 (Nat.le_of_ble_eq_true rfl) (by kernel_rfl) _ (congrArg Array.toList Tryd.results45) ?_
  generalize hr : num (firstN l) = R
  simp -implicitDefEqProofs only [argT, ↓steps, push_cast, reduceIte, Nat.reduceEqDiff, Nat.reduceAdd, Nat.reduceMul, Nat.reduceLT, Nat.reduceLeDiff, Int.reduceToNat, Int.reduceLE, Int.reduceLT, reduceCtorEq, tte, num, boo, str, ints, aV, aTab, aInst, aS, aT, aC]
  refine loop_count mixed ttok 8 [3, 6, 7] [] (by simp only [pickT, ends, ite_true, ite_false, reduceIte, Nat.reduceEqDiff, Nat.reduceLeDiff, Nat.reduceLT, Nat.reduceAdd, reduceCtorEq, num, boo, str, ints, aV, aTab, aInst, aS, aT, aC]; rfl) (by simp only [pickO, consO_some, ends, ite_true, ite_false, reduceIte, Nat.reduceEqDiff, Nat.reduceLeDiff, Nat.reduceLT, Nat.reduceAdd, reduceCtorEq, num, boo, str, ints, aV, aTab, aInst, aS, aT, aC]; rfl) l.length (fun n => firstN (l.drop n) = firstN l) (fun _ => []) (fun _ => []) rfl ?_ ?_
  · exact Weak.keepL (by simp [cst, ends, ite_true, ite_false, reduceIte, Nat.reduceEqDiff, Nat.reduceLeDiff, Nat.reduceLT, Nat.reduceAdd, reduceCtorEq, num, boo, str, ints, aV, aTab, aInst, aS, aT, aC]) (by simp [cst, ends, ite_true, ite_false, reduceIte, Nat.reduceEqDiff, Nat.reduceLeDiff, Nat.reduceLT, Nat.reduceAdd, reduceCtorEq, num, boo, str, ints, aV, aTab, aInst, aS, aT, aC]) (by simp [cst, ends, ite_true, ite_false, reduceIte, Nat.reduceEqDiff, Nat.reduceLeDiff, Nat.reduceLT, Nat.reduceAdd, reduceCtorEq, num, boo, str, ints, aV, aTab, aInst, aS, aT, aC])
  intro I hI n hn hi
  simp -implicitDefEqProofs only [cst, ↓steps, push_cast, reduceIte, Nat.reduceEqDiff, Nat.reduceAdd, Nat.reduceMul, Nat.reduceLT, Nat.reduceLeDiff, Int.reduceToNat, Int.reduceLE, Int.reduceLT, reduceCtorEq, tte, num, boo, str, ints, aV, aTab, aInst, aS, aT, aC]
  refine bcase_intro (fun h => ?_) fun h => ?_
  · simp only [decide_eq_true_eq] at h
    have h' : n < l.length := by omega
    have hw := wrap_succ h' (by omega)
    rw [drop_cons _ n h', firstN] at hi
    refine ⟨(by first | omega | trivial | (refine ⟨?_, ?_⟩ <;> first | omega | trivial | (refine ⟨?_, ?_⟩ <;> first | omega | trivial | (refine ⟨?_, ?_⟩ <;> first | omega | trivial | rfl)))), ?_⟩
    refine bcase_intro (fun h2 => ?_) fun h2 => ?_
    · exact ret_d trivial (by rw [← hr, ← hi, if_pos (by simpa using h2)]; rfl) (by simp only [ends, ite_true, ite_false, reduceIte, Nat.reduceEqDiff, Nat.reduceLeDiff, Nat.reduceLT, Nat.reduceAdd, reduceCtorEq, num, boo, str, ints, aV, aTab, aInst, aS, aT, aC])
    · rw [if_neg (by simpa using h2)] at hi
      exact cnt_again hI n rfl h' hi (by simp only [hw, ends, ite_true, ite_false, reduceIte, Nat.reduceEqDiff, Nat.reduceLeDiff, Nat.reduceLT, Nat.reduceAdd, reduceCtorEq, num, boo, str, ints, aV, aTab, aInst, aS, aT, aC]) (by simp [hw, ends, ite_true, ite_false, reduceIte, Nat.reduceEqDiff, Nat.reduceLeDiff, Nat.reduceLT, Nat.reduceAdd, reduceCtorEq, num, boo, str, ints, aV, aTab, aInst, aS, aT, aC]) (by simp [hw, ends, ite_true, ite_false, reduceIte, Nat.reduceEqDiff, Nat.reduceLeDiff, Nat.reduceLT, Nat.reduceAdd, reduceCtorEq, num, boo, str, ints, aV, aTab, aInst, aS, aT, aC]) (by simp [hw, ends, ite_true, ite_false, reduceIte, Nat.reduceEqDiff, Nat.reduceLeDiff, Nat.reduceLT, Nat.reduceAdd, reduceCtorEq, num, boo, str, ints, aV, aTab, aInst, aS, aT, aC])
  · have hn' : n = l.length := by simp at h; omega
    subst hn'
    rw [List.drop_length] at hi
    exact ret_d trivial (by rw [← hr, ← hi]; rfl) (by simp only [ends, ite_true, ite_false, reduceIte, Nat.reduceEqDiff, Nat.reduceLeDiff, Nat.reduceLT, Nat.reduceAdd, reduceCtorEq, num, boo, str, ints, aV, aTab, aInst, aS, aT, aC])

theorem c_compare (a b : Val) : ACall Tryd.prog 22 [aV a, aV b] [] (num (cmpM a b)) [] := by
  refine ACall.enter mixed ttok Tryd.func22 rfl rfl _ Tryd.ntmps22 (Nat.le_of_ble_eq_true rfl) (by kernel_rfl) _ (congrArg Array.toList Tryd.results22) ?_
  generalize hr : num (cmpM a b) = R
  simp -implicitDefEqProofs only [argT, ↓steps, push_cast, reduceIte, Nat.reduceEqDiff, Nat.reduceAdd, Nat.reduceMul, Nat.reduceLT, Nat.reduceLeDiff, Int.reduceToNat, Int.reduceLE, Int.reduceLT, reduceCtorEq, tte, num, boo, str, ints, aV, aTab, aInst, aS, aT, aC]
  refine callx_of [[0], [0]] [] rfl (c_cmpI a.kind b.kind) (by first | (simp; done) | (simp [rowsOf_length]; done) | (simp [rowsOf_length]; omega)) (by first | (simp only [ends, ite_true, ite_false, reduceIte, Nat.reduceEqDiff, Nat.reduceLeDiff, Nat.reduceLT, Nat.reduceAdd, reduceCtorEq, num, boo, str, ints, aV, aTab, aInst, aS, aT, aC, num, boo, str, aE_eq, aV]; done) | simp [ends, ite_true, ite_false, reduceIte, Nat.reduceEqDiff, Nat.reduceLeDiff, Nat.reduceLT, Nat.reduceAdd, reduceCtorEq, num, boo, str, ints, aV, aTab, aInst, aS, aT, aC, num, boo, str, aE_eq, aV]) (by first | rfl | (simp only [ends, ite_true, ite_false, reduceIte, Nat.reduceEqDiff, Nat.reduceLeDiff, Nat.reduceLT, Nat.reduceAdd, reduceCtorEq, num, boo, str, ints, aV, aTab, aInst, aS, aT, aC, num, boo, str, aE_eq, aV]; done) | simp [ends, ite_true, ite_false, reduceIte, Nat.reduceEqDiff, Nat.reduceLeDiff, Nat.reduceLT, Nat.reduceAdd, reduceCtorEq, num, boo, str, ints, aV, aTab, aInst, aS, aT, aC, num, boo, str, aE_eq, aV]) (by simp only [ends, ite_true, ite_false, reduceIte, Nat.reduceEqDiff, Nat.reduceLeDiff, Nat.reduceLT, Nat.reduceAdd, reduceCtorEq, num, boo, str, ints, aV, aTab, aInst, aS, aT, aC]) (by simp [idsOk, lookO, updO, ren1]) ?_
  simp -implicitDefEqProofs only [↓steps, push_cast, reduceIte, Nat.reduceEqDiff, Nat.reduceAdd, Nat.reduceMul, Nat.reduceLT, Nat.reduceLeDiff, Int.reduceToNat, Int.reduceLE, Int.reduceLT, reduceCtorEq, tte, num, boo, str, ints, aV, aTab, aInst, aS, aT, aC]
  refine callx_of [[0], [0]] [] rfl (c_cmpI64 a.num b.num) (by first | (simp; done) | (simp [rowsOf_length]; done) | (simp [rowsOf_length]; omega)) (by first | (simp only [ends, ite_true, ite_false, reduceIte, Nat.reduceEqDiff, Nat.reduceLeDiff, Nat.reduceLT, Nat.reduceAdd, reduceCtorEq, num, boo, str, ints, aV, aTab, aInst, aS, aT, aC, num, boo, str, aE_eq, aV]; done) | simp [ends, ite_true, ite_false, reduceIte, Nat.reduceEqDiff, Nat.reduceLeDiff, Nat.reduceLT, Nat.reduceAdd, reduceCtorEq, num, boo, str, ints, aV, aTab, aInst, aS, aT, aC, num, boo, str, aE_eq, aV]) (by first | rfl | (simp only [ends, ite_true, ite_false, reduceIte, Nat.reduceEqDiff, Nat.reduceLeDiff, Nat.reduceLT, Nat.reduceAdd, reduceCtorEq, num, boo, str, ints, aV, aTab, aInst, aS, aT, aC, num, boo, str, aE_eq, aV]; done) | simp [ends, ite_true, ite_false, reduceIte, Nat.reduceEqDiff, Nat.reduceLeDiff, Nat.reduceLT, Nat.reduceAdd, reduceCtorEq, num, boo, str, ints, aV, aTab, aInst, aS, aT, aC, num, boo, str, aE_eq, aV]) (by simp only [ends, ite_true, ite_false, reduceIte, Nat.reduceEqDiff, Nat.reduceLeDiff, Nat.reduceLT, Nat.reduceAdd, reduceCtorEq, num, boo, str, ints, aV, aTab, aInst, aS, aT, aC]) (by simp [idsOk, lookO, updO, ren1]) ?_
  simp -implicitDefEqProofs only [↓steps, push_cast, reduceIte, Nat.reduceEqDiff, Nat.reduceAdd, Nat.reduceMul, Nat.reduceLT, Nat.reduceLeDiff, Int.reduceToNat, Int.reduceLE, Int.reduceLT, reduceCtorEq, tte, num, boo, str, ints, aV, aTab, aInst, aS, aT, aC]
  refine callx_of [[0], [0]] [] rfl (c_cmpS a.text b.text) (by first | (simp; done) | (simp [rowsOf_length]; done) | (simp [rowsOf_length]; omega)) (by first | (simp only [ends, ite_true, ite_false, reduceIte, Nat.reduceEqDiff, Nat.reduceLeDiff, Nat.reduceLT, Nat.reduceAdd, reduceCtorEq, num, boo, str, ints, aV, aTab, aInst, aS, aT, aC, num, boo, str, aE_eq, aV]; done) | simp [ends, ite_true, ite_false, reduceIte, Nat.reduceEqDiff, Nat.reduceLeDiff, Nat.reduceLT, Nat.reduceAdd, reduceCtorEq, num, boo, str, ints, aV, aTab, aInst, aS, aT, aC, num, boo, str, aE_eq, aV]) (by first | rfl | (simp only [ends, ite_true, ite_false, reduceIte, Nat.reduceEqDiff, Nat.reduceLeDiff, Nat.reduceLT, Nat.reduceAdd, reduceCtorEq, num, boo, str, ints, aV, aTab, aInst, aS, aT, aC, num, boo, str, aE_eq, aV]; done) | simp [ends, ite_true, ite_false, reduceIte, Nat.reduceEqDiff, Nat.reduceLeDiff, Nat.reduceLT, Nat.reduceAdd, reduceCtorEq, num, boo, str, ints, aV, aTab, aInst, aS, aT, aC, num, boo, str, aE_eq, aV]) (by simp only [ends, ite_true, ite_false, reduceIte, Nat.reduceEqDiff, Nat.reduceLeDiff, Nat.reduceLT, Nat.reduceAdd, reduceCtorEq, num, boo, str, ints, aV, aTab, aInst, aS, aT, aC]) (by simp [idsOk, lookO, updO, ren1]) ?_
  simp -implicitDefEqProofs only [↓steps, push_cast, reduceIte, Nat.reduceEqDiff, Nat.reduceAdd, Nat.reduceMul, Nat.reduceLT, Nat.reduceLeDiff, Int.reduceToNat, Int.reduceLE, Int.reduceLT, reduceCtorEq, tte, num, boo, str, ints, aV, aTab, aInst, aS, aT, aC]
  refine callx_of [[1]] [] rfl (c_cor [cmpI a.kind b.kind, cmpI a.num b.num, cmpS a.text b.text] (by simp)) (by first | (simp; done) | (simp [rowsOf_length]; done) | (simp [rowsOf_length]; omega)) (by first | (simp only [ends, ite_true, ite_false, reduceIte, Nat.reduceEqDiff, Nat.reduceLeDiff, Nat.reduceLT, Nat.reduceAdd, reduceCtorEq, num, boo, str, ints, aV, aTab, aInst, aS, aT, aC, num, boo, str, aE_eq, aV]; done) | simp [ends, ite_true, ite_false, reduceIte, Nat.reduceEqDiff, Nat.reduceLeDiff, Nat.reduceLT, Nat.reduceAdd, reduceCtorEq, num, boo, str, ints, aV, aTab, aInst, aS, aT, aC, num, boo, str, aE_eq, aV]) (by first | rfl | (simp only [ends, ite_true, ite_false, reduceIte, Nat.reduceEqDiff, Nat.reduceLeDiff, Nat.reduceLT, Nat.reduceAdd, reduceCtorEq, num, boo, str, ints, aV, aTab, aInst, aS, aT, aC, num, boo, str, aE_eq, aV]; done) | simp [ends, ite_true, ite_false, reduceIte, Nat.reduceEqDiff, Nat.reduceLeDiff, Nat.reduceLT, Nat.reduceAdd, reduceCtorEq, num, boo, str, ints, aV, aTab, aInst, aS, aT, aC, num, boo, str, aE_eq, aV]) (by simp only [ends, ite_true, ite_false, reduceIte, Nat.reduceEqDiff, Nat.reduceLeDiff, Nat.reduceLT, Nat.reduceAdd, reduceCtorEq, num, boo, str, ints, aV, aTab, aInst, aS, aT, aC]) (by simp [idsOk, lookO, updO, ren1]) ?_
  simp -implicitDefEqProofs only [↓steps, push_cast, reduceIte, Nat.reduceEqDiff, Nat.reduceAdd, Nat.reduceMul, Nat.reduceLT, Nat.reduceLeDiff, Int.reduceToNat, Int.reduceLE, Int.reduceLT, reduceCtorEq, tte, num, boo, str, ints, aV, aTab, aInst, aS, aT, aC]
  refine ⟨drawx_intro (by kernel_rfl), ?_⟩
  have he : firstN [cmpI a.kind b.kind, cmpI a.num b.num, cmpS a.text b.text] = cmpM a b := by
    simp only [firstN, cmpM]
    repeat' split
    all_goals simp_all
  rw [he]
  exact ret_d trivial (by rw [← hr]; rfl) (by simp only [ends, ite_true, ite_false, reduceIte, Nat.reduceEqDiff, Nat.reduceLeDiff, Nat.reduceLT, Nat.reduceAdd, reduceCtorEq, num, boo, str, ints, aV, aTab, aInst, aS, aT, aC])
end Go.Proofs.YtkccdfaelbepeaaDoor

namespace Go.Proofs.YtkccdfaelbepeaaDoor
open Go.Am
set_option linter.unusedVariables false
set_option maxRecDepth 100000
set_option maxHeartbeats 4000000

/-- The order of texts is that of the lists of their bytes. -/
theorem bl_eq : ∀ (x y : List UInt8), Op.bytesLess x y = decide (x < y)
  | [], [] => by simp [Op.bytesLess]
  | _ :: _, [] => by simp [Op.bytesLess]
  | [], _ :: _ => by simp [Op.bytesLess]
  | a :: x, b :: y => by
    rw [Op.bytesLess, bl_eq x y]
    simp only [List.cons_lt_cons_iff]
    by_cases h1 : a < b <;> by_cases h2 : a = b <;> by_cases h3 : x < y <;> simp [h1, h2, h3]
def sameM (a b : Val) : Bool := (a.kind == b.kind && a.num == b.num) && (a.text.toList == b.text.toList)
theorem cmpI_zero (x y : Int) : cmpI x y = 0 ↔ x = y := by unfold cmpI; split <;> (try split) <;> omega
theorem cmpS_zero (x y : ByteArray) : cmpS x y = 0 ↔ x.toList = y.toList := by
  unfold cmpS
  split
  · rename_i h
    refine ⟨fun h => absurd h (by decide), fun e => ?_⟩
    rw [e] at h
    exact absurd h (by rw [bl_eq, decide_eq_true_eq]; exact List.lt_irrefl _)
  · split
    · rename_i h; simp [h]
    · rename_i h; simp [h]
theorem cmpM_zero (a b : Val) : (cmpM a b == 0) = sameM a b := by
  unfold cmpM sameM
  rw [Bool.eq_iff_iff]
  simp only [beq_iff_eq, Bool.and_eq_true]
  by_cases h1 : cmpI a.kind b.kind = 0
  · rw [if_neg (by simpa using h1)]
    have h1' := (cmpI_zero _ _).1 h1
    by_cases h2 : cmpI a.num b.num = 0
    · rw [if_neg (by simpa using h2), cmpS_zero]
      simp [h1', (cmpI_zero _ _).1 h2]
    · rw [if_pos h2]
      simp [h1', h2, mt (cmpI_zero _ _).2 h2]
  · rw [if_pos h1]
    simp [h1, mt (cmpI_zero _ _).2 h1]

theorem c_rcompare (a b : Val) : ACall Tryd.prog 110 [aV a, aV b] [] (num (cmpM a b)) [] := by
  refine ACall.enter mixed ttok Tryd.func110 rfl rfl _ Tryd.ntmps110 (Nat.le_of_ble_eq_true rfl) (by kernel_rfl) _ (congrArg Array.toList Tryd.results110) ?_
  generalize hr : num (cmpM a b) = R
  simp -implicitDefEqProofs only [argT, ↓steps, push_cast, reduceIte, Nat.reduceEqDiff, Nat.reduceAdd, Nat.reduceMul, Nat.reduceLT, Nat.reduceLeDiff, Int.reduceToNat, Int.reduceLE, Int.reduceLT, reduceCtorEq, tte, num, boo, str, ints, aV, aTab, aInst, aS, aT, aC]
  unfold cmpM cmpI cmpS at hr
  refine bcase_intro (fun h1 => ?_) fun h1 => ?_
  · simp at h1
    exact ret_d trivial (by rw [← hr, if_pos (by rw [if_pos h1]; decide), if_pos h1]; rfl) (by simp only [ends, ite_true, ite_false, reduceIte, Nat.reduceEqDiff, Nat.reduceLeDiff, Nat.reduceLT, Nat.reduceAdd, reduceCtorEq, num, boo, str, ints, aV, aTab, aInst, aS, aT, aC])
  refine bcase_intro (fun h2 => ?_) fun h2 => ?_
  · simp at h1 h2
    exact ret_d trivial (by rw [← hr, if_pos (by rw [if_neg (by omega), if_pos (by omega)]; decide), if_neg (by omega), if_pos (by omega)]; rfl) (by simp only [ends, ite_true, ite_false, reduceIte, Nat.reduceEqDiff, Nat.reduceLeDiff, Nat.reduceLT, Nat.reduceAdd, reduceCtorEq, num, boo, str, ints, aV, aTab, aInst, aS, aT, aC])
  simp at h1 h2
  rw [if_neg (by rw [if_neg (by omega), if_neg (by omega)]; decide)] at hr
  refine bcase_intro (fun h3 => ?_) fun h3 => ?_
  · simp at h3
    exact ret_d trivial (by rw [← hr, if_pos (by rw [if_pos h3]; decide), if_pos h3]; rfl) (by simp only [ends, ite_true, ite_false, reduceIte, Nat.reduceEqDiff, Nat.reduceLeDiff, Nat.reduceLT, Nat.reduceAdd, reduceCtorEq, num, boo, str, ints, aV, aTab, aInst, aS, aT, aC])
  refine bcase_intro (fun h4 => ?_) fun h4 => ?_
  · simp at h3 h4
    exact ret_d trivial (by rw [← hr, if_pos (by rw [if_neg (by omega), if_pos (by omega)]; decide), if_neg (by omega), if_pos (by omega)]; rfl) (by simp only [ends, ite_true, ite_false, reduceIte, Nat.reduceEqDiff, Nat.reduceLeDiff, Nat.reduceLT, Nat.reduceAdd, reduceCtorEq, num, boo, str, ints, aV, aTab, aInst, aS, aT, aC])
  simp at h3 h4
  rw [if_neg (by rw [if_neg (by omega), if_neg (by omega)]; decide)] at hr
  refine bcase_intro (fun h5 => ?_) fun h5 => ?_
  · exact ret_d trivial (by rw [← hr, if_pos h5]; rfl) (by simp only [ends, ite_true, ite_false, reduceIte, Nat.reduceEqDiff, Nat.reduceLeDiff, Nat.reduceLT, Nat.reduceAdd, reduceCtorEq, num, boo, str, ints, aV, aTab, aInst, aS, aT, aC])
  rw [h5] at hr ⊢
  refine bcase_intro (fun h6 => ?_) fun h6 => ?_
  · simp at h6
    exact ret_d trivial (by rw [← hr]; simp [h6, num]) (by simp only [ends, ite_true, ite_false, reduceIte, Nat.reduceEqDiff, Nat.reduceLeDiff, Nat.reduceLT, Nat.reduceAdd, reduceCtorEq, num, boo, str, ints, aV, aTab, aInst, aS, aT, aC])
  · simp at h6
    exact ret_d trivial (by rw [← hr]; simp [h6, num]) (by simp only [ends, ite_true, ite_false, reduceIte, Nat.reduceEqDiff, Nat.reduceLeDiff, Nat.reduceLT, Nat.reduceAdd, reduceCtorEq, num, boo, str, ints, aV, aTab, aInst, aS, aT, aC])

theorem c_same (a b : Val) : ACall Tryd.prog 89 [aV a, aV b] [] (boo (sameM a b)) [] := by
  refine ACall.enter mixed ttok Tryd.func89 rfl rfl _ Tryd.ntmps89 (Nat.le_of_ble_eq_true rfl) (by kernel_rfl) _ (congrArg Array.toList Tryd.results89) ?_
  generalize hr : boo (sameM a b) = R
  simp -implicitDefEqProofs only [argT, ↓steps, push_cast, reduceIte, Nat.reduceEqDiff, Nat.reduceAdd, Nat.reduceMul, Nat.reduceLT, Nat.reduceLeDiff, Int.reduceToNat, Int.reduceLE, Int.reduceLT, reduceCtorEq, tte, num, boo, str, ints, aV, aTab, aInst, aS, aT, aC]
  exact ret_d trivial (by rw [← hr]; simp [sameM, boo, Bool.and_assoc]) (by simp only [ends, ite_true, ite_false, reduceIte, Nat.reduceEqDiff, Nat.reduceLeDiff, Nat.reduceLT, Nat.reduceAdd, reduceCtorEq, num, boo, str, ints, aV, aTab, aInst, aS, aT, aC])
theorem c_rsame (a b : Val) : ACall Tryd.prog 57 [aV a, aV b] [] (boo (sameM a b)) [] := by
  refine ACall.enter mixed ttok Tryd.func57 rfl rfl _ Tryd.ntmps57 (Nat.le_of_ble_eq_true rfl) (by kernel_rfl) _ (congrArg Array.toList Tryd.results57) ?_
  generalize hr : boo (sameM a b) = R
  simp -implicitDefEqProofs only [argT, ↓steps, push_cast, reduceIte, Nat.reduceEqDiff, Nat.reduceAdd, Nat.reduceMul, Nat.reduceLT, Nat.reduceLeDiff, Int.reduceToNat, Int.reduceLE, Int.reduceLT, reduceCtorEq, tte, num, boo, str, ints, aV, aTab, aInst, aS, aT, aC]
  refine callx_of [[0, 0, 0], [0, 0, 0]] [] rfl (c_rcompare a b) (by first | (simp; done) | (simp [rowsOf_length]; done) | (simp [rowsOf_length]; omega)) (by first | (simp only [ends, ite_true, ite_false, reduceIte, Nat.reduceEqDiff, Nat.reduceLeDiff, Nat.reduceLT, Nat.reduceAdd, reduceCtorEq, num, boo, str, ints, aV, aTab, aInst, aS, aT, aC, num, boo, str, aE_eq, aV]; done) | simp [ends, ite_true, ite_false, reduceIte, Nat.reduceEqDiff, Nat.reduceLeDiff, Nat.reduceLT, Nat.reduceAdd, reduceCtorEq, num, boo, str, ints, aV, aTab, aInst, aS, aT, aC, num, boo, str, aE_eq, aV]) (by first | rfl | (simp only [ends, ite_true, ite_false, reduceIte, Nat.reduceEqDiff, Nat.reduceLeDiff, Nat.reduceLT, Nat.reduceAdd, reduceCtorEq, num, boo, str, ints, aV, aTab, aInst, aS, aT, aC, num, boo, str, aE_eq, aV]; done) | simp [ends, ite_true, ite_false, reduceIte, Nat.reduceEqDiff, Nat.reduceLeDiff, Nat.reduceLT, Nat.reduceAdd, reduceCtorEq, num, boo, str, ints, aV, aTab, aInst, aS, aT, aC, num, boo, str, aE_eq, aV]) (by simp only [ends, ite_true, ite_false, reduceIte, Nat.reduceEqDiff, Nat.reduceLeDiff, Nat.reduceLT, Nat.reduceAdd, reduceCtorEq, num, boo, str, ints, aV, aTab, aInst, aS, aT, aC]) (by simp [idsOk, lookO, updO, ren1]) ?_
  simp -implicitDefEqProofs only [↓steps, push_cast, reduceIte, Nat.reduceEqDiff, Nat.reduceAdd, Nat.reduceMul, Nat.reduceLT, Nat.reduceLeDiff, Int.reduceToNat, Int.reduceLE, Int.reduceLT, reduceCtorEq, tte, num, boo, str, ints, aV, aTab, aInst, aS, aT, aC]
  exact ret_d trivial (by rw [← hr, ← cmpM_zero]; rfl) (by simp only [ends, ite_true, ite_false, reduceIte, Nat.reduceEqDiff, Nat.reduceLeDiff, Nat.reduceLT, Nat.reduceAdd, reduceCtorEq, num, boo, str, ints, aV, aTab, aInst, aS, aT, aC])

def equalM (a b : Val) : Val := if a.kind = 0 ∨ b.kind = 0 then nullV else ofV (sameM a b)
def lessM (a b : Val) : Val := if a.kind = 0 ∨ b.kind = 0 then nullV else ofV (decide (cmpM a b < 0))
theorem c_equal (a b : Val) : ACall Tryd.prog 85 [aV a, aV b] [] (aV (equalM a b)) [] := by
  refine ACall.enter mixed ttok Tryd.func85 rfl rfl _ Tryd.ntmps85 (Nat.le_of_ble_eq_true rfl) (by kernel_rfl) _ (congrArg Array.toList Tryd.results85) ?_
  generalize hr : aV (equalM a b) = R
  simp -implicitDefEqProofs only [argT, tabN, ↓steps, push_cast, reduceIte, Nat.reduceEqDiff, Nat.reduceAdd, Nat.reduceMul, Nat.reduceLT, Nat.reduceLeDiff, Int.reduceToNat, Int.reduceLE, Int.reduceLT, reduceCtorEq, tte, num, boo, str, ints, aV, aTab, aInst, aS, aT, aC]
  unfold equalM at hr
  refine bcase_intro (fun h1 => ?_) fun h1 => ?_
  · exact ret_v (by first | trivial | (simp; done) | (simp; omega)) (by rw [← hr] <;> first | rfl | (simp [nullV]; done) | (simp_all [nullV]; done)) (by simp only [ends, ite_true, ite_false, reduceIte, Nat.reduceEqDiff, Nat.reduceLeDiff, Nat.reduceLT, Nat.reduceAdd, reduceCtorEq, num, boo, str, ints, aV, aTab, aInst, aS, aT, aC])
  refine bcase_intro (fun h2 => ?_) fun h2 => ?_
  · exact ret_v (by first | trivial | (simp; done) | (simp; omega)) (by rw [← hr] <;> first | rfl | (simp [nullV]; done) | (simp_all [nullV]; done)) (by simp only [ends, ite_true, ite_false, reduceIte, Nat.reduceEqDiff, Nat.reduceLeDiff, Nat.reduceLT, Nat.reduceAdd, reduceCtorEq, num, boo, str, ints, aV, aTab, aInst, aS, aT, aC])
  refine callx_of [[0, 0, 0], [0, 0, 0]] [] rfl (c_same a b) (by first | (simp; done) | (simp [rowsOf_length]; done) | (simp [rowsOf_length]; omega)) (by first | (simp only [ends, ite_true, ite_false, reduceIte, Nat.reduceEqDiff, Nat.reduceLeDiff, Nat.reduceLT, Nat.reduceAdd, reduceCtorEq, num, boo, str, ints, aV, aTab, aInst, aS, aT, aC, num, boo, str, aE_eq, aV]; done) | simp [ends, ite_true, ite_false, reduceIte, Nat.reduceEqDiff, Nat.reduceLeDiff, Nat.reduceLT, Nat.reduceAdd, reduceCtorEq, num, boo, str, ints, aV, aTab, aInst, aS, aT, aC, num, boo, str, aE_eq, aV]) (by first | rfl | (simp only [ends, ite_true, ite_false, reduceIte, Nat.reduceEqDiff, Nat.reduceLeDiff, Nat.reduceLT, Nat.reduceAdd, reduceCtorEq, num, boo, str, ints, aV, aTab, aInst, aS, aT, aC, num, boo, str, aE_eq, aV]; done) | simp [ends, ite_true, ite_false, reduceIte, Nat.reduceEqDiff, Nat.reduceLeDiff, Nat.reduceLT, Nat.reduceAdd, reduceCtorEq, num, boo, str, ints, aV, aTab, aInst, aS, aT, aC, num, boo, str, aE_eq, aV]) (by simp only [ends, ite_true, ite_false, reduceIte, Nat.reduceEqDiff, Nat.reduceLeDiff, Nat.reduceLT, Nat.reduceAdd, reduceCtorEq, num, boo, str, ints, aV, aTab, aInst, aS, aT, aC]) (by simp [idsOk, lookO, updO, ren1]) ?_
  simp -implicitDefEqProofs only [↓steps, push_cast, reduceIte, Nat.reduceEqDiff, Nat.reduceAdd, Nat.reduceMul, Nat.reduceLT, Nat.reduceLeDiff, Int.reduceToNat, Int.reduceLE, Int.reduceLT, reduceCtorEq, tte, num, boo, str, ints, aV, aTab, aInst, aS, aT, aC]
  refine callx_of [[0]] [] rfl (c_truth (sameM a b)) (by first | (simp; done) | (simp [rowsOf_length]; done) | (simp [rowsOf_length]; omega)) (by first | (simp only [ends, ite_true, ite_false, reduceIte, Nat.reduceEqDiff, Nat.reduceLeDiff, Nat.reduceLT, Nat.reduceAdd, reduceCtorEq, num, boo, str, ints, aV, aTab, aInst, aS, aT, aC, num, boo, str, aE_eq, aV]; done) | simp [ends, ite_true, ite_false, reduceIte, Nat.reduceEqDiff, Nat.reduceLeDiff, Nat.reduceLT, Nat.reduceAdd, reduceCtorEq, num, boo, str, ints, aV, aTab, aInst, aS, aT, aC, num, boo, str, aE_eq, aV]) (by first | rfl | (simp only [ends, ite_true, ite_false, reduceIte, Nat.reduceEqDiff, Nat.reduceLeDiff, Nat.reduceLT, Nat.reduceAdd, reduceCtorEq, num, boo, str, ints, aV, aTab, aInst, aS, aT, aC, num, boo, str, aE_eq, aV]; done) | simp [ends, ite_true, ite_false, reduceIte, Nat.reduceEqDiff, Nat.reduceLeDiff, Nat.reduceLT, Nat.reduceAdd, reduceCtorEq, num, boo, str, ints, aV, aTab, aInst, aS, aT, aC, num, boo, str, aE_eq, aV]) (by simp only [ends, ite_true, ite_false, reduceIte, Nat.reduceEqDiff, Nat.reduceLeDiff, Nat.reduceLT, Nat.reduceAdd, reduceCtorEq, num, boo, str, ints, aV, aTab, aInst, aS, aT, aC]) (by simp [idsOk, lookO, updO, ren1]) ?_
  simp -implicitDefEqProofs only [aV, ↓steps, push_cast, reduceIte, Nat.reduceEqDiff, Nat.reduceAdd, Nat.reduceMul, Nat.reduceLT, Nat.reduceLeDiff, Int.reduceToNat, Int.reduceLE, Int.reduceLT, reduceCtorEq, tte, num, boo, str, ints, aV, aTab, aInst, aS, aT, aC]
  simp at h1 h2
  exact ret_v (by first | trivial | (simp; done) | (simp; omega)) (by rw [← hr] <;> first | rfl | (simp [h1, h2]; done) | (simp_all [h1, h2]; done)) (by simp only [ends, ite_true, ite_false, reduceIte, Nat.reduceEqDiff, Nat.reduceLeDiff, Nat.reduceLT, Nat.reduceAdd, reduceCtorEq, num, boo, str, ints, aV, aTab, aInst, aS, aT, aC])
theorem c_requal (a b : Val) : ACall Tryd.prog 53 [aV a, aV b] [] (aV (equalM a b)) [] := by
  refine ACall.enter mixed ttok Tryd.func53 rfl rfl _ Tryd.ntmps53 (Nat.le_of_ble_eq_true rfl) (by kernel_rfl) _ (congrArg Array.toList Tryd.results53) ?_
  generalize hr : aV (equalM a b) = R
  simp -implicitDefEqProofs only [argT, tabN, ↓steps, push_cast, reduceIte, Nat.reduceEqDiff, Nat.reduceAdd, Nat.reduceMul, Nat.reduceLT, Nat.reduceLeDiff, Int.reduceToNat, Int.reduceLE, Int.reduceLT, reduceCtorEq, tte, num, boo, str, ints, aV, aTab, aInst, aS, aT, aC]
  unfold equalM at hr
  refine bcase_intro (fun h1 => ?_) fun h1 => ?_
  · exact ret_v (by first | trivial | (simp; done) | (simp; omega)) (by rw [← hr] <;> first | rfl | (simp [nullV]; done) | (simp_all [nullV]; done)) (by simp only [ends, ite_true, ite_false, reduceIte, Nat.reduceEqDiff, Nat.reduceLeDiff, Nat.reduceLT, Nat.reduceAdd, reduceCtorEq, num, boo, str, ints, aV, aTab, aInst, aS, aT, aC])
  refine bcase_intro (fun h2 => ?_) fun h2 => ?_
  · exact ret_v (by first | trivial | (simp; done) | (simp; omega)) (by rw [← hr] <;> first | rfl | (simp [nullV]; done) | (simp_all [nullV]; done)) (by simp only [ends, ite_true, ite_false, reduceIte, Nat.reduceEqDiff, Nat.reduceLeDiff, Nat.reduceLT, Nat.reduceAdd, reduceCtorEq, num, boo, str, ints, aV, aTab, aInst, aS, aT, aC])
  refine callx_of [[0, 0, 0], [0, 0, 0]] [] rfl (c_rsame a b) (by first | (simp; done) | (simp [rowsOf_length]; done) | (simp [rowsOf_length]; omega)) (by first | (simp only [ends, ite_true, ite_false, reduceIte, Nat.reduceEqDiff, Nat.reduceLeDiff, Nat.reduceLT, Nat.reduceAdd, reduceCtorEq, num, boo, str, ints, aV, aTab, aInst, aS, aT, aC, num, boo, str, aE_eq, aV]; done) | simp [ends, ite_true, ite_false, reduceIte, Nat.reduceEqDiff, Nat.reduceLeDiff, Nat.reduceLT, Nat.reduceAdd, reduceCtorEq, num, boo, str, ints, aV, aTab, aInst, aS, aT, aC, num, boo, str, aE_eq, aV]) (by first | rfl | (simp only [ends, ite_true, ite_false, reduceIte, Nat.reduceEqDiff, Nat.reduceLeDiff, Nat.reduceLT, Nat.reduceAdd, reduceCtorEq, num, boo, str, ints, aV, aTab, aInst, aS, aT, aC, num, boo, str, aE_eq, aV]; done) | simp [ends, ite_true, ite_false, reduceIte, Nat.reduceEqDiff, Nat.reduceLeDiff, Nat.reduceLT, Nat.reduceAdd, reduceCtorEq, num, boo, str, ints, aV, aTab, aInst, aS, aT, aC, num, boo, str, aE_eq, aV]) (by simp only [ends, ite_true, ite_false, reduceIte, Nat.reduceEqDiff, Nat.reduceLeDiff, Nat.reduceLT, Nat.reduceAdd, reduceCtorEq, num, boo, str, ints, aV, aTab, aInst, aS, aT, aC]) (by simp [idsOk, lookO, updO, ren1]) ?_
  simp -implicitDefEqProofs only [↓steps, push_cast, reduceIte, Nat.reduceEqDiff, Nat.reduceAdd, Nat.reduceMul, Nat.reduceLT, Nat.reduceLeDiff, Int.reduceToNat, Int.reduceLE, Int.reduceLT, reduceCtorEq, tte, num, boo, str, ints, aV, aTab, aInst, aS, aT, aC]
  refine callx_of [[0]] [] rfl (c_of (sameM a b)) (by first | (simp; done) | (simp [rowsOf_length]; done) | (simp [rowsOf_length]; omega)) (by first | (simp only [ends, ite_true, ite_false, reduceIte, Nat.reduceEqDiff, Nat.reduceLeDiff, Nat.reduceLT, Nat.reduceAdd, reduceCtorEq, num, boo, str, ints, aV, aTab, aInst, aS, aT, aC, num, boo, str, aE_eq, aV]; done) | simp [ends, ite_true, ite_false, reduceIte, Nat.reduceEqDiff, Nat.reduceLeDiff, Nat.reduceLT, Nat.reduceAdd, reduceCtorEq, num, boo, str, ints, aV, aTab, aInst, aS, aT, aC, num, boo, str, aE_eq, aV]) (by first | rfl | (simp only [ends, ite_true, ite_false, reduceIte, Nat.reduceEqDiff, Nat.reduceLeDiff, Nat.reduceLT, Nat.reduceAdd, reduceCtorEq, num, boo, str, ints, aV, aTab, aInst, aS, aT, aC, num, boo, str, aE_eq, aV]; done) | simp [ends, ite_true, ite_false, reduceIte, Nat.reduceEqDiff, Nat.reduceLeDiff, Nat.reduceLT, Nat.reduceAdd, reduceCtorEq, num, boo, str, ints, aV, aTab, aInst, aS, aT, aC, num, boo, str, aE_eq, aV]) (by simp only [ends, ite_true, ite_false, reduceIte, Nat.reduceEqDiff, Nat.reduceLeDiff, Nat.reduceLT, Nat.reduceAdd, reduceCtorEq, num, boo, str, ints, aV, aTab, aInst, aS, aT, aC]) (by simp [idsOk, lookO, updO, ren1]) ?_
  simp -implicitDefEqProofs only [aV, ↓steps, push_cast, reduceIte, Nat.reduceEqDiff, Nat.reduceAdd, Nat.reduceMul, Nat.reduceLT, Nat.reduceLeDiff, Int.reduceToNat, Int.reduceLE, Int.reduceLT, reduceCtorEq, tte, num, boo, str, ints, aV, aTab, aInst, aS, aT, aC]
  simp at h1 h2
  exact ret_v (by first | trivial | (simp; done) | (simp; omega)) (by rw [← hr] <;> first | rfl | (simp [h1, h2]; done) | (simp_all [h1, h2]; done)) (by simp only [ends, ite_true, ite_false, reduceIte, Nat.reduceEqDiff, Nat.reduceLeDiff, Nat.reduceLT, Nat.reduceAdd, reduceCtorEq, num, boo, str, ints, aV, aTab, aInst, aS, aT, aC])
theorem c_less (a b : Val) : ACall Tryd.prog 87 [aV a, aV b] [] (aV (lessM a b)) [] := by
  refine ACall.enter mixed ttok Tryd.func87 rfl rfl _ Tryd.ntmps87 (Nat.le_of_ble_eq_true rfl) (by kernel_rfl) _ (congrArg Array.toList Tryd.results87) ?_
  generalize hr : aV (lessM a b) = R
  simp -implicitDefEqProofs only [argT, tabN, ↓steps, push_cast, reduceIte, Nat.reduceEqDiff, Nat.reduceAdd, Nat.reduceMul, Nat.reduceLT, Nat.reduceLeDiff, Int.reduceToNat, Int.reduceLE, Int.reduceLT, reduceCtorEq, tte, num, boo, str, ints, aV, aTab, aInst, aS, aT, aC]
  unfold lessM at hr
  refine bcase_intro (fun h1 => ?_) fun h1 => ?_
  · exact ret_v (by first | trivial | (simp; done) | (simp; omega)) (by rw [← hr] <;> first | rfl | (simp [nullV]; done) | (simp_all [nullV]; done)) (by simp only [ends, ite_true, ite_false, reduceIte, Nat.reduceEqDiff, Nat.reduceLeDiff, Nat.reduceLT, Nat.reduceAdd, reduceCtorEq, num, boo, str, ints, aV, aTab, aInst, aS, aT, aC])
  refine bcase_intro (fun h2 => ?_) fun h2 => ?_
  · exact ret_v (by first | trivial | (simp; done) | (simp; omega)) (by rw [← hr] <;> first | rfl | (simp [nullV]; done) | (simp_all [nullV]; done)) (by simp only [ends, ite_true, ite_false, reduceIte, Nat.reduceEqDiff, Nat.reduceLeDiff, Nat.reduceLT, Nat.reduceAdd, reduceCtorEq, num, boo, str, ints, aV, aTab, aInst, aS, aT, aC])
  refine callx_of [[0, 0, 0], [0, 0, 0]] [] rfl (c_compare a b) (by first | (simp; done) | (simp [rowsOf_length]; done) | (simp [rowsOf_length]; omega)) (by first | (simp only [ends, ite_true, ite_false, reduceIte, Nat.reduceEqDiff, Nat.reduceLeDiff, Nat.reduceLT, Nat.reduceAdd, reduceCtorEq, num, boo, str, ints, aV, aTab, aInst, aS, aT, aC, num, boo, str, aE_eq, aV]; done) | simp [ends, ite_true, ite_false, reduceIte, Nat.reduceEqDiff, Nat.reduceLeDiff, Nat.reduceLT, Nat.reduceAdd, reduceCtorEq, num, boo, str, ints, aV, aTab, aInst, aS, aT, aC, num, boo, str, aE_eq, aV]) (by first | rfl | (simp only [ends, ite_true, ite_false, reduceIte, Nat.reduceEqDiff, Nat.reduceLeDiff, Nat.reduceLT, Nat.reduceAdd, reduceCtorEq, num, boo, str, ints, aV, aTab, aInst, aS, aT, aC, num, boo, str, aE_eq, aV]; done) | simp [ends, ite_true, ite_false, reduceIte, Nat.reduceEqDiff, Nat.reduceLeDiff, Nat.reduceLT, Nat.reduceAdd, reduceCtorEq, num, boo, str, ints, aV, aTab, aInst, aS, aT, aC, num, boo, str, aE_eq, aV]) (by simp only [ends, ite_true, ite_false, reduceIte, Nat.reduceEqDiff, Nat.reduceLeDiff, Nat.reduceLT, Nat.reduceAdd, reduceCtorEq, num, boo, str, ints, aV, aTab, aInst, aS, aT, aC]) (by simp [idsOk, lookO, updO, ren1]) ?_
  simp -implicitDefEqProofs only [↓steps, push_cast, reduceIte, Nat.reduceEqDiff, Nat.reduceAdd, Nat.reduceMul, Nat.reduceLT, Nat.reduceLeDiff, Int.reduceToNat, Int.reduceLE, Int.reduceLT, reduceCtorEq, tte, num, boo, str, ints, aV, aTab, aInst, aS, aT, aC]
  refine callx_of [[0]] [] rfl (c_truth (decide (cmpM a b < 0))) (by first | (simp; done) | (simp [rowsOf_length]; done) | (simp [rowsOf_length]; omega)) (by first | (simp only [ends, ite_true, ite_false, reduceIte, Nat.reduceEqDiff, Nat.reduceLeDiff, Nat.reduceLT, Nat.reduceAdd, reduceCtorEq, num, boo, str, ints, aV, aTab, aInst, aS, aT, aC, num, boo, str, aE_eq, aV]; done) | simp [ends, ite_true, ite_false, reduceIte, Nat.reduceEqDiff, Nat.reduceLeDiff, Nat.reduceLT, Nat.reduceAdd, reduceCtorEq, num, boo, str, ints, aV, aTab, aInst, aS, aT, aC, num, boo, str, aE_eq, aV]) (by first | rfl | (simp only [ends, ite_true, ite_false, reduceIte, Nat.reduceEqDiff, Nat.reduceLeDiff, Nat.reduceLT, Nat.reduceAdd, reduceCtorEq, num, boo, str, ints, aV, aTab, aInst, aS, aT, aC, num, boo, str, aE_eq, aV]; done) | simp [ends, ite_true, ite_false, reduceIte, Nat.reduceEqDiff, Nat.reduceLeDiff, Nat.reduceLT, Nat.reduceAdd, reduceCtorEq, num, boo, str, ints, aV, aTab, aInst, aS, aT, aC, num, boo, str, aE_eq, aV]) (by simp only [ends, ite_true, ite_false, reduceIte, Nat.reduceEqDiff, Nat.reduceLeDiff, Nat.reduceLT, Nat.reduceAdd, reduceCtorEq, num, boo, str, ints, aV, aTab, aInst, aS, aT, aC]) (by simp [idsOk, lookO, updO, ren1]) ?_
  simp -implicitDefEqProofs only [aV, ↓steps, push_cast, reduceIte, Nat.reduceEqDiff, Nat.reduceAdd, Nat.reduceMul, Nat.reduceLT, Nat.reduceLeDiff, Int.reduceToNat, Int.reduceLE, Int.reduceLT, reduceCtorEq, tte, num, boo, str, ints, aV, aTab, aInst, aS, aT, aC]
  simp at h1 h2
  exact ret_v (by first | trivial | (simp; done) | (simp; omega)) (by rw [← hr] <;> first | rfl | (simp [h1, h2]; done) | (simp_all [h1, h2]; done)) (by simp only [ends, ite_true, ite_false, reduceIte, Nat.reduceEqDiff, Nat.reduceLeDiff, Nat.reduceLT, Nat.reduceAdd, reduceCtorEq, num, boo, str, ints, aV, aTab, aInst, aS, aT, aC])
theorem c_rless (a b : Val) : ACall Tryd.prog 55 [aV a, aV b] [] (aV (lessM a b)) [] := by
  refine ACall.enter mixed ttok Tryd.func55 rfl rfl _ Tryd.ntmps55 (Nat.le_of_ble_eq_true rfl) (by kernel_rfl) _ (congrArg Array.toList Tryd.results55) ?_
  generalize hr : aV (lessM a b) = R
  simp -implicitDefEqProofs only [argT, tabN, ↓steps, push_cast, reduceIte, Nat.reduceEqDiff, Nat.reduceAdd, Nat.reduceMul, Nat.reduceLT, Nat.reduceLeDiff, Int.reduceToNat, Int.reduceLE, Int.reduceLT, reduceCtorEq, tte, num, boo, str, ints, aV, aTab, aInst, aS, aT, aC]
  unfold lessM at hr
  refine bcase_intro (fun h1 => ?_) fun h1 => ?_
  · exact ret_v (by first | trivial | (simp; done) | (simp; omega)) (by rw [← hr] <;> first | rfl | (simp [nullV]; done) | (simp_all [nullV]; done)) (by simp only [ends, ite_true, ite_false, reduceIte, Nat.reduceEqDiff, Nat.reduceLeDiff, Nat.reduceLT, Nat.reduceAdd, reduceCtorEq, num, boo, str, ints, aV, aTab, aInst, aS, aT, aC])
  refine bcase_intro (fun h2 => ?_) fun h2 => ?_
  · exact ret_v (by first | trivial | (simp; done) | (simp; omega)) (by rw [← hr] <;> first | rfl | (simp [nullV]; done) | (simp_all [nullV]; done)) (by simp only [ends, ite_true, ite_false, reduceIte, Nat.reduceEqDiff, Nat.reduceLeDiff, Nat.reduceLT, Nat.reduceAdd, reduceCtorEq, num, boo, str, ints, aV, aTab, aInst, aS, aT, aC])
  refine callx_of [[0, 0, 0], [0, 0, 0]] [] rfl (c_rcompare a b) (by first | (simp; done) | (simp [rowsOf_length]; done) | (simp [rowsOf_length]; omega)) (by first | (simp only [ends, ite_true, ite_false, reduceIte, Nat.reduceEqDiff, Nat.reduceLeDiff, Nat.reduceLT, Nat.reduceAdd, reduceCtorEq, num, boo, str, ints, aV, aTab, aInst, aS, aT, aC, num, boo, str, aE_eq, aV]; done) | simp [ends, ite_true, ite_false, reduceIte, Nat.reduceEqDiff, Nat.reduceLeDiff, Nat.reduceLT, Nat.reduceAdd, reduceCtorEq, num, boo, str, ints, aV, aTab, aInst, aS, aT, aC, num, boo, str, aE_eq, aV]) (by first | rfl | (simp only [ends, ite_true, ite_false, reduceIte, Nat.reduceEqDiff, Nat.reduceLeDiff, Nat.reduceLT, Nat.reduceAdd, reduceCtorEq, num, boo, str, ints, aV, aTab, aInst, aS, aT, aC, num, boo, str, aE_eq, aV]; done) | simp [ends, ite_true, ite_false, reduceIte, Nat.reduceEqDiff, Nat.reduceLeDiff, Nat.reduceLT, Nat.reduceAdd, reduceCtorEq, num, boo, str, ints, aV, aTab, aInst, aS, aT, aC, num, boo, str, aE_eq, aV]) (by simp only [ends, ite_true, ite_false, reduceIte, Nat.reduceEqDiff, Nat.reduceLeDiff, Nat.reduceLT, Nat.reduceAdd, reduceCtorEq, num, boo, str, ints, aV, aTab, aInst, aS, aT, aC]) (by simp [idsOk, lookO, updO, ren1]) ?_
  simp -implicitDefEqProofs only [↓steps, push_cast, reduceIte, Nat.reduceEqDiff, Nat.reduceAdd, Nat.reduceMul, Nat.reduceLT, Nat.reduceLeDiff, Int.reduceToNat, Int.reduceLE, Int.reduceLT, reduceCtorEq, tte, num, boo, str, ints, aV, aTab, aInst, aS, aT, aC]
  refine callx_of [[0]] [] rfl (c_of (decide (cmpM a b < 0))) (by first | (simp; done) | (simp [rowsOf_length]; done) | (simp [rowsOf_length]; omega)) (by first | (simp only [ends, ite_true, ite_false, reduceIte, Nat.reduceEqDiff, Nat.reduceLeDiff, Nat.reduceLT, Nat.reduceAdd, reduceCtorEq, num, boo, str, ints, aV, aTab, aInst, aS, aT, aC, num, boo, str, aE_eq, aV]; done) | simp [ends, ite_true, ite_false, reduceIte, Nat.reduceEqDiff, Nat.reduceLeDiff, Nat.reduceLT, Nat.reduceAdd, reduceCtorEq, num, boo, str, ints, aV, aTab, aInst, aS, aT, aC, num, boo, str, aE_eq, aV]) (by first | rfl | (simp only [ends, ite_true, ite_false, reduceIte, Nat.reduceEqDiff, Nat.reduceLeDiff, Nat.reduceLT, Nat.reduceAdd, reduceCtorEq, num, boo, str, ints, aV, aTab, aInst, aS, aT, aC, num, boo, str, aE_eq, aV]; done) | simp [ends, ite_true, ite_false, reduceIte, Nat.reduceEqDiff, Nat.reduceLeDiff, Nat.reduceLT, Nat.reduceAdd, reduceCtorEq, num, boo, str, ints, aV, aTab, aInst, aS, aT, aC, num, boo, str, aE_eq, aV]) (by simp only [ends, ite_true, ite_false, reduceIte, Nat.reduceEqDiff, Nat.reduceLeDiff, Nat.reduceLT, Nat.reduceAdd, reduceCtorEq, num, boo, str, ints, aV, aTab, aInst, aS, aT, aC]) (by simp [idsOk, lookO, updO, ren1]) ?_
  simp -implicitDefEqProofs only [aV, ↓steps, push_cast, reduceIte, Nat.reduceEqDiff, Nat.reduceAdd, Nat.reduceMul, Nat.reduceLT, Nat.reduceLeDiff, Int.reduceToNat, Int.reduceLE, Int.reduceLT, reduceCtorEq, tte, num, boo, str, ints, aV, aTab, aInst, aS, aT, aC]
  simp at h1 h2
  exact ret_v (by first | trivial | (simp; done) | (simp; omega)) (by rw [← hr] <;> first | rfl | (simp [h1, h2]; done) | (simp_all [h1, h2]; done)) (by simp only [ends, ite_true, ite_false, reduceIte, Nat.reduceEqDiff, Nat.reduceLeDiff, Nat.reduceLT, Nat.reduceAdd, reduceCtorEq, num, boo, str, ints, aV, aTab, aInst, aS, aT, aC])

/-- The order of values is total. -/
theorem cmpI_neg (x y : Int) : cmpI x y < 0 ↔ x < y := by unfold cmpI; split <;> (try split) <;> omega
theorem cmpS_neg (x y : ByteArray) : cmpS x y < 0 ↔ x.toList < y.toList := by
  unfold cmpS
  rw [bl_eq]
  split
  · rename_i h; simpa using h
  · rename_i h
    simp only [decide_eq_true_eq] at h
    split <;> simp [h]
theorem toList_inj {x y : ByteArray} (h : x.toList = y.toList) : x = y := by
  cases x; cases y
  simpa [ByteArray.toList_eq] using h
theorem cmpM_neg (a b : Val) : cmpM a b < 0 ↔ a.kind < b.kind ∨ a.kind = b.kind ∧ (a.num < b.num ∨ a.num = b.num ∧ a.text.toList < b.text.toList) := by
  unfold cmpM
  by_cases h1 : cmpI a.kind b.kind = 0
  · rw [if_neg (by simpa using h1)]
    have h1' := (cmpI_zero _ _).1 h1
    by_cases h2 : cmpI a.num b.num = 0
    · rw [if_neg (by simpa using h2), cmpS_neg]
      simp [h1', (cmpI_zero _ _).1 h2]
    · rw [if_pos h2, cmpI_neg]
      have := mt (cmpI_zero _ _).2 h2
      simp [h1', this]
  · rw [if_pos h1, cmpI_neg]
    have := mt (cmpI_zero _ _).2 h1
    simp [this]
theorem val_ext {a b : Val} (h1 : a.kind = b.kind) (h2 : a.num = b.num) (h3 : a.text.toList = b.text.toList) : a = b := by
  cases a; cases b
  simp only at h1 h2 h3
  rw [h1, h2, toList_inj h3]
theorem cmpM_eq (a b : Val) : cmpM a b = 0 ↔ a = b := by
  have := cmpM_zero a b
  refine ⟨fun h => ?_, fun h => ?_⟩
  · rw [h] at this
    simp only [sameM, beq_self_eq_true] at this
    have h2 := this.symm
    simp only [Bool.and_eq_true, beq_iff_eq] at h2
    exact val_ext h2.1.1 h2.1.2 h2.2
  · subst h
    rw [show sameM a a = true by simp [sameM]] at this
    simpa using this
theorem cmpM_irrefl (a : Val) : ¬ cmpM a a < 0 := by rw [(cmpM_eq a a).2 rfl]; decide
theorem cmpM_trans {a b c : Val} (h1 : cmpM a b < 0) (h2 : cmpM b c < 0) : cmpM a c < 0 := by
  rw [cmpM_neg] at *
  rcases h1 with h1 | ⟨h1, h1'⟩ <;> rcases h2 with h2 | ⟨h2, h2'⟩
  · left; omega
  · left; omega
  · left; omega
  · right
    refine ⟨by omega, ?_⟩
    rcases h1' with h1' | ⟨h1', h3⟩ <;> rcases h2' with h2' | ⟨h2', h4⟩
    · left; omega
    · left; omega
    · left; omega
    · exact .inr ⟨by omega, List.lt_trans h3 h4⟩
theorem cmpM_tri (a b : Val) (h1 : ¬ cmpM a b < 0) (h2 : ¬ cmpM b a < 0) : a = b := by
  rw [cmpM_neg] at *
  simp only [not_or, not_and, Int.not_lt] at h1 h2
  have hk : a.kind = b.kind := by omega
  have h1' := h1.2 hk
  have h2' := h2.2 hk.symm
  have hn : a.num = b.num := by omega
  have h1'' := h1'.2 hn
  have h2'' := h2'.2 hn.symm
  exact val_ext hk hn (List.le_antisymm (List.not_lt.1 h2'') (List.not_lt.1 h1''))
/-- Smaller or equal. -/
theorem cmpM_le (a b : Val) : cmpM a b ≤ 0 ↔ ¬ cmpM b a < 0 := by
  refine ⟨fun h h2 => ?_, fun h => ?_⟩
  · rcases Int.lt_or_eq_of_le h with h | h
    · exact cmpM_irrefl _ (cmpM_trans h h2)
    · rw [cmpM_eq] at h; subst h; exact cmpM_irrefl _ h2
  · by_cases h3 : cmpM a b < 0
    · omega
    · rw [(cmpM_eq a b).2 (cmpM_tri a b h3 h)]; decide
end Go.Proofs.YtkccdfaelbepeaaDoor

namespace Go.Proofs.YtkccdfaelbepeaaDoor
open Go.Am
set_option linter.unusedVariables false
set_option maxRecDepth 100000
set_option maxHeartbeats 4000000

def okN (a : Int) : Prop := -1000000000000 ≤ a ∧ a ≤ 1000000000000
def absI (a : Int) : Int := if a < 0 then -a else a
def numM (op a b : Int) : Int × Bool :=
  if op = 6 then (a + b, true) else if op = 7 then (a - b, true)
  else if op = 8 then (if a ≠ 0 ∧ b ≠ 0 ∧ absI a > (1000000000000 : Int).tdiv (absI b) then (0, false) else (a * b, true))
  else if op = 9 then (if b ≠ 0 then (a.tdiv b, true) else (0, false))
  else if op = 10 then (if b ≠ 0 then (a.tmod b, true) else (0, false)) else (0, false)

theorem absI_pos {a : Int} (h : a ≠ 0) : 0 < absI a := by unfold absI; split <;> omega
theorem absI_le {a : Int} (h : okN a) : absI a ≤ 1000000000000 := by unfold okN at h; unfold absI; split <;> omega
theorem abs_max {a : Int} (h : okN a) : (if -a > a then -a else a) = absI a := by unfold okN at h; unfold absI; split <;> split <;> omega
theorem tdiv_le {a b : Int} (ha : 0 ≤ a) (hb : 0 < b) : 0 ≤ a.tdiv b ∧ a.tdiv b ≤ a := by
  rw [Int.tdiv_eq_ediv_of_nonneg ha]
  exact ⟨Int.ediv_nonneg ha (Int.le_of_lt hb), Int.ediv_le_self _ ha⟩
theorem mul_ok {a b : Int} (ha : okN a) (hb : okN b) (h : ¬ (a ≠ 0 ∧ b ≠ 0 ∧ absI a > (1000000000000 : Int).tdiv (absI b))) : okN (a * b) := by
  by_cases h1 : a = 0
  · subst h1; simp [okN]
  by_cases h2 : b = 0
  · subst h2; simp [okN]
  have h3 : absI a ≤ (1000000000000 : Int).tdiv (absI b) := by
    have : ¬ absI a > (1000000000000 : Int).tdiv (absI b) := fun h4 => h ⟨h1, h2, h4⟩
    omega
  have hp := absI_pos h2
  rw [Int.tdiv_eq_ediv_of_nonneg (by decide), Int.le_ediv_iff_mul_le hp] at h3
  have e : a * b = absI a * absI b ∨ a * b = -(absI a * absI b) := by
    unfold absI
    split <;> split
    · left; simp [Int.neg_mul, Int.mul_neg]
    · right; simp [Int.neg_mul]
    · right; simp [Int.mul_neg]
    · left; rfl
  have hq : 0 ≤ absI a * absI b := Int.mul_nonneg (Int.le_of_lt (absI_pos h1)) (Int.le_of_lt hp)
  unfold okN
  omega
theorem tdiv_ok {a b : Int} (ha : okN a) (hb : b ≠ 0) : okN (a.tdiv b) := by
  have h := Int.natAbs_tdiv_le_natAbs a b
  unfold okN at *
  omega
theorem tmod_ok {a b : Int} (ha : okN a) (hb : b ≠ 0) : okN (a.tmod b) := by
  have h : (a.tmod b).natAbs ≤ a.natAbs := by
    rw [Int.natAbs_tmod]; exact Nat.mod_le _ _
  unfold okN at *
  omega
theorem wrapN {a : Int} (h : -9000000000000 ≤ a ∧ a ≤ 9000000000000) : IntKind.i64.wrap a = a := wrap_eq (by omega) (by omega)

theorem c_numbers (op a b : Int) (ha : okN a) (hb : okN b) : ACall Tryd.prog 126 [num op, num a, num b] [] (.tup [num (numM op a b).1, boo (numM op a b).2]) [] := by
  refine ACall.enter mixed ttok Tryd.func126 rfl rfl _ Tryd.ntmps126 (Nat.le_of_ble_eq_true rfl) (by kernel_rfl) _ (congrArg Array.toList Tryd.results126) ?_
  generalize hr : A.tup [num (numM op a b).1, boo (numM op a b).2] = R
  have ha' := ha
  have hb' := hb
  unfold okN at ha' hb'
  have w1 := wrapN (a := a + b) (by omega)
  have w2 := wrapN (a := a - b) (by omega)
  have w3 := wrapN (a := -a) (by omega)
  have w4 := wrapN (a := -b) (by omega)
  have e3 : (0 : Int) - a = -a := by omega
  have e4 : (0 : Int) - b = -b := by omega
  unfold numM at hr
  simp -implicitDefEqProofs only [argT, w1, w2, w3, w4, e3, e4, abs_max ha, abs_max hb, ↓steps, push_cast, reduceIte, Nat.reduceEqDiff, Nat.reduceAdd, Nat.reduceMul, Nat.reduceLT, Nat.reduceLeDiff, Int.reduceToNat, Int.reduceLE, Int.reduceLT, reduceCtorEq, tte, num, boo, str, ints, aV, aTab, aInst, aS, aT, aC]
  refine bcase_intro (fun h6 => ?_) fun h6 => ?_
  · exact ret_d2 trivial (by rw [← hr, if_pos (by simpa using h6)]; rfl) (by simp only [ends, ite_true, ite_false, reduceIte, Nat.reduceEqDiff, Nat.reduceLeDiff, Nat.reduceLT, Nat.reduceAdd, reduceCtorEq, num, boo, str, ints, aV, aTab, aInst, aS, aT, aC])
  rw [if_neg (by simpa using h6)] at hr
  refine bcase_intro (fun h7 => ?_) fun h7 => ?_
  · exact ret_d2 trivial (by rw [← hr, if_pos (by simpa using h7)]; rfl) (by simp only [ends, ite_true, ite_false, reduceIte, Nat.reduceEqDiff, Nat.reduceLeDiff, Nat.reduceLT, Nat.reduceAdd, reduceCtorEq, num, boo, str, ints, aV, aTab, aInst, aS, aT, aC])
  rw [if_neg (by simpa using h7)] at hr
  refine bcase_intro (fun h8 => ?_) fun h8 => ?_
  · rw [if_pos (by simpa using h8)] at hr
    by_cases hz : a ≠ 0 ∧ b ≠ 0
    · have hp := absI_pos hz.2
      have hd := tdiv_le (a := 1000000000000) (by decide) hp
      have w5 := wrapN (a := (1000000000000 : Int).tdiv (absI b)) (by omega)
      refine bcase_intro (fun h1 => ?_) fun h1 => ?_
      · refine bcase_intro (fun h2 => ?_) fun h2 => ?_
        · refine ⟨by omega, ?_⟩
          simp only [w5]
          refine bcase_intro (fun h3 => ?_) fun h3 => ?_
          · simp only [decide_eq_true_eq] at h3
            exact ret_d2 trivial (by rw [← hr, if_pos ⟨hz.1, hz.2, h3⟩]; rfl) (by simp only [ends, ite_true, ite_false, reduceIte, Nat.reduceEqDiff, Nat.reduceLeDiff, Nat.reduceLT, Nat.reduceAdd, reduceCtorEq, num, boo, str, ints, aV, aTab, aInst, aS, aT, aC])
          · simp only [decide_eq_false_iff_not] at h3
            have hn : ¬ (a ≠ 0 ∧ b ≠ 0 ∧ absI a > (1000000000000 : Int).tdiv (absI b)) := fun h => h3 h.2.2
            have hm := mul_ok ha hb hn
            unfold okN at hm
            have w6 := wrapN (a := a * b) (by omega)
            simp only [w6]
            exact ret_d2 trivial (by rw [← hr, if_neg hn]; rfl) (by simp only [ends, ite_true, ite_false, reduceIte, Nat.reduceEqDiff, Nat.reduceLeDiff, Nat.reduceLT, Nat.reduceAdd, reduceCtorEq, num, boo, str, ints, aV, aTab, aInst, aS, aT, aC])
        · simp at h2; omega
      · simp at h1; omega
    · have hn : ¬ (a ≠ 0 ∧ b ≠ 0 ∧ absI a > (1000000000000 : Int).tdiv (absI b)) := fun h => hz ⟨h.1, h.2.1⟩
      have hm := mul_ok ha hb hn
      unfold okN at hm
      have w6 := wrapN (a := a * b) (by omega)
      rw [if_neg hn] at hr
      refine bcase_intro (fun h1 => ?_) fun h1 => ?_
      · refine bcase_intro (fun h2 => ?_) fun h2 => ?_
        · simp at h1 h2; omega
        · simp only [w6]
          exact ret_d2 trivial (by rw [← hr]; rfl) (by simp only [ends, ite_true, ite_false, reduceIte, Nat.reduceEqDiff, Nat.reduceLeDiff, Nat.reduceLT, Nat.reduceAdd, reduceCtorEq, num, boo, str, ints, aV, aTab, aInst, aS, aT, aC])
      · simp only [w6]
        exact ret_d2 trivial (by rw [← hr]; rfl) (by simp only [ends, ite_true, ite_false, reduceIte, Nat.reduceEqDiff, Nat.reduceLeDiff, Nat.reduceLT, Nat.reduceAdd, reduceCtorEq, num, boo, str, ints, aV, aTab, aInst, aS, aT, aC])
  rw [if_neg (by simpa using h8)] at hr
  refine bcase_intro (fun h9 => ?_) fun h9 => ?_
  · rw [if_pos (by simpa using h9)] at hr
    refine bcase_intro (fun h1 => ?_) fun h1 => ?_
    · have h1' : b ≠ 0 := by simpa using h1
      have hm := tdiv_ok ha h1'
      unfold okN at hm
      have w6 := wrapN (a := a.tdiv b) (by omega)
      simp only [w6]
      exact ⟨h1', ret_d2 trivial (by rw [← hr, if_pos h1']; rfl) (by simp only [ends, ite_true, ite_false, reduceIte, Nat.reduceEqDiff, Nat.reduceLeDiff, Nat.reduceLT, Nat.reduceAdd, reduceCtorEq, num, boo, str, ints, aV, aTab, aInst, aS, aT, aC])⟩
    · have h1' : ¬ b ≠ 0 := by simpa using h1
      exact ret_d2 trivial (by rw [← hr, if_neg h1']; rfl) (by simp only [ends, ite_true, ite_false, reduceIte, Nat.reduceEqDiff, Nat.reduceLeDiff, Nat.reduceLT, Nat.reduceAdd, reduceCtorEq, num, boo, str, ints, aV, aTab, aInst, aS, aT, aC])
  rw [if_neg (by simpa using h9)] at hr
  refine bcase_intro (fun h10 => ?_) fun h10 => ?_
  · rw [if_pos (by simpa using h10)] at hr
    refine bcase_intro (fun h1 => ?_) fun h1 => ?_
    · have h1' : b ≠ 0 := by simpa using h1
      exact ⟨h1', ret_d2 trivial (by rw [← hr, if_pos h1']; rfl) (by simp only [ends, ite_true, ite_false, reduceIte, Nat.reduceEqDiff, Nat.reduceLeDiff, Nat.reduceLT, Nat.reduceAdd, reduceCtorEq, num, boo, str, ints, aV, aTab, aInst, aS, aT, aC])⟩
    · have h1' : ¬ b ≠ 0 := by simpa using h1
      exact ret_d2 trivial (by rw [← hr, if_neg h1']; rfl) (by simp only [ends, ite_true, ite_false, reduceIte, Nat.reduceEqDiff, Nat.reduceLeDiff, Nat.reduceLT, Nat.reduceAdd, reduceCtorEq, num, boo, str, ints, aV, aTab, aInst, aS, aT, aC])
  rw [if_neg (by simpa using h10)] at hr
  exact ret_d2 trivial (by rw [← hr]; rfl) (by simp only [ends, ite_true, ite_false, reduceIte, Nat.reduceEqDiff, Nat.reduceLeDiff, Nat.reduceLT, Nat.reduceAdd, reduceCtorEq, num, boo, str, ints, aV, aTab, aInst, aS, aT, aC])
end Go.Proofs.YtkccdfaelbepeaaDoor

namespace Go.Proofs.YtkccdfaelbepeaaDoor
open Go.Am
set_option linter.unusedVariables false
set_option maxRecDepth 100000
set_option maxHeartbeats 4000000

def validV (v : Val) : Val := if validM v = true then v else nullV
def arithM (op : Int) (a b : Val) : Val :=
  if validM a = false ∨ validM b = false ∨ a.kind ≠ b.kind then nullV
  else if a.kind = 1 then (if (numM op a.num b.num).2 = true then validV ⟨1, (numM op a.num b.num).1, ByteArray.empty⟩ else nullV)
  else if a.kind = 3 ∧ op = 12 then validV ⟨3, 0, a.text ++ b.text⟩ else nullV

theorem empty_list : ByteArray.empty.toList = [] := by rw [ByteArray.toList_eq]; rfl
theorem valid_num {v : Val} (h : validM v = true) (hk : v.kind = 1) : okN v.num := by
  unfold validM at h
  rw [if_neg (by omega), if_pos hk] at h
  simp only [Bool.and_eq_true, decide_eq_true_eq] at h
  exact ⟨h.1.1, h.1.2⟩
theorem valid_text {v : Val} (h : validM v = true) (hk : v.kind = 3) : v.text.size ≤ 24 := by
  unfold validM at h
  rw [if_neg (by omega), if_neg (by omega), if_neg (by omega), if_pos hk] at h
  simp only [textM, Bool.and_eq_true, decide_eq_true_eq] at h
  exact h.2.1
theorem valid_int {n : Int} (h : okN n) : validM ⟨1, n, ByteArray.empty⟩ = true := by
  unfold okN at h
  simp [validM, empty_list, h.1, h.2]
theorem valid_null : validM nullV = true := by simp [validM, nullV, empty_list]
theorem validV_null : validV nullV = nullV := by rw [validV, if_pos valid_null]
theorem validV_int {n : Int} (h : okN n) : validV ⟨1, n, ByteArray.empty⟩ = ⟨1, n, ByteArray.empty⟩ := by rw [validV, if_pos (valid_int h)]

theorem c_arith (op : Int) (a b : Val) : ACall Tryd.prog 84 [num op, aV a, aV b] [] (aV (arithM op a b)) [] := by
  refine ACall.enter mixed ttok Tryd.func84 rfl rfl _ Tryd.ntmps84 (Nat.le_of_ble_eq_true rfl) (by kernel_rfl) _ (congrArg Array.toList Tryd.results84) ?_
  generalize hr : aV (arithM op a b) = R
  simp -implicitDefEqProofs only [argT, tabN, ↓steps, push_cast, reduceIte, Nat.reduceEqDiff, Nat.reduceAdd, Nat.reduceMul, Nat.reduceLT, Nat.reduceLeDiff, Int.reduceToNat, Int.reduceLE, Int.reduceLT, reduceCtorEq, tte, num, boo, str, ints, aV, aTab, aInst, aS, aT, aC]
  refine callx_of [[0, 0, 0]] [] rfl (c_valid a) (by first | (simp; done) | (simp [rowsOf_length]; done) | (simp [rowsOf_length]; omega)) (by first | (simp only [ends, ite_true, ite_false, reduceIte, Nat.reduceEqDiff, Nat.reduceLeDiff, Nat.reduceLT, Nat.reduceAdd, reduceCtorEq, num, boo, str, ints, aV, aTab, aInst, aS, aT, aC, num, boo, str, aE_eq, aV]; done) | simp [ends, ite_true, ite_false, reduceIte, Nat.reduceEqDiff, Nat.reduceLeDiff, Nat.reduceLT, Nat.reduceAdd, reduceCtorEq, num, boo, str, ints, aV, aTab, aInst, aS, aT, aC, num, boo, str, aE_eq, aV]) (by first | rfl | (simp only [ends, ite_true, ite_false, reduceIte, Nat.reduceEqDiff, Nat.reduceLeDiff, Nat.reduceLT, Nat.reduceAdd, reduceCtorEq, num, boo, str, ints, aV, aTab, aInst, aS, aT, aC, num, boo, str, aE_eq, aV]; done) | simp [ends, ite_true, ite_false, reduceIte, Nat.reduceEqDiff, Nat.reduceLeDiff, Nat.reduceLT, Nat.reduceAdd, reduceCtorEq, num, boo, str, ints, aV, aTab, aInst, aS, aT, aC, num, boo, str, aE_eq, aV]) (by simp only [ends, ite_true, ite_false, reduceIte, Nat.reduceEqDiff, Nat.reduceLeDiff, Nat.reduceLT, Nat.reduceAdd, reduceCtorEq, num, boo, str, ints, aV, aTab, aInst, aS, aT, aC]) (by simp [idsOk, lookO, updO, ren1]) ?_
  simp -implicitDefEqProofs only [tabN, ↓steps, push_cast, reduceIte, Nat.reduceEqDiff, Nat.reduceAdd, Nat.reduceMul, Nat.reduceLT, Nat.reduceLeDiff, Int.reduceToNat, Int.reduceLE, Int.reduceLT, reduceCtorEq, tte, num, boo, str, ints, aV, aTab, aInst, aS, aT, aC]
  unfold arithM at hr
  refine bcase_intro (fun h1 => ?_) fun h1 => ?_
  · rw [if_pos (.inl (by simpa using h1))] at hr
    exact ret_v (by first | trivial | (simp; done) | (simp; omega)) (by rw [← hr] <;> first | rfl | (simp [nullV]; done) | (simp_all [nullV]; done)) (by simp only [ends, ite_true, ite_false, reduceIte, Nat.reduceEqDiff, Nat.reduceLeDiff, Nat.reduceLT, Nat.reduceAdd, reduceCtorEq, num, boo, str, ints, aV, aTab, aInst, aS, aT, aC])
  refine callx_of [[0, 0, 0]] [] rfl (c_valid b) (by first | (simp; done) | (simp [rowsOf_length]; done) | (simp [rowsOf_length]; omega)) (by first | (simp only [ends, ite_true, ite_false, reduceIte, Nat.reduceEqDiff, Nat.reduceLeDiff, Nat.reduceLT, Nat.reduceAdd, reduceCtorEq, num, boo, str, ints, aV, aTab, aInst, aS, aT, aC, num, boo, str, aE_eq, aV]; done) | simp [ends, ite_true, ite_false, reduceIte, Nat.reduceEqDiff, Nat.reduceLeDiff, Nat.reduceLT, Nat.reduceAdd, reduceCtorEq, num, boo, str, ints, aV, aTab, aInst, aS, aT, aC, num, boo, str, aE_eq, aV]) (by first | rfl | (simp only [ends, ite_true, ite_false, reduceIte, Nat.reduceEqDiff, Nat.reduceLeDiff, Nat.reduceLT, Nat.reduceAdd, reduceCtorEq, num, boo, str, ints, aV, aTab, aInst, aS, aT, aC, num, boo, str, aE_eq, aV]; done) | simp [ends, ite_true, ite_false, reduceIte, Nat.reduceEqDiff, Nat.reduceLeDiff, Nat.reduceLT, Nat.reduceAdd, reduceCtorEq, num, boo, str, ints, aV, aTab, aInst, aS, aT, aC, num, boo, str, aE_eq, aV]) (by simp only [ends, ite_true, ite_false, reduceIte, Nat.reduceEqDiff, Nat.reduceLeDiff, Nat.reduceLT, Nat.reduceAdd, reduceCtorEq, num, boo, str, ints, aV, aTab, aInst, aS, aT, aC]) (by simp [idsOk, lookO, updO, ren1]) ?_
  simp -implicitDefEqProofs only [tabN, ↓steps, push_cast, reduceIte, Nat.reduceEqDiff, Nat.reduceAdd, Nat.reduceMul, Nat.reduceLT, Nat.reduceLeDiff, Int.reduceToNat, Int.reduceLE, Int.reduceLT, reduceCtorEq, tte, num, boo, str, ints, aV, aTab, aInst, aS, aT, aC]
  simp only [Bool.not_eq_false'] at h1
  refine bcase_intro (fun h2 => ?_) fun h2 => ?_
  · rw [if_pos (.inr (.inl (by simpa using h2)))] at hr
    exact ret_v (by first | trivial | (simp; done) | (simp; omega)) (by rw [← hr] <;> first | rfl | (simp [nullV]; done) | (simp_all [nullV]; done)) (by simp only [ends, ite_true, ite_false, reduceIte, Nat.reduceEqDiff, Nat.reduceLeDiff, Nat.reduceLT, Nat.reduceAdd, reduceCtorEq, num, boo, str, ints, aV, aTab, aInst, aS, aT, aC])
  simp only [Bool.not_eq_false'] at h2
  refine bcase_intro (fun h3 => ?_) fun h3 => ?_
  · rw [if_pos (.inr (.inr (by simpa using h3)))] at hr
    exact ret_v (by first | trivial | (simp; done) | (simp; omega)) (by rw [← hr] <;> first | rfl | (simp [nullV]; done) | (simp_all [nullV]; done)) (by simp only [ends, ite_true, ite_false, reduceIte, Nat.reduceEqDiff, Nat.reduceLeDiff, Nat.reduceLT, Nat.reduceAdd, reduceCtorEq, num, boo, str, ints, aV, aTab, aInst, aS, aT, aC])
  have hk : a.kind = b.kind := by simpa using h3
  rw [if_neg (by simp [h1, h2, hk])] at hr
  refine bcase_intro (fun h4 => ?_) fun h4 => ?_
  · have hk1 : a.kind = 1 := by simpa using h4
    rw [if_pos hk1] at hr
    refine callx_of [[0], [0], [0]] [] rfl (c_numbers op a.num b.num (valid_num h1 hk1) (valid_num h2 (by omega))) (by first | (simp; done) | (simp [rowsOf_length]; done) | (simp [rowsOf_length]; omega)) (by first | (simp only [ends, ite_true, ite_false, reduceIte, Nat.reduceEqDiff, Nat.reduceLeDiff, Nat.reduceLT, Nat.reduceAdd, reduceCtorEq, num, boo, str, ints, aV, aTab, aInst, aS, aT, aC, num, boo, str, aE_eq, aV]; done) | simp [ends, ite_true, ite_false, reduceIte, Nat.reduceEqDiff, Nat.reduceLeDiff, Nat.reduceLT, Nat.reduceAdd, reduceCtorEq, num, boo, str, ints, aV, aTab, aInst, aS, aT, aC, num, boo, str, aE_eq, aV]) (by first | rfl | (simp only [ends, ite_true, ite_false, reduceIte, Nat.reduceEqDiff, Nat.reduceLeDiff, Nat.reduceLT, Nat.reduceAdd, reduceCtorEq, num, boo, str, ints, aV, aTab, aInst, aS, aT, aC, num, boo, str, aE_eq, aV]; done) | simp [ends, ite_true, ite_false, reduceIte, Nat.reduceEqDiff, Nat.reduceLeDiff, Nat.reduceLT, Nat.reduceAdd, reduceCtorEq, num, boo, str, ints, aV, aTab, aInst, aS, aT, aC, num, boo, str, aE_eq, aV]) (by simp only [ends, ite_true, ite_false, reduceIte, Nat.reduceEqDiff, Nat.reduceLeDiff, Nat.reduceLT, Nat.reduceAdd, reduceCtorEq, num, boo, str, ints, aV, aTab, aInst, aS, aT, aC]) (by simp [idsOk, lookO, updO, ren1]) ?_
    simp -implicitDefEqProofs only [tabN, ↓steps, push_cast, reduceIte, Nat.reduceEqDiff, Nat.reduceAdd, Nat.reduceMul, Nat.reduceLT, Nat.reduceLeDiff, Int.reduceToNat, Int.reduceLE, Int.reduceLT, reduceCtorEq, tte, num, boo, str, ints, aV, aTab, aInst, aS, aT, aC]
    refine bcase_intro (fun h5 => ?_) fun h5 => ?_
    · rw [if_neg (by simpa using h5)] at hr
      exact ret_v (by first | trivial | (simp; done) | (simp; omega)) (by rw [← hr] <;> first | rfl | (simp [nullV]; done) | (simp_all [nullV]; done)) (by simp only [ends, ite_true, ite_false, reduceIte, Nat.reduceEqDiff, Nat.reduceLeDiff, Nat.reduceLT, Nat.reduceAdd, reduceCtorEq, num, boo, str, ints, aV, aTab, aInst, aS, aT, aC])
    rw [if_pos (by simpa using h5)] at hr
    refine callx_of [[0, 0, 0]] [] rfl (c_valid ⟨1, (numM op a.num b.num).1, ByteArray.empty⟩) (by first | (simp; done) | (simp [rowsOf_length]; done) | (simp [rowsOf_length]; omega)) (by first | (simp only [ends, ite_true, ite_false, reduceIte, Nat.reduceEqDiff, Nat.reduceLeDiff, Nat.reduceLT, Nat.reduceAdd, reduceCtorEq, num, boo, str, ints, aV, aTab, aInst, aS, aT, aC, num, boo, str, aE_eq, aV]; done) | simp [ends, ite_true, ite_false, reduceIte, Nat.reduceEqDiff, Nat.reduceLeDiff, Nat.reduceLT, Nat.reduceAdd, reduceCtorEq, num, boo, str, ints, aV, aTab, aInst, aS, aT, aC, num, boo, str, aE_eq, aV]) (by first | rfl | (simp only [ends, ite_true, ite_false, reduceIte, Nat.reduceEqDiff, Nat.reduceLeDiff, Nat.reduceLT, Nat.reduceAdd, reduceCtorEq, num, boo, str, ints, aV, aTab, aInst, aS, aT, aC, num, boo, str, aE_eq, aV]; done) | simp [ends, ite_true, ite_false, reduceIte, Nat.reduceEqDiff, Nat.reduceLeDiff, Nat.reduceLT, Nat.reduceAdd, reduceCtorEq, num, boo, str, ints, aV, aTab, aInst, aS, aT, aC, num, boo, str, aE_eq, aV]) (by simp only [ends, ite_true, ite_false, reduceIte, Nat.reduceEqDiff, Nat.reduceLeDiff, Nat.reduceLT, Nat.reduceAdd, reduceCtorEq, num, boo, str, ints, aV, aTab, aInst, aS, aT, aC]) (by simp [idsOk, lookO, updO, ren1]) ?_
    simp -implicitDefEqProofs only [tabN, ↓steps, push_cast, reduceIte, Nat.reduceEqDiff, Nat.reduceAdd, Nat.reduceMul, Nat.reduceLT, Nat.reduceLeDiff, Int.reduceToNat, Int.reduceLE, Int.reduceLT, reduceCtorEq, tte, num, boo, str, ints, aV, aTab, aInst, aS, aT, aC]
    unfold validV at hr
    refine bcase_intro (fun h6 => ?_) fun h6 => ?_
    · rw [if_neg (by simpa using h6)] at hr
      exact ret_v (by first | trivial | (simp; done) | (simp; omega)) (by rw [← hr] <;> first | rfl | (simp [nullV]; done) | (simp_all [nullV]; done)) (by simp only [ends, ite_true, ite_false, reduceIte, Nat.reduceEqDiff, Nat.reduceLeDiff, Nat.reduceLT, Nat.reduceAdd, reduceCtorEq, num, boo, str, ints, aV, aTab, aInst, aS, aT, aC])
    · rw [if_pos (by simpa using h6)] at hr
      exact ret_v (by first | trivial | (simp; done) | (simp; omega)) (by rw [← hr] <;> first | rfl | (simp [nullV]; done) | (simp_all [nullV]; done)) (by simp only [ends, ite_true, ite_false, reduceIte, Nat.reduceEqDiff, Nat.reduceLeDiff, Nat.reduceLT, Nat.reduceAdd, reduceCtorEq, num, boo, str, ints, aV, aTab, aInst, aS, aT, aC])
  have hk1 : ¬ a.kind = 1 := by simpa using h4
  rw [if_neg hk1] at hr
  have hnul : ACall Tryd.prog 14 [aV ⟨0, 0, ByteArray.empty⟩] [] (boo true) [] := valid_null ▸ c_valid nullV
  by_cases h5 : a.kind = 3 ∧ op = 12
  · rw [if_pos h5] at hr
    obtain ⟨h5a, h5b⟩ := h5
    have t1 := valid_text h1 h5a
    have t2 := valid_text h2 (by omega)
    refine bcase_intro (fun h6 => ?_) fun h6 => ?_
    · refine bcase_intro (fun h7 => ?_) fun h7 => ?_
      · refine ⟨by omega, ?_⟩
        refine callx_of [[0, 0, 0]] [] rfl (c_valid ⟨3, 0, a.text ++ b.text⟩) (by first | (simp; done) | (simp [rowsOf_length]; done) | (simp [rowsOf_length]; omega)) (by first | (simp only [ends, ite_true, ite_false, reduceIte, Nat.reduceEqDiff, Nat.reduceLeDiff, Nat.reduceLT, Nat.reduceAdd, reduceCtorEq, num, boo, str, ints, aV, aTab, aInst, aS, aT, aC, num, boo, str, aE_eq, aV]; done) | simp [ends, ite_true, ite_false, reduceIte, Nat.reduceEqDiff, Nat.reduceLeDiff, Nat.reduceLT, Nat.reduceAdd, reduceCtorEq, num, boo, str, ints, aV, aTab, aInst, aS, aT, aC, num, boo, str, aE_eq, aV]) (by first | rfl | (simp only [ends, ite_true, ite_false, reduceIte, Nat.reduceEqDiff, Nat.reduceLeDiff, Nat.reduceLT, Nat.reduceAdd, reduceCtorEq, num, boo, str, ints, aV, aTab, aInst, aS, aT, aC, num, boo, str, aE_eq, aV]; done) | simp [ends, ite_true, ite_false, reduceIte, Nat.reduceEqDiff, Nat.reduceLeDiff, Nat.reduceLT, Nat.reduceAdd, reduceCtorEq, num, boo, str, ints, aV, aTab, aInst, aS, aT, aC, num, boo, str, aE_eq, aV]) (by simp only [ends, ite_true, ite_false, reduceIte, Nat.reduceEqDiff, Nat.reduceLeDiff, Nat.reduceLT, Nat.reduceAdd, reduceCtorEq, num, boo, str, ints, aV, aTab, aInst, aS, aT, aC]) (by simp [idsOk, lookO, updO, ren1]) ?_
        simp -implicitDefEqProofs only [tabN, ↓steps, push_cast, reduceIte, Nat.reduceEqDiff, Nat.reduceAdd, Nat.reduceMul, Nat.reduceLT, Nat.reduceLeDiff, Int.reduceToNat, Int.reduceLE, Int.reduceLT, reduceCtorEq, tte, num, boo, str, ints, aV, aTab, aInst, aS, aT, aC]
        unfold validV at hr
        refine bcase_intro (fun h8 => ?_) fun h8 => ?_
        · rw [if_neg (by simpa using h8)] at hr
          exact ret_v (by first | trivial | (simp; done) | (simp; omega)) (by rw [← hr] <;> first | rfl | (simp [nullV]; done) | (simp_all [nullV]; done)) (by simp only [ends, ite_true, ite_false, reduceIte, Nat.reduceEqDiff, Nat.reduceLeDiff, Nat.reduceLT, Nat.reduceAdd, reduceCtorEq, num, boo, str, ints, aV, aTab, aInst, aS, aT, aC])
        · rw [if_pos (by simpa using h8)] at hr
          exact ret_v (by first | trivial | (simp; done) | (simp; omega)) (by rw [← hr] <;> first | rfl | (simp [nullV]; done) | (simp_all [nullV]; done)) (by simp only [ends, ite_true, ite_false, reduceIte, Nat.reduceEqDiff, Nat.reduceLeDiff, Nat.reduceLT, Nat.reduceAdd, reduceCtorEq, num, boo, str, ints, aV, aTab, aInst, aS, aT, aC])
      · simp at h7; omega
    · simp at h6; omega
  rw [if_neg h5] at hr
  refine bcase_intro (fun h6 => ?_) fun h6 => ?_
  · refine bcase_intro (fun h7 => ?_) fun h7 => ?_
    · simp at h6 h7; omega
    · refine callx_of [[0, 0, 0]] [] rfl (hnul) (by first | (simp; done) | (simp [rowsOf_length]; done) | (simp [rowsOf_length]; omega)) (by first | (simp only [ends, ite_true, ite_false, reduceIte, Nat.reduceEqDiff, Nat.reduceLeDiff, Nat.reduceLT, Nat.reduceAdd, reduceCtorEq, num, boo, str, ints, aV, aTab, aInst, aS, aT, aC, num, boo, str, aE_eq, aV]; done) | simp [ends, ite_true, ite_false, reduceIte, Nat.reduceEqDiff, Nat.reduceLeDiff, Nat.reduceLT, Nat.reduceAdd, reduceCtorEq, num, boo, str, ints, aV, aTab, aInst, aS, aT, aC, num, boo, str, aE_eq, aV]) (by first | rfl | (simp only [ends, ite_true, ite_false, reduceIte, Nat.reduceEqDiff, Nat.reduceLeDiff, Nat.reduceLT, Nat.reduceAdd, reduceCtorEq, num, boo, str, ints, aV, aTab, aInst, aS, aT, aC, num, boo, str, aE_eq, aV]; done) | simp [ends, ite_true, ite_false, reduceIte, Nat.reduceEqDiff, Nat.reduceLeDiff, Nat.reduceLT, Nat.reduceAdd, reduceCtorEq, num, boo, str, ints, aV, aTab, aInst, aS, aT, aC, num, boo, str, aE_eq, aV]) (by simp only [ends, ite_true, ite_false, reduceIte, Nat.reduceEqDiff, Nat.reduceLeDiff, Nat.reduceLT, Nat.reduceAdd, reduceCtorEq, num, boo, str, ints, aV, aTab, aInst, aS, aT, aC]) (by simp [idsOk, lookO, updO, ren1]) ?_
      simp -implicitDefEqProofs only [nullV, tabN, ↓steps, push_cast, reduceIte, Nat.reduceEqDiff, Nat.reduceAdd, Nat.reduceMul, Nat.reduceLT, Nat.reduceLeDiff, Int.reduceToNat, Int.reduceLE, Int.reduceLT, reduceCtorEq, tte, num, boo, str, ints, aV, aTab, aInst, aS, aT, aC]
      exact ret_v (by first | trivial | (simp; done) | (simp; omega)) (by rw [← hr] <;> first | rfl | (simp [nullV]; done) | (simp_all [nullV]; done)) (by simp only [ends, ite_true, ite_false, reduceIte, Nat.reduceEqDiff, Nat.reduceLeDiff, Nat.reduceLT, Nat.reduceAdd, reduceCtorEq, num, boo, str, ints, aV, aTab, aInst, aS, aT, aC])
  · refine callx_of [[0, 0, 0]] [] rfl (hnul) (by first | (simp; done) | (simp [rowsOf_length]; done) | (simp [rowsOf_length]; omega)) (by first | (simp only [ends, ite_true, ite_false, reduceIte, Nat.reduceEqDiff, Nat.reduceLeDiff, Nat.reduceLT, Nat.reduceAdd, reduceCtorEq, num, boo, str, ints, aV, aTab, aInst, aS, aT, aC, num, boo, str, aE_eq, aV]; done) | simp [ends, ite_true, ite_false, reduceIte, Nat.reduceEqDiff, Nat.reduceLeDiff, Nat.reduceLT, Nat.reduceAdd, reduceCtorEq, num, boo, str, ints, aV, aTab, aInst, aS, aT, aC, num, boo, str, aE_eq, aV]) (by first | rfl | (simp only [ends, ite_true, ite_false, reduceIte, Nat.reduceEqDiff, Nat.reduceLeDiff, Nat.reduceLT, Nat.reduceAdd, reduceCtorEq, num, boo, str, ints, aV, aTab, aInst, aS, aT, aC, num, boo, str, aE_eq, aV]; done) | simp [ends, ite_true, ite_false, reduceIte, Nat.reduceEqDiff, Nat.reduceLeDiff, Nat.reduceLT, Nat.reduceAdd, reduceCtorEq, num, boo, str, ints, aV, aTab, aInst, aS, aT, aC, num, boo, str, aE_eq, aV]) (by simp only [ends, ite_true, ite_false, reduceIte, Nat.reduceEqDiff, Nat.reduceLeDiff, Nat.reduceLT, Nat.reduceAdd, reduceCtorEq, num, boo, str, ints, aV, aTab, aInst, aS, aT, aC]) (by simp [idsOk, lookO, updO, ren1]) ?_
    simp -implicitDefEqProofs only [nullV, tabN, ↓steps, push_cast, reduceIte, Nat.reduceEqDiff, Nat.reduceAdd, Nat.reduceMul, Nat.reduceLT, Nat.reduceLeDiff, Int.reduceToNat, Int.reduceLE, Int.reduceLT, reduceCtorEq, tte, num, boo, str, ints, aV, aTab, aInst, aS, aT, aC]
    exact ret_v (by first | trivial | (simp; done) | (simp; omega)) (by rw [← hr] <;> first | rfl | (simp [nullV]; done) | (simp_all [nullV]; done)) (by simp only [ends, ite_true, ite_false, reduceIte, Nat.reduceEqDiff, Nat.reduceLeDiff, Nat.reduceLT, Nat.reduceAdd, reduceCtorEq, num, boo, str, ints, aV, aTab, aInst, aS, aT, aC])

theorem c_rvalidV (v : Val) : ACall Tryd.prog 107 [aV v] [] (aV (validV v)) [] := by
  refine ACall.enter mixed ttok Tryd.func107 rfl rfl _ Tryd.ntmps107 (Nat.le_of_ble_eq_true rfl) (by kernel_rfl) _ (congrArg Array.toList Tryd.results107) ?_
  generalize hr : aV (validV v) = R
  simp -implicitDefEqProofs only [argT, tabN, ↓steps, push_cast, reduceIte, Nat.reduceEqDiff, Nat.reduceAdd, Nat.reduceMul, Nat.reduceLT, Nat.reduceLeDiff, Int.reduceToNat, Int.reduceLE, Int.reduceLT, reduceCtorEq, tte, num, boo, str, ints, aV, aTab, aInst, aS, aT, aC]
  refine callx_of [[0, 0, 0]] [] rfl (c_rvalid v) (by first | (simp; done) | (simp [rowsOf_length]; done) | (simp [rowsOf_length]; omega)) (by first | (simp only [ends, ite_true, ite_false, reduceIte, Nat.reduceEqDiff, Nat.reduceLeDiff, Nat.reduceLT, Nat.reduceAdd, reduceCtorEq, num, boo, str, ints, aV, aTab, aInst, aS, aT, aC, num, boo, str, aE_eq, aV]; done) | simp [ends, ite_true, ite_false, reduceIte, Nat.reduceEqDiff, Nat.reduceLeDiff, Nat.reduceLT, Nat.reduceAdd, reduceCtorEq, num, boo, str, ints, aV, aTab, aInst, aS, aT, aC, num, boo, str, aE_eq, aV]) (by first | rfl | (simp only [ends, ite_true, ite_false, reduceIte, Nat.reduceEqDiff, Nat.reduceLeDiff, Nat.reduceLT, Nat.reduceAdd, reduceCtorEq, num, boo, str, ints, aV, aTab, aInst, aS, aT, aC, num, boo, str, aE_eq, aV]; done) | simp [ends, ite_true, ite_false, reduceIte, Nat.reduceEqDiff, Nat.reduceLeDiff, Nat.reduceLT, Nat.reduceAdd, reduceCtorEq, num, boo, str, ints, aV, aTab, aInst, aS, aT, aC, num, boo, str, aE_eq, aV]) (by simp only [ends, ite_true, ite_false, reduceIte, Nat.reduceEqDiff, Nat.reduceLeDiff, Nat.reduceLT, Nat.reduceAdd, reduceCtorEq, num, boo, str, ints, aV, aTab, aInst, aS, aT, aC]) (by simp [idsOk, lookO, updO, ren1]) ?_
  simp -implicitDefEqProofs only [tabN, ↓steps, push_cast, reduceIte, Nat.reduceEqDiff, Nat.reduceAdd, Nat.reduceMul, Nat.reduceLT, Nat.reduceLeDiff, Int.reduceToNat, Int.reduceLE, Int.reduceLT, reduceCtorEq, tte, num, boo, str, ints, aV, aTab, aInst, aS, aT, aC]
  unfold validV at hr
  refine bcase_intro (fun h8 => ?_) fun h8 => ?_
  · rw [if_neg (by simpa using h8)] at hr
    exact ret_v (by first | trivial | (simp; done) | (simp; omega)) (by rw [← hr] <;> first | rfl | (simp [nullV]; done) | (simp_all [nullV]; done)) (by simp only [ends, ite_true, ite_false, reduceIte, Nat.reduceEqDiff, Nat.reduceLeDiff, Nat.reduceLT, Nat.reduceAdd, reduceCtorEq, num, boo, str, ints, aV, aTab, aInst, aS, aT, aC])
  · rw [if_pos (by simpa using h8)] at hr
    exact ret_v (by first | trivial | (simp; done) | (simp; omega)) (by rw [← hr] <;> first | rfl | (simp [nullV]; done) | (simp_all [nullV]; done)) (by simp only [ends, ite_true, ite_false, reduceIte, Nat.reduceEqDiff, Nat.reduceLeDiff, Nat.reduceLT, Nat.reduceAdd, reduceCtorEq, num, boo, str, ints, aV, aTab, aInst, aS, aT, aC])

theorem c_product (a b : Int) (ha : okN a) (hb : okN b) : ACall Tryd.prog 108 [num a, num b] [] (.tup [num (numM 8 a b).1, boo (numM 8 a b).2]) [] := by
  refine ACall.enter mixed ttok Tryd.func108 rfl rfl _ Tryd.ntmps108 (Nat.le_of_ble_eq_true rfl) (by kernel_rfl) _ (congrArg Array.toList Tryd.results108) ?_
  have hM : numM 8 a b = (if a ≠ 0 ∧ b ≠ 0 ∧ absI a > (1000000000000 : Int).tdiv (absI b) then (0, false) else (a * b, true)) := rfl
  rw [hM]
  generalize hr : A.tup [num (if a ≠ 0 ∧ b ≠ 0 ∧ absI a > (1000000000000 : Int).tdiv (absI b) then ((0 : Int), false) else (a * b, true)).1, boo (if a ≠ 0 ∧ b ≠ 0 ∧ absI a > (1000000000000 : Int).tdiv (absI b) then ((0 : Int), false) else (a * b, true)).2] = R
  have ha' := ha
  have hb' := hb
  unfold okN at ha' hb'
  have w3 := wrapN (a := -a) (by omega)
  have w4 := wrapN (a := -b) (by omega)
  have e3 : (0 : Int) - a = -a := by omega
  have e4 : (0 : Int) - b = -b := by omega
  simp -implicitDefEqProofs only [argT, e3, e4, w3, w4, ↓steps, push_cast, reduceIte, Nat.reduceEqDiff, Nat.reduceAdd, Nat.reduceMul, Nat.reduceLT, Nat.reduceLeDiff, Int.reduceToNat, Int.reduceLE, Int.reduceLT, reduceCtorEq, tte, num, boo, str, ints, aV, aTab, aInst, aS, aT, aC]
  have hcase : ∀ (h : (a ≠ 0 ∧ b ≠ 0)), (absI b ≠ 0 ∧ bcase (decide (absI a > IntKind.i64.wrap ((1000000000000 : Int).tdiv (absI b)))) (retx (some (True, A.tup [A.d (D.lit (Value.int IntKind.i64 0)), A.d (D.lit (Value.bool false))])) { t := [], o := [] } R [])
      (retx (some (True, A.tup [A.d (D.lit (Value.int IntKind.i64 (IntKind.i64.wrap (a * b)))), A.d (D.lit (Value.bool true))])) { t := [], o := [] } R [])) := fun hz => by
    have hp := absI_pos hz.2
    have hd := tdiv_le (a := 1000000000000) (by decide) hp
    have w5 := wrapN (a := (1000000000000 : Int).tdiv (absI b)) (by omega)
    refine ⟨by omega, ?_⟩
    rw [w5]
    refine bcase_intro (fun h3 => ?_) fun h3 => ?_
    · simp only [decide_eq_true_eq] at h3
      exact ret_d2 trivial (by rw [← hr, if_pos ⟨hz.1, hz.2, h3⟩]; rfl) (by simp only [ends, ite_true, ite_false, reduceIte, Nat.reduceEqDiff, Nat.reduceLeDiff, Nat.reduceLT, Nat.reduceAdd, reduceCtorEq, num, boo, str, ints, aV, aTab, aInst, aS, aT, aC])
    · simp only [decide_eq_false_iff_not] at h3
      have hn : ¬ (a ≠ 0 ∧ b ≠ 0 ∧ absI a > (1000000000000 : Int).tdiv (absI b)) := fun h => h3 h.2.2
      have hm := mul_ok ha hb hn
      unfold okN at hm
      have w6 := wrapN (a := a * b) (by omega)
      rw [w6]
      exact ret_d2 trivial (by rw [← hr, if_neg hn]; rfl) (by simp only [ends, ite_true, ite_false, reduceIte, Nat.reduceEqDiff, Nat.reduceLeDiff, Nat.reduceLT, Nat.reduceAdd, reduceCtorEq, num, boo, str, ints, aV, aTab, aInst, aS, aT, aC])
  refine bcase_intro (fun h1 => ?_) fun h1 => ?_
  · simp only [beq_iff_eq] at h1
    subst h1
    exact ret_d2 trivial (by rw [← hr, if_neg (fun h => h.1 rfl), Int.zero_mul]; rfl) (by simp only [ends, ite_true, ite_false, reduceIte, Nat.reduceEqDiff, Nat.reduceLeDiff, Nat.reduceLT, Nat.reduceAdd, reduceCtorEq, num, boo, str, ints, aV, aTab, aInst, aS, aT, aC])
  refine bcase_intro (fun h2 => ?_) fun h2 => ?_
  · simp only [beq_iff_eq] at h2
    subst h2
    exact ret_d2 trivial (by rw [← hr, if_neg (fun h => h.2.1 rfl), Int.mul_zero]; rfl) (by simp only [ends, ite_true, ite_false, reduceIte, Nat.reduceEqDiff, Nat.reduceLeDiff, Nat.reduceLT, Nat.reduceAdd, reduceCtorEq, num, boo, str, ints, aV, aTab, aInst, aS, aT, aC])
  have hc := hcase ⟨by simpa using h1, by simpa using h2⟩
  refine bcase_intro (fun h3 => ?_) fun h3 => ?_
  · rw [show absI a = -a from if_pos (by simpa using h3)] at hc
    refine bcase_intro (fun h4 => ?_) fun h4 => ?_
    · rw [show absI b = -b from if_pos (by simpa using h4)] at hc
      exact hc
    · rw [show absI b = b from if_neg (by simpa using h4)] at hc
      exact hc
  · rw [show absI a = a from if_neg (by simpa using h3)] at hc
    refine bcase_intro (fun h4 => ?_) fun h4 => ?_
    · rw [show absI b = -b from if_pos (by simpa using h4)] at hc
      exact hc
    · rw [show absI b = b from if_neg (by simpa using h4)] at hc
      exact hc

/-- The reference's way. -/
def arithR (op : Int) (a b : Val) : Val :=
  if validM a = false ∨ validM b = false then nullV
  else if op = 12 then (if a.kind ≠ 3 ∨ b.kind ≠ 3 then nullV else validV ⟨3, 0, a.text ++ b.text⟩)
  else if a.kind ≠ 1 ∨ b.kind ≠ 1 then nullV
  else if op = 6 then validV ⟨1, a.num + b.num, ByteArray.empty⟩ else if op = 7 then validV ⟨1, a.num - b.num, ByteArray.empty⟩
  else if (numM op a.num b.num).2 = true then ⟨1, (numM op a.num b.num).1, ByteArray.empty⟩ else nullV
theorem arithR_eq (op : Int) (a b : Val) : arithR op a b = arithM op a b := by
  unfold arithR arithM
  by_cases h1 : validM a = false
  · simp [h1]
  by_cases h2 : validM b = false
  · simp [h2]
  simp only [Bool.not_eq_false] at h1 h2
  simp only [h1, h2, Bool.true_eq_false, false_or, if_false]
  by_cases h12 : op = 12
  · subst h12
    rw [if_pos rfl]
    by_cases hk : a.kind = b.kind
    · by_cases ha : a.kind = 1
      · have hb1 : b.kind = 1 := by omega
        simp [ha, hb1, numM]
      · by_cases ha3 : a.kind = 3
        · have hb3 : b.kind = 3 := by omega
          simp [ha3, hb3]
        · rw [hk] at ha ha3
          simp [hk, ha, ha3]
    · rw [if_pos (c := a.kind ≠ b.kind) hk, if_pos (by omega)]
  rw [if_neg h12]
  by_cases hk : a.kind = b.kind
  · rw [if_neg (c := a.kind ≠ b.kind) (fun h => h hk)]
    by_cases ha : a.kind = 1
    · rw [if_neg (by omega), if_pos ha]
      have ka := valid_num h1 ha
      have kb := valid_num h2 (by omega)
      by_cases h6 : op = 6
      · subst h6; rfl
      by_cases h7 : op = 7
      · subst h7; rfl
      rw [if_neg h6, if_neg h7]
      split
      · rename_i hq
        rw [validV_int]
        unfold numM at hq ⊢
        rw [if_neg h6, if_neg h7] at hq ⊢
        split
        · rename_i h8
          rw [if_pos h8] at hq
          split
          · rename_i hz; rw [if_pos hz] at hq; cases hq
          · rename_i hz; exact mul_ok ka kb hz
        · rename_i h8
          rw [if_neg h8] at hq
          split
          · rename_i h9
            rw [if_pos h9] at hq
            split
            · rename_i hz; exact tdiv_ok ka hz
            · rename_i hz; rw [if_neg hz] at hq; cases hq
          · rename_i h9
            rw [if_neg h9] at hq
            split
            · rename_i h10
              rw [if_pos h10] at hq
              split
              · rename_i hz; exact tmod_ok ka hz
              · rename_i hz; rw [if_neg hz] at hq; cases hq
            · rename_i h10; rw [if_neg h10] at hq; cases hq
      · rfl
    · rw [if_pos (by omega), if_neg ha, if_neg (by omega)]
  · rw [if_pos (c := a.kind ≠ b.kind) hk, if_pos (by omega)]

theorem c_rarith (op : Int) (a b : Val) : ACall Tryd.prog 52 [num op, aV a, aV b] [] (aV (arithM op a b)) [] := by
  rw [← arithR_eq]
  refine ACall.enter mixed ttok Tryd.func52 rfl rfl _ Tryd.ntmps52 (Nat.le_of_ble_eq_true rfl) (by kernel_rfl) _ (congrArg Array.toList Tryd.results52) ?_
  generalize hr : aV (arithR op a b) = R
  simp -implicitDefEqProofs only [argT, tabN, ↓steps, push_cast, reduceIte, Nat.reduceEqDiff, Nat.reduceAdd, Nat.reduceMul, Nat.reduceLT, Nat.reduceLeDiff, Int.reduceToNat, Int.reduceLE, Int.reduceLT, reduceCtorEq, tte, num, boo, str, ints, aV, aTab, aInst, aS, aT, aC]
  refine callx_of [[0, 0, 0]] [] rfl (c_rvalid a) (by first | (simp; done) | (simp [rowsOf_length]; done) | (simp [rowsOf_length]; omega)) (by first | (simp only [ends, ite_true, ite_false, reduceIte, Nat.reduceEqDiff, Nat.reduceLeDiff, Nat.reduceLT, Nat.reduceAdd, reduceCtorEq, num, boo, str, ints, aV, aTab, aInst, aS, aT, aC, num, boo, str, aE_eq, aV]; done) | simp [ends, ite_true, ite_false, reduceIte, Nat.reduceEqDiff, Nat.reduceLeDiff, Nat.reduceLT, Nat.reduceAdd, reduceCtorEq, num, boo, str, ints, aV, aTab, aInst, aS, aT, aC, num, boo, str, aE_eq, aV]) (by first | rfl | (simp only [ends, ite_true, ite_false, reduceIte, Nat.reduceEqDiff, Nat.reduceLeDiff, Nat.reduceLT, Nat.reduceAdd, reduceCtorEq, num, boo, str, ints, aV, aTab, aInst, aS, aT, aC, num, boo, str, aE_eq, aV]; done) | simp [ends, ite_true, ite_false, reduceIte, Nat.reduceEqDiff, Nat.reduceLeDiff, Nat.reduceLT, Nat.reduceAdd, reduceCtorEq, num, boo, str, ints, aV, aTab, aInst, aS, aT, aC, num, boo, str, aE_eq, aV]) (by simp only [ends, ite_true, ite_false, reduceIte, Nat.reduceEqDiff, Nat.reduceLeDiff, Nat.reduceLT, Nat.reduceAdd, reduceCtorEq, num, boo, str, ints, aV, aTab, aInst, aS, aT, aC]) (by simp [idsOk, lookO, updO, ren1]) ?_
  simp -implicitDefEqProofs only [tabN, ↓steps, push_cast, reduceIte, Nat.reduceEqDiff, Nat.reduceAdd, Nat.reduceMul, Nat.reduceLT, Nat.reduceLeDiff, Int.reduceToNat, Int.reduceLE, Int.reduceLT, reduceCtorEq, tte, num, boo, str, ints, aV, aTab, aInst, aS, aT, aC]
  unfold arithR at hr
  refine bcase_intro (fun h1 => ?_) fun h1 => ?_
  · rw [if_pos (.inl (by simpa using h1))] at hr
    exact ret_v (by first | trivial | (simp; done) | (simp; omega)) (by rw [← hr] <;> first | rfl | (simp [nullV]; done) | (simp_all [nullV]; done)) (by simp only [ends, ite_true, ite_false, reduceIte, Nat.reduceEqDiff, Nat.reduceLeDiff, Nat.reduceLT, Nat.reduceAdd, reduceCtorEq, num, boo, str, ints, aV, aTab, aInst, aS, aT, aC])
  refine callx_of [[0, 0, 0]] [] rfl (c_rvalid b) (by first | (simp; done) | (simp [rowsOf_length]; done) | (simp [rowsOf_length]; omega)) (by first | (simp only [ends, ite_true, ite_false, reduceIte, Nat.reduceEqDiff, Nat.reduceLeDiff, Nat.reduceLT, Nat.reduceAdd, reduceCtorEq, num, boo, str, ints, aV, aTab, aInst, aS, aT, aC, num, boo, str, aE_eq, aV]; done) | simp [ends, ite_true, ite_false, reduceIte, Nat.reduceEqDiff, Nat.reduceLeDiff, Nat.reduceLT, Nat.reduceAdd, reduceCtorEq, num, boo, str, ints, aV, aTab, aInst, aS, aT, aC, num, boo, str, aE_eq, aV]) (by first | rfl | (simp only [ends, ite_true, ite_false, reduceIte, Nat.reduceEqDiff, Nat.reduceLeDiff, Nat.reduceLT, Nat.reduceAdd, reduceCtorEq, num, boo, str, ints, aV, aTab, aInst, aS, aT, aC, num, boo, str, aE_eq, aV]; done) | simp [ends, ite_true, ite_false, reduceIte, Nat.reduceEqDiff, Nat.reduceLeDiff, Nat.reduceLT, Nat.reduceAdd, reduceCtorEq, num, boo, str, ints, aV, aTab, aInst, aS, aT, aC, num, boo, str, aE_eq, aV]) (by simp only [ends, ite_true, ite_false, reduceIte, Nat.reduceEqDiff, Nat.reduceLeDiff, Nat.reduceLT, Nat.reduceAdd, reduceCtorEq, num, boo, str, ints, aV, aTab, aInst, aS, aT, aC]) (by simp [idsOk, lookO, updO, ren1]) ?_
  simp -implicitDefEqProofs only [tabN, ↓steps, push_cast, reduceIte, Nat.reduceEqDiff, Nat.reduceAdd, Nat.reduceMul, Nat.reduceLT, Nat.reduceLeDiff, Int.reduceToNat, Int.reduceLE, Int.reduceLT, reduceCtorEq, tte, num, boo, str, ints, aV, aTab, aInst, aS, aT, aC]
  simp only [Bool.not_eq_false'] at h1
  refine bcase_intro (fun h2 => ?_) fun h2 => ?_
  · rw [if_pos (.inr (by simpa using h2))] at hr
    exact ret_v (by first | trivial | (simp; done) | (simp; omega)) (by rw [← hr] <;> first | rfl | (simp [nullV]; done) | (simp_all [nullV]; done)) (by simp only [ends, ite_true, ite_false, reduceIte, Nat.reduceEqDiff, Nat.reduceLeDiff, Nat.reduceLT, Nat.reduceAdd, reduceCtorEq, num, boo, str, ints, aV, aTab, aInst, aS, aT, aC])
  simp only [Bool.not_eq_false'] at h2
  rw [if_neg (by simp [h1, h2])] at hr
  refine bcase_intro (fun h12 => ?_) fun h12 => ?_
  · rw [if_pos (by simpa using h12)] at hr
    refine bcase_intro (fun h3 => ?_) fun h3 => ?_
    · rw [if_pos (.inl (by simpa using h3))] at hr
      exact ret_v (by first | trivial | (simp; done) | (simp; omega)) (by rw [← hr] <;> first | rfl | (simp [nullV]; done) | (simp_all [nullV]; done)) (by simp only [ends, ite_true, ite_false, reduceIte, Nat.reduceEqDiff, Nat.reduceLeDiff, Nat.reduceLT, Nat.reduceAdd, reduceCtorEq, num, boo, str, ints, aV, aTab, aInst, aS, aT, aC])
    refine bcase_intro (fun h4 => ?_) fun h4 => ?_
    · rw [if_pos (.inr (by simpa using h4))] at hr
      exact ret_v (by first | trivial | (simp; done) | (simp; omega)) (by rw [← hr] <;> first | rfl | (simp [nullV]; done) | (simp_all [nullV]; done)) (by simp only [ends, ite_true, ite_false, reduceIte, Nat.reduceEqDiff, Nat.reduceLeDiff, Nat.reduceLT, Nat.reduceAdd, reduceCtorEq, num, boo, str, ints, aV, aTab, aInst, aS, aT, aC])
    simp only [bne_eq_false_iff_eq] at h3 h4
    rw [if_neg (by omega)] at hr
    have t1 := valid_text h1 h3
    have t2 := valid_text h2 h4
    refine ⟨by omega, ?_⟩
    refine callx_of [[0, 0, 0]] [] rfl (c_rvalidV ⟨3, 0, a.text ++ b.text⟩) (by first | (simp; done) | (simp [rowsOf_length]; done) | (simp [rowsOf_length]; omega)) (by first | (simp only [ends, ite_true, ite_false, reduceIte, Nat.reduceEqDiff, Nat.reduceLeDiff, Nat.reduceLT, Nat.reduceAdd, reduceCtorEq, num, boo, str, ints, aV, aTab, aInst, aS, aT, aC, num, boo, str, aE_eq, aV]; done) | simp [ends, ite_true, ite_false, reduceIte, Nat.reduceEqDiff, Nat.reduceLeDiff, Nat.reduceLT, Nat.reduceAdd, reduceCtorEq, num, boo, str, ints, aV, aTab, aInst, aS, aT, aC, num, boo, str, aE_eq, aV]) (by first | rfl | (simp only [ends, ite_true, ite_false, reduceIte, Nat.reduceEqDiff, Nat.reduceLeDiff, Nat.reduceLT, Nat.reduceAdd, reduceCtorEq, num, boo, str, ints, aV, aTab, aInst, aS, aT, aC, num, boo, str, aE_eq, aV]; done) | simp [ends, ite_true, ite_false, reduceIte, Nat.reduceEqDiff, Nat.reduceLeDiff, Nat.reduceLT, Nat.reduceAdd, reduceCtorEq, num, boo, str, ints, aV, aTab, aInst, aS, aT, aC, num, boo, str, aE_eq, aV]) (by simp only [ends, ite_true, ite_false, reduceIte, Nat.reduceEqDiff, Nat.reduceLeDiff, Nat.reduceLT, Nat.reduceAdd, reduceCtorEq, num, boo, str, ints, aV, aTab, aInst, aS, aT, aC]) (by simp [idsOk, lookO, updO, ren1]) ?_
    simp -implicitDefEqProofs only [aV, ↓steps, push_cast, reduceIte, Nat.reduceEqDiff, Nat.reduceAdd, Nat.reduceMul, Nat.reduceLT, Nat.reduceLeDiff, Int.reduceToNat, Int.reduceLE, Int.reduceLT, reduceCtorEq, tte, num, boo, str, ints, aV, aTab, aInst, aS, aT, aC]
    exact ret_v (by first | trivial | (simp; done) | (simp; omega)) (by rw [← hr] <;> first | rfl | (simp [nullV]; done) | (simp_all [nullV]; done)) (by simp only [ends, ite_true, ite_false, reduceIte, Nat.reduceEqDiff, Nat.reduceLeDiff, Nat.reduceLT, Nat.reduceAdd, reduceCtorEq, num, boo, str, ints, aV, aTab, aInst, aS, aT, aC])
  rw [if_neg (by simpa using h12)] at hr
  refine bcase_intro (fun h3 => ?_) fun h3 => ?_
  · rw [if_pos (.inl (by simpa using h3))] at hr
    exact ret_v (by first | trivial | (simp; done) | (simp; omega)) (by rw [← hr] <;> first | rfl | (simp [nullV]; done) | (simp_all [nullV]; done)) (by simp only [ends, ite_true, ite_false, reduceIte, Nat.reduceEqDiff, Nat.reduceLeDiff, Nat.reduceLT, Nat.reduceAdd, reduceCtorEq, num, boo, str, ints, aV, aTab, aInst, aS, aT, aC])
  refine bcase_intro (fun h4 => ?_) fun h4 => ?_
  · rw [if_pos (.inr (by simpa using h4))] at hr
    exact ret_v (by first | trivial | (simp; done) | (simp; omega)) (by rw [← hr] <;> first | rfl | (simp [nullV]; done) | (simp_all [nullV]; done)) (by simp only [ends, ite_true, ite_false, reduceIte, Nat.reduceEqDiff, Nat.reduceLeDiff, Nat.reduceLT, Nat.reduceAdd, reduceCtorEq, num, boo, str, ints, aV, aTab, aInst, aS, aT, aC])
  simp only [bne_eq_false_iff_eq] at h3 h4
  rw [if_neg (by omega)] at hr
  have ka := valid_num h1 h3
  have kb := valid_num h2 h4
  have ka' := ka
  have kb' := kb
  unfold okN at ka' kb'
  have w1 := wrapN (a := a.num + b.num) (by omega)
  have w2 := wrapN (a := a.num - b.num) (by omega)
  refine bcase_intro (fun h6 => ?_) fun h6 => ?_
  · rw [if_pos (by simpa using h6)] at hr
    simp only [w1]
    refine callx_of [[0, 0, 0]] [] rfl (c_rvalidV ⟨1, a.num + b.num, ByteArray.empty⟩) (by first | (simp; done) | (simp [rowsOf_length]; done) | (simp [rowsOf_length]; omega)) (by first | (simp only [ends, ite_true, ite_false, reduceIte, Nat.reduceEqDiff, Nat.reduceLeDiff, Nat.reduceLT, Nat.reduceAdd, reduceCtorEq, num, boo, str, ints, aV, aTab, aInst, aS, aT, aC, num, boo, str, aE_eq, aV]; done) | simp [ends, ite_true, ite_false, reduceIte, Nat.reduceEqDiff, Nat.reduceLeDiff, Nat.reduceLT, Nat.reduceAdd, reduceCtorEq, num, boo, str, ints, aV, aTab, aInst, aS, aT, aC, num, boo, str, aE_eq, aV]) (by first | rfl | (simp only [ends, ite_true, ite_false, reduceIte, Nat.reduceEqDiff, Nat.reduceLeDiff, Nat.reduceLT, Nat.reduceAdd, reduceCtorEq, num, boo, str, ints, aV, aTab, aInst, aS, aT, aC, num, boo, str, aE_eq, aV]; done) | simp [ends, ite_true, ite_false, reduceIte, Nat.reduceEqDiff, Nat.reduceLeDiff, Nat.reduceLT, Nat.reduceAdd, reduceCtorEq, num, boo, str, ints, aV, aTab, aInst, aS, aT, aC, num, boo, str, aE_eq, aV]) (by simp only [ends, ite_true, ite_false, reduceIte, Nat.reduceEqDiff, Nat.reduceLeDiff, Nat.reduceLT, Nat.reduceAdd, reduceCtorEq, num, boo, str, ints, aV, aTab, aInst, aS, aT, aC]) (by simp [idsOk, lookO, updO, ren1]) ?_
    simp -implicitDefEqProofs only [aV, ↓steps, push_cast, reduceIte, Nat.reduceEqDiff, Nat.reduceAdd, Nat.reduceMul, Nat.reduceLT, Nat.reduceLeDiff, Int.reduceToNat, Int.reduceLE, Int.reduceLT, reduceCtorEq, tte, num, boo, str, ints, aV, aTab, aInst, aS, aT, aC]
    exact ret_v (by first | trivial | (simp; done) | (simp; omega)) (by rw [← hr] <;> first | rfl | (simp [nullV]; done) | (simp_all [nullV]; done)) (by simp only [ends, ite_true, ite_false, reduceIte, Nat.reduceEqDiff, Nat.reduceLeDiff, Nat.reduceLT, Nat.reduceAdd, reduceCtorEq, num, boo, str, ints, aV, aTab, aInst, aS, aT, aC])
  rw [if_neg (by simpa using h6)] at hr
  refine bcase_intro (fun h7 => ?_) fun h7 => ?_
  · rw [if_pos (by simpa using h7)] at hr
    simp only [w2]
    refine callx_of [[0, 0, 0]] [] rfl (c_rvalidV ⟨1, a.num - b.num, ByteArray.empty⟩) (by first | (simp; done) | (simp [rowsOf_length]; done) | (simp [rowsOf_length]; omega)) (by first | (simp only [ends, ite_true, ite_false, reduceIte, Nat.reduceEqDiff, Nat.reduceLeDiff, Nat.reduceLT, Nat.reduceAdd, reduceCtorEq, num, boo, str, ints, aV, aTab, aInst, aS, aT, aC, num, boo, str, aE_eq, aV]; done) | simp [ends, ite_true, ite_false, reduceIte, Nat.reduceEqDiff, Nat.reduceLeDiff, Nat.reduceLT, Nat.reduceAdd, reduceCtorEq, num, boo, str, ints, aV, aTab, aInst, aS, aT, aC, num, boo, str, aE_eq, aV]) (by first | rfl | (simp only [ends, ite_true, ite_false, reduceIte, Nat.reduceEqDiff, Nat.reduceLeDiff, Nat.reduceLT, Nat.reduceAdd, reduceCtorEq, num, boo, str, ints, aV, aTab, aInst, aS, aT, aC, num, boo, str, aE_eq, aV]; done) | simp [ends, ite_true, ite_false, reduceIte, Nat.reduceEqDiff, Nat.reduceLeDiff, Nat.reduceLT, Nat.reduceAdd, reduceCtorEq, num, boo, str, ints, aV, aTab, aInst, aS, aT, aC, num, boo, str, aE_eq, aV]) (by simp only [ends, ite_true, ite_false, reduceIte, Nat.reduceEqDiff, Nat.reduceLeDiff, Nat.reduceLT, Nat.reduceAdd, reduceCtorEq, num, boo, str, ints, aV, aTab, aInst, aS, aT, aC]) (by simp [idsOk, lookO, updO, ren1]) ?_
    simp -implicitDefEqProofs only [aV, ↓steps, push_cast, reduceIte, Nat.reduceEqDiff, Nat.reduceAdd, Nat.reduceMul, Nat.reduceLT, Nat.reduceLeDiff, Int.reduceToNat, Int.reduceLE, Int.reduceLT, reduceCtorEq, tte, num, boo, str, ints, aV, aTab, aInst, aS, aT, aC]
    exact ret_v (by first | trivial | (simp; done) | (simp; omega)) (by rw [← hr] <;> first | rfl | (simp [nullV]; done) | (simp_all [nullV]; done)) (by simp only [ends, ite_true, ite_false, reduceIte, Nat.reduceEqDiff, Nat.reduceLeDiff, Nat.reduceLT, Nat.reduceAdd, reduceCtorEq, num, boo, str, ints, aV, aTab, aInst, aS, aT, aC])
  rw [if_neg (by simpa using h7)] at hr
  refine bcase_intro (fun h8 => ?_) fun h8 => ?_
  · have h8' : op = 8 := by simpa using h8
    subst h8'
    refine callx_of [[0], [0]] [] rfl (c_product a.num b.num ka kb) (by first | (simp; done) | (simp [rowsOf_length]; done) | (simp [rowsOf_length]; omega)) (by first | (simp only [ends, ite_true, ite_false, reduceIte, Nat.reduceEqDiff, Nat.reduceLeDiff, Nat.reduceLT, Nat.reduceAdd, reduceCtorEq, num, boo, str, ints, aV, aTab, aInst, aS, aT, aC, num, boo, str, aE_eq, aV]; done) | simp [ends, ite_true, ite_false, reduceIte, Nat.reduceEqDiff, Nat.reduceLeDiff, Nat.reduceLT, Nat.reduceAdd, reduceCtorEq, num, boo, str, ints, aV, aTab, aInst, aS, aT, aC, num, boo, str, aE_eq, aV]) (by first | rfl | (simp only [ends, ite_true, ite_false, reduceIte, Nat.reduceEqDiff, Nat.reduceLeDiff, Nat.reduceLT, Nat.reduceAdd, reduceCtorEq, num, boo, str, ints, aV, aTab, aInst, aS, aT, aC, num, boo, str, aE_eq, aV]; done) | simp [ends, ite_true, ite_false, reduceIte, Nat.reduceEqDiff, Nat.reduceLeDiff, Nat.reduceLT, Nat.reduceAdd, reduceCtorEq, num, boo, str, ints, aV, aTab, aInst, aS, aT, aC, num, boo, str, aE_eq, aV]) (by simp only [ends, ite_true, ite_false, reduceIte, Nat.reduceEqDiff, Nat.reduceLeDiff, Nat.reduceLT, Nat.reduceAdd, reduceCtorEq, num, boo, str, ints, aV, aTab, aInst, aS, aT, aC]) (by simp [idsOk, lookO, updO, ren1]) ?_
    simp -implicitDefEqProofs only [↓steps, push_cast, reduceIte, Nat.reduceEqDiff, Nat.reduceAdd, Nat.reduceMul, Nat.reduceLT, Nat.reduceLeDiff, Int.reduceToNat, Int.reduceLE, Int.reduceLT, reduceCtorEq, tte, num, boo, str, ints, aV, aTab, aInst, aS, aT, aC]
    refine bcase_intro (fun h9 => ?_) fun h9 => ?_
    · rw [if_neg (by simpa using h9)] at hr
      exact ret_v (by first | trivial | (simp; done) | (simp; omega)) (by rw [← hr] <;> first | rfl | (simp [nullV]; done) | (simp_all [nullV]; done)) (by simp only [ends, ite_true, ite_false, reduceIte, Nat.reduceEqDiff, Nat.reduceLeDiff, Nat.reduceLT, Nat.reduceAdd, reduceCtorEq, num, boo, str, ints, aV, aTab, aInst, aS, aT, aC])
    · rw [if_pos (by simpa using h9)] at hr
      exact ret_v (by first | trivial | (simp; done) | (simp; omega)) (by rw [← hr] <;> first | rfl | (simp [nullV]; done) | (simp_all [nullV]; done)) (by simp only [ends, ite_true, ite_false, reduceIte, Nat.reduceEqDiff, Nat.reduceLeDiff, Nat.reduceLT, Nat.reduceAdd, reduceCtorEq, num, boo, str, ints, aV, aTab, aInst, aS, aT, aC])
  unfold numM at hr
  rw [if_neg (c := op = 6) (by simpa using h6), if_neg (c := op = 7) (by simpa using h7), if_neg (c := op = 8) (by simpa using h8)] at hr
  refine bcase_intro (fun h9 => ?_) fun h9 => ?_
  · rw [if_pos (c := op = 9) (by simpa using h9)] at hr
    refine bcase_intro (fun h10 => ?_) fun h10 => ?_
    · have hb0 : b.num ≠ 0 := by simpa using h10
      have hm := tdiv_ok ka hb0
      unfold okN at hm
      have w3 := wrapN (a := a.num.tdiv b.num) (by omega)
      refine ⟨hb0, ?_⟩
      rw [if_pos hb0, if_pos rfl] at hr
      simp only [w3]
      exact ret_v (by first | trivial | (simp; done) | (simp; omega)) (by rw [← hr] <;> first | rfl | (simp [nullV]; done) | (simp_all [nullV]; done)) (by simp only [ends, ite_true, ite_false, reduceIte, Nat.reduceEqDiff, Nat.reduceLeDiff, Nat.reduceLT, Nat.reduceAdd, reduceCtorEq, num, boo, str, ints, aV, aTab, aInst, aS, aT, aC])
    · have hb0 : ¬ b.num ≠ 0 := by simpa using h10
      rw [if_neg hb0, if_neg (by decide)] at hr
      exact ret_v (by first | trivial | (simp; done) | (simp; omega)) (by rw [← hr] <;> first | rfl | (simp [nullV]; done) | (simp_all [nullV]; done)) (by simp only [ends, ite_true, ite_false, reduceIte, Nat.reduceEqDiff, Nat.reduceLeDiff, Nat.reduceLT, Nat.reduceAdd, reduceCtorEq, num, boo, str, ints, aV, aTab, aInst, aS, aT, aC])
  rw [if_neg (c := op = 9) (by simpa using h9)] at hr
  refine bcase_intro (fun h10 => ?_) fun h10 => ?_
  · rw [if_pos (c := op = 10) (by simpa using h10)] at hr
    refine bcase_intro (fun h11 => ?_) fun h11 => ?_
    · have hb0 : b.num ≠ 0 := by simpa using h11
      refine ⟨hb0, ?_⟩
      rw [if_pos hb0, if_pos rfl] at hr
      exact ret_v (by first | trivial | (simp; done) | (simp; omega)) (by rw [← hr] <;> first | rfl | (simp [nullV]; done) | (simp_all [nullV]; done)) (by simp only [ends, ite_true, ite_false, reduceIte, Nat.reduceEqDiff, Nat.reduceLeDiff, Nat.reduceLT, Nat.reduceAdd, reduceCtorEq, num, boo, str, ints, aV, aTab, aInst, aS, aT, aC])
    · have hb0 : ¬ b.num ≠ 0 := by simpa using h11
      rw [if_neg hb0, if_neg (by decide)] at hr
      exact ret_v (by first | trivial | (simp; done) | (simp; omega)) (by rw [← hr] <;> first | rfl | (simp [nullV]; done) | (simp_all [nullV]; done)) (by simp only [ends, ite_true, ite_false, reduceIte, Nat.reduceEqDiff, Nat.reduceLeDiff, Nat.reduceLT, Nat.reduceAdd, reduceCtorEq, num, boo, str, ints, aV, aTab, aInst, aS, aT, aC])
  rw [if_neg (c := op = 10) (by simpa using h10), if_neg (by decide)] at hr
  exact ret_v (by first | trivial | (simp; done) | (simp; omega)) (by rw [← hr] <;> first | rfl | (simp [nullV]; done) | (simp_all [nullV]; done)) (by simp only [ends, ite_true, ite_false, reduceIte, Nat.reduceEqDiff, Nat.reduceLeDiff, Nat.reduceLT, Nat.reduceAdd, reduceCtorEq, num, boo, str, ints, aV, aTab, aInst, aS, aT, aC])
end Go.Proofs.YtkccdfaelbepeaaDoor
