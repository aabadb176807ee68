/- Any aggregate over any rows is what the specification says: a proof over an abstract machine of our own (part Vf) -/
import Derived.Test.YtkccdfaelbepeaaDoorVd
import Derived.Test.YtkccdfaelbepeaaDoorVc
import Derived.Test.YtkccdfaelbepeaaDoorVe
set_option linter.all false

namespace Go.Proofs.YtkccdfaelbepeaaDoor
open Go.Am
set_option linter.unusedVariables false
set_option maxRecDepth 100000
set_option maxHeartbeats 4000000

def leM (x y : Val) : Bool := decide (cmpM x y ≤ 0)
theorem leM_trans (a b c : Val) (h1 : leM a b = true) (h2 : leM b c = true) : leM a c = true := by
  simp only [leM, decide_eq_true_eq] at *
  rcases Int.lt_or_eq_of_le h1 with h3 | h3
  · rcases Int.lt_or_eq_of_le h2 with h4 | h4
    · exact Int.le_of_lt (cmpM_trans h3 h4)
    · rw [cmpM_eq] at h4; subst h4; exact h1
  · rw [cmpM_eq] at h3; subst h3; exact h2
theorem leM_total (a b : Val) : (leM a b || leM b a) = true := by
  simp only [leM, Bool.or_eq_true, decide_eq_true_eq]
  by_cases h : cmpM b a < 0
  · exact .inr (Int.le_of_lt h)
  · exact .inl ((cmpM_le a b).2 h)
theorem leM_anti (a b : Val) (h1 : leM a b = true) (h2 : leM b a = true) : a = b := by
  simp only [leM, decide_eq_true_eq] at *
  exact cmpM_tri a b ((cmpM_le b a).1 h2) ((cmpM_le a b).1 h1)
theorem sortV_eq (l : List Val) : sortV l = l.mergeSort leM := by
  unfold sortV
  congr 1
  funext x y
  simp only [Go.Proofs.ltOf, leM]
  rw [Bool.eq_iff_iff]
  simp only [Bool.not_eq_true', decide_eq_false_iff_not, decide_eq_true_eq]
  exact (cmpM_le x y).symm
theorem sortV_perm (l : List Val) : (sortV l).Perm l := by rw [sortV_eq]; exact List.mergeSort_perm l leM
theorem sortV_sorted (l : List Val) : (sortV l).Pairwise fun a b => leM a b = true := by rw [sortV_eq]; exact List.pairwise_mergeSort leM_trans leM_total l

/-- The reference's sorting, at rows of one value. -/
def canV : Nat → List Val → List Val
  | 0, l => l
  | n + 1, l => if l.length < 2 then l else List.merge (canV n (l.take (l.length / 2))) (canV n (l.drop (l.length / 2))) leM
theorem cmpR_one (x y : Val) : cmpR [x] [y] = cmpM x y := by
  rw [cmpR]
  split
  · rfl
  · rename_i h
    have : cmpM x y = 0 := by simpa using h
    rw [this]; rfl
theorem leR_one (x y : Val) : leR [x] [y] = leM x y := by unfold leR leM; rw [cmpR_one]
theorem merge_sing : ∀ (n : Nat) (a b : List Val), a.length + b.length ≤ n → List.merge (sing a) (sing b) leR = sing (List.merge a b leM)
  | n, [], b, _ => by simp [sing]
  | n, x :: a, [], _ => by simp [sing]
  | 0, x :: a, y :: b, h => by simp at h
  | n + 1, x :: a, y :: b, h => by
    simp only [List.length_cons] at h
    have e1 : sing (x :: a) = [x] :: sing a := rfl
    have e2 : sing (y :: b) = [y] :: sing b := rfl
    rw [e1, e2]
    cases hq : leM x y
    · rw [merge_r (by rw [leR_one]; exact hq), merge_r hq, ← e1, merge_sing n (x :: a) b (by simp; omega)]
      rfl
    · rw [merge_l (by rw [leR_one]; exact hq), merge_l hq, ← e2, merge_sing n a (y :: b) (by simp; omega)]
      rfl
theorem canF_sing : ∀ (n : Nat) (l : List Val), canF n (sing l) = sing (canV n l)
  | 0, l => rfl
  | n + 1, l => by
    rw [canF, canV, sing_length]
    split
    · rfl
    · have e1 : (sing l).take (l.length / 2) = sing (l.take (l.length / 2)) := by simp [sing]
      have e2 : (sing l).drop (l.length / 2) = sing (l.drop (l.length / 2)) := by simp [sing]
      rw [e1, e2, canF_sing n, canF_sing n, merge_sing _ _ _ (Nat.le_refl _)]
theorem canV_perm : ∀ (n : Nat) (l : List Val), (canV n l).Perm l
  | 0, l => List.Perm.refl _
  | n + 1, l => by
    rw [canV]
    split
    · exact List.Perm.refl _
    · refine (List.merge_perm_append leM).trans ?_
      refine ((canV_perm n _).append (canV_perm n _)).trans ?_
      rw [List.take_append_drop]
theorem canV_sorted : ∀ (n : Nat) (l : List Val), l.length ≤ n + 1 → (canV n l).Pairwise fun a b => leM a b = true
  | 0, [], _ => List.Pairwise.nil
  | 0, [x], _ => by simp [canV]
  | 0, _ :: _ :: _, h => by simp at h
  | n + 1, l, h => by
    rw [canV]
    split
    · rename_i h2
      match l, h2 with
      | [], _ => exact List.Pairwise.nil
      | [x], _ => simp
      | _ :: _ :: _, h2 => simp at h2; omega
    · rename_i h2
      exact List.pairwise_merge leM_trans leM_total _ _ (canV_sorted n _ (by simp; omega)) (canV_sorted n _ (by simp; omega))
theorem canV_sort (l : List Val) : canV l.length l = sortV l :=
  List.Perm.eq_of_pairwise (fun a b _ _ h1 h2 => leM_anti a b h1 h2) (canV_sorted _ _ (by omega)) (sortV_sorted l) ((canV_perm _ _).trans (sortV_perm l).symm)
theorem can_sing (l : List Val) : canF (sing l).length (sing l) = sing (sortV l) := by rw [sing_length, canF_sing, canV_sort]

/-- How many different values stand one behind the other. -/
def dC : Val → List Val → Nat
  | _, [] => 0
  | x, y :: l => if sameM y x = true then dC x l else dC y l + 1
theorem sameM_iff (x y : Val) : sameM x y = true ↔ x = y := by
  rw [← cmpM_zero, beq_iff_eq, cmpM_eq]
theorem cntR_cons (r x : Row) (l : List Row) : cntR r (x :: l) = if cmpR x r = 0 then cntR r l + 1 else 0 := by
  unfold cntR
  rw [List.takeWhile_cons]
  by_cases h : cmpR x r = 0
  · rw [if_pos (by simpa using h), if_pos h]; simp
  · rw [if_neg (by simpa using h), if_neg h]; rfl
theorem grp_len : ∀ (l : List Val) (x : Val), (grpM (sing (x :: l))).length = dC x l + 1
  | [], x => by
    have : sing [x] = [[x]] := rfl
    rw [this, grpM_cons, cntR_cons, if_pos (cmpR_self _)]
    simp [cntR, grpM_nil, dC]
  | y :: l, x => by
    have e : ∀ (z : Val) (m : List Val), sing (z :: m) = [z] :: sing m := fun _ _ => rfl
    by_cases h : y = x
    · subst h
      rw [dC, if_pos ((sameM_iff y y).2 rfl), ← grp_len l y]
      rw [e, e, grpM_cons, cntR_cons, if_pos (cmpR_self _), List.drop_succ_cons, grpM_cons]
      rfl
    · rw [dC, if_neg (fun h2 => h ((sameM_iff y x).1 h2)), ← grp_len l y]
      have hc : cntR [x] (sing (y :: l)) = 0 := by
        rw [e, cntR_cons, cmpR_one, if_neg (fun h2 => h ((cmpM_eq y x).1 h2))]
      rw [e x, grpM_cons, cntR_cons, if_pos (cmpR_self _), hc]
      rfl
theorem ddTo_count (S : List Val) (n : Nat) : (ddTo S n).length = (List.range n).countP (keep S) := by
  rw [ddTo, List.length_map, List.countP_eq_length_filter]
theorem keep_tail (x y : Val) (l : List Val) (j : Nat) : keep (x :: y :: l) (j + 2) = keep (y :: l) (j + 1) := by
  simp [keep]
theorem dd_len : ∀ (l : List Val) (x : Val), (List.range (l.length + 1)).countP (keep (x :: l)) = dC x l + 1
  | [], x => rfl
  | y :: l, x => by
    have ih := dd_len l y
    rw [List.range_succ_eq_map, List.countP_cons, List.countP_map, if_pos (show keep (y :: l) 0 = true from rfl)] at ih
    have h1 : (List.range l.length).countP (keep (y :: l) ∘ Nat.succ) = dC y l := by omega
    rw [List.length_cons, List.range_succ_eq_map, List.countP_cons, List.countP_map, if_pos (show keep (x :: y :: l) 0 = true from rfl), List.range_succ_eq_map, List.countP_cons, List.countP_map]
    have h2 : (keep (x :: y :: l) ∘ Nat.succ) ∘ Nat.succ = keep (y :: l) ∘ Nat.succ := by
      funext j
      exact keep_tail x y l j
    have h3 : (keep (x :: y :: l) ∘ Nat.succ) 0 = !sameM y x := rfl
    rw [h2, h1, h3, dC]
    cases hs : sameM y x
    · simp
    · have := (sameM_iff y x).1 hs
      subst this
      simp
theorem dist_len (S : List Val) : (grpM (sing S)).length = (ddTo S S.length).length := by
  cases S with
  | nil => rfl
  | cons x l => rw [grp_len, ddTo_count, List.length_cons, dd_len]
end Go.Proofs.YtkccdfaelbepeaaDoor

namespace Go.Proofs.YtkccdfaelbepeaaDoor
open Go.Am
set_option linter.unusedVariables false
set_option maxRecDepth 100000
set_option maxHeartbeats 4000000

def aAgg (fn : Int) (e : Ex) : A := .agg [.d (.lit (.int .i64 fn)), .d (.lit (.int .i64 e.op)), .d (.lit (.int .i64 e.type)), .d (.lit (.int .i64 e.num)), .d (.lit (.string e.text)), .d (.lit (.int .i64 e.col)), .d (.sl 6 (rowsOf rE e.kids))]
/-- The values of an expression in rows, without null. -/
def valsM (e : Ex) (rows : List Row) : List Val := (rows.map fun r => evalM r e).filter fun v => v.kind != 0
theorem valsM_succ (e : Ex) (rows : List Row) (n : Nat) (h : n < rows.length) :
    valsM e (rows.take (n + 1)) = if (evalM (rows.getD n default) e).kind != 0 then valsM e (rows.take n) ++ [evalM (rows.getD n default) e] else valsM e (rows.take n) := by
  unfold valsM
  rw [take_snoc _ _ h, List.map_append, List.filter_append]
  generalize rows.getD n default = r
  cases hk : (evalM r e).kind != 0 <;> simp [hk]
theorem valsM_len (e : Ex) (rows : List Row) : (valsM e rows).length ≤ rows.length := by
  unfold valsM
  exact Nat.le_trans (List.length_filter_le _ _) (by simp)
def aggM (fn : Int) (e : Ex) (rows : List Row) : Val :=
  if fn = 1 then ⟨1, rows.length, ByteArray.empty⟩
  else if fn = 2 then ⟨1, (sortV (valsM e rows)).length, ByteArray.empty⟩
  else if fn = 3 then ⟨1, (ddTo (sortV (valsM e rows)) (sortV (valsM e rows)).length).length, ByteArray.empty⟩
  else if fn = 4 then sumS (sortV (valsM e rows))
  else if (sortV (valsM e rows)).length = 0 then nullV
  else if fn = 5 then (sortV (valsM e rows)).getD 0 default
  else if fn = 6 then (sortV (valsM e rows)).getD ((sortV (valsM e rows)).length - 1) default
  else nullV

theorem c_agg1 (n : Int) : ACall Tryd.prog 19 [num n] [] (aV ⟨1, n, ByteArray.empty⟩) [] := by
  refine ACall.enter mixed ttok Tryd.func19 rfl rfl _ Tryd.ntmps19 (Nat.le_of_ble_eq_true rfl) (by kernel_rfl) _ (congrArg Array.toList Tryd.results19) ?_
  generalize hr : aV ⟨1, n, ByteArray.empty⟩ = R
  simp -implicitDefEqProofs only [argT, ↓steps, push_cast, reduceIte, Nat.reduceEqDiff, Nat.reduceAdd, Nat.reduceMul, Nat.reduceLT, Nat.reduceLeDiff, Int.reduceToNat, Int.reduceLE, Int.reduceLT, reduceCtorEq, tte, num, boo, str, ints, aV, aTab, aInst, aS, aT, aC, aRow, rRow, vecV, aAgg]
  exact ret_v (by first | trivial | (simp; done) | (simp; omega)) (by rw [← hr] <;> first | rfl | (simp [nullV]; done) | (simp_all [nullV]; done)) (by simp only [ends, ite_true, ite_false, reduceIte, Nat.reduceEqDiff, Nat.reduceLeDiff, Nat.reduceLT, Nat.reduceAdd, reduceCtorEq, num, boo, str, ints, aV, aTab, aInst, aS, aT, aC, aRow, rRow, vecV, aAgg])

theorem c_aggregate (fn : Int) (e : Ex) (ho : Ok12 e) (rows : List Row) (hl : rows.length ≤ 1000) (hv : ∀ v ∈ valsM e rows, okV v) :
    ACall Tryd.prog 11 [aAgg fn e, aTab rows] [] (aV (aggM fn e rows)) [] := by
  refine ACall.enter mixed ttok Tryd.func11 rfl rfl _ Tryd.ntmps11 (Nat.le_of_ble_eq_true rfl) (by kernel_rfl) _ (congrArg Array.toList Tryd.results11) ?_
  generalize hr : aV (aggM fn e rows) = R
  simp -implicitDefEqProofs only [argT, ↓steps, push_cast, reduceIte, Nat.reduceEqDiff, Nat.reduceAdd, Nat.reduceMul, Nat.reduceLT, Nat.reduceLeDiff, Int.reduceToNat, Int.reduceLE, Int.reduceLT, reduceCtorEq, tte, num, boo, str, ints, aV, aTab, aInst, aS, aT, aC, aRow, rRow, vecV, aAgg]
  refine bcase_intro (fun h1 => ?_) fun h1 => ?_
  · refine callx_of [[0]] [] rfl (c_agg1 rows.length) (by first | (simp; done) | (simp [rowsOf_length]; done) | (simp [rowsOf_length]; omega)) (by first | (simp only [ends, ite_true, ite_false, reduceIte, Nat.reduceEqDiff, Nat.reduceLeDiff, Nat.reduceLT, Nat.reduceAdd, reduceCtorEq, num, boo, str, ints, aV, aTab, aInst, aS, aT, aC, aRow, rRow, vecV, aAgg, num, boo, str, aE_eq, aV]; done) | simp [ends, ite_true, ite_false, reduceIte, Nat.reduceEqDiff, Nat.reduceLeDiff, Nat.reduceLT, Nat.reduceAdd, reduceCtorEq, num, boo, str, ints, aV, aTab, aInst, aS, aT, aC, aRow, rRow, vecV, aAgg, num, boo, str, aE_eq, aV]) (by first | rfl | (simp only [ends, ite_true, ite_false, reduceIte, Nat.reduceEqDiff, Nat.reduceLeDiff, Nat.reduceLT, Nat.reduceAdd, reduceCtorEq, num, boo, str, ints, aV, aTab, aInst, aS, aT, aC, aRow, rRow, vecV, aAgg, num, boo, str, aE_eq, aV]; done) | simp [ends, ite_true, ite_false, reduceIte, Nat.reduceEqDiff, Nat.reduceLeDiff, Nat.reduceLT, Nat.reduceAdd, reduceCtorEq, num, boo, str, ints, aV, aTab, aInst, aS, aT, aC, aRow, rRow, vecV, aAgg, num, boo, str, aE_eq, aV]) (by simp only [ends, ite_true, ite_false, reduceIte, Nat.reduceEqDiff, Nat.reduceLeDiff, Nat.reduceLT, Nat.reduceAdd, reduceCtorEq, num, boo, str, ints, aV, aTab, aInst, aS, aT, aC, aRow, rRow, vecV, aAgg]) (by simp [idsOk, lookO, updO, ren1]) ?_
    simp -implicitDefEqProofs only [aV, ↓steps, push_cast, reduceIte, Nat.reduceEqDiff, Nat.reduceAdd, Nat.reduceMul, Nat.reduceLT, Nat.reduceLeDiff, Int.reduceToNat, Int.reduceLE, Int.reduceLT, reduceCtorEq, tte, num, boo, str, ints, aV, aTab, aInst, aS, aT, aC, aRow, rRow, vecV, aAgg]
    have hf : fn = 1 := by simpa using h1
    have hM : aggM fn e rows = ⟨1, rows.length, ByteArray.empty⟩ := if_pos hf
    rw [hM] at hr
    exact ret_v (by first | trivial | (simp; done) | (simp; omega)) (by rw [← hr] <;> first | rfl | (simp [nullV]; done) | (simp_all [nullV]; done)) (by simp only [ends, ite_true, ite_false, reduceIte, Nat.reduceEqDiff, Nat.reduceLeDiff, Nat.reduceLT, Nat.reduceAdd, reduceCtorEq, num, boo, str, ints, aV, aTab, aInst, aS, aT, aC, aRow, rRow, vecV, aAgg])
  have hf1 : ¬ fn = 1 := by simpa using h1
  refine loop_gen mixed ttok (fun n : Nat => (⟨[(19, .d (.lit (.int .i64 n))), (6, .vec 500 (valsM e (rows.take n)).length), (2, .ptr 2 0), (4, .ptr 4 0), (5, .clo 19 []), (17, aTab rows), (18, num rows.length)],
    [(500, vecV (valsM e (rows.take n))), (2, .var [.d (.lit (.int .i64 fn)), .d (.lit (.int .i64 e.op)), .d (.lit (.int .i64 e.type)), .d (.lit (.int .i64 e.num)), .d (.lit (.string e.text)), .d (.lit (.int .i64 e.col)), .d (.sl 6 (rowsOf rE e.kids))]),
     (4, .var [.d (.lit (.int .i64 0)), .d (.lit (.int .i64 0)), .d (.lit (.string ByteArray.empty))])]⟩ : SL)) (fun n => rows.length - n) (fun n => n ≤ rows.length) 0 (Nat.zero_le _) ?_ ?_
  · exact (Weak.nilL 6 500 42 3 rfl rfl).trans (Weak.keepL (by simp [valsM, ends, ite_true, ite_false, reduceIte, Nat.reduceEqDiff, Nat.reduceLeDiff, Nat.reduceLT, Nat.reduceAdd, reduceCtorEq, num, boo, str, ints, aV, aTab, aInst, aS, aT, aC, aRow, rRow, vecV, aAgg]) (by simp [valsM, ends, ite_true, ite_false, reduceIte, Nat.reduceEqDiff, Nat.reduceLeDiff, Nat.reduceLT, Nat.reduceAdd, reduceCtorEq, num, boo, str, ints, aV, aTab, aInst, aS, aT, aC, aRow, rRow, vecV, aAgg]) (by simp [ends, ite_true, ite_false, reduceIte, Nat.reduceEqDiff, Nat.reduceLeDiff, Nat.reduceLT, Nat.reduceAdd, reduceCtorEq, num, boo, str, ints, aV, aTab, aInst, aS, aT, aC, aRow, rRow, vecV, aAgg]))
  intro I hI n hn
  simp -implicitDefEqProofs only [↓steps, push_cast, reduceIte, Nat.reduceEqDiff, Nat.reduceAdd, Nat.reduceMul, Nat.reduceLT, Nat.reduceLeDiff, Int.reduceToNat, Int.reduceLE, Int.reduceLT, reduceCtorEq, tte, num, boo, str, ints, aV, aTab, aInst, aS, aT, aC, aRow, rRow, vecV, aAgg]
  refine bcase_intro (fun h => ?_) fun h => ?_
  · simp only [decide_eq_true_eq] at h
    have h' : n < rows.length := by omega
    have hw := wrap_succ h' (by omega)
    have hs := valsM_succ e rows n h'
    have hvl := valsM_len e (rows.take n)
    have hvl2 : (valsM e (rows.take n)).length ≤ 1000 := by simp at hvl; omega
    refine ⟨⟨by omega, h⟩, ?_⟩
    refine callx_of [[0, 0, 0, 0, 0, 6], [3]] [] rfl (c_eval (rows.getD n default) e ho) (by first | (simp; done) | (simp [rowsOf_length]; done) | (simp [rowsOf_length]; omega)) (by first | (simp only [ends, ite_true, ite_false, reduceIte, Nat.reduceEqDiff, Nat.reduceLeDiff, Nat.reduceLT, Nat.reduceAdd, reduceCtorEq, num, boo, str, ints, aV, aTab, aInst, aS, aT, aC, aRow, rRow, vecV, aAgg, num, boo, str, aE_eq, aV]; done) | simp [ends, ite_true, ite_false, reduceIte, Nat.reduceEqDiff, Nat.reduceLeDiff, Nat.reduceLT, Nat.reduceAdd, reduceCtorEq, num, boo, str, ints, aV, aTab, aInst, aS, aT, aC, aRow, rRow, vecV, aAgg, num, boo, str, aE_eq, aV]) (by first | rfl | (simp only [ends, ite_true, ite_false, reduceIte, Nat.reduceEqDiff, Nat.reduceLeDiff, Nat.reduceLT, Nat.reduceAdd, reduceCtorEq, num, boo, str, ints, aV, aTab, aInst, aS, aT, aC, aRow, rRow, vecV, aAgg, num, boo, str, aE_eq, aV]; done) | simp [ends, ite_true, ite_false, reduceIte, Nat.reduceEqDiff, Nat.reduceLeDiff, Nat.reduceLT, Nat.reduceAdd, reduceCtorEq, num, boo, str, ints, aV, aTab, aInst, aS, aT, aC, aRow, rRow, vecV, aAgg, num, boo, str, aE_eq, aV]) (by simp only [ends, ite_true, ite_false, reduceIte, Nat.reduceEqDiff, Nat.reduceLeDiff, Nat.reduceLT, Nat.reduceAdd, reduceCtorEq, num, boo, str, ints, aV, aTab, aInst, aS, aT, aC, aRow, rRow, vecV, aAgg]) (by simp [idsOk, lookO, updO, ren1]) ?_
    simp -implicitDefEqProofs only [aV, ↓steps, push_cast, reduceIte, Nat.reduceEqDiff, Nat.reduceAdd, Nat.reduceMul, Nat.reduceLT, Nat.reduceLeDiff, Int.reduceToNat, Int.reduceLE, Int.reduceLT, reduceCtorEq, tte, num, boo, str, ints, aV, aTab, aInst, aS, aT, aC, aRow, rRow, vecV, aAgg]
    refine bcase_intro (fun g => ?_) fun g => ?_
    · rw [g, if_pos rfl] at hs
      generalize evalM (rows.getD n default) e = v at hs g ⊢
      have hrows : rowsOf rV (valsM e (rows.take n)) ++ [[D.lit (.int .i64 v.kind), D.lit (.int .i64 v.num), D.lit (.string v.text)]] = rowsOf rV (valsM e (rows.take n) ++ [v]) := rowsV_snoc _ v.kind v.num v.text
      refine ⟨by omega, ?_⟩
      exact gen_again hI (n + 1) h' (by show rows.length - (n + 1) < rows.length - n; omega) (Weak.keepL (by simp [hw, hs, ends, ite_true, ite_false, reduceIte, Nat.reduceEqDiff, Nat.reduceLeDiff, Nat.reduceLT, Nat.reduceAdd, reduceCtorEq, num, boo, str, ints, aV, aTab, aInst, aS, aT, aC, aRow, rRow, vecV, aAgg]) (by simp only [hs, hrows, ends, ite_true, ite_false, reduceIte, Nat.reduceEqDiff, Nat.reduceLeDiff, Nat.reduceLT, Nat.reduceAdd, reduceCtorEq, num, boo, str, ints, aV, aTab, aInst, aS, aT, aC, aRow, rRow, vecV, aAgg]) (by simp [ends, ite_true, ite_false, reduceIte, Nat.reduceEqDiff, Nat.reduceLeDiff, Nat.reduceLT, Nat.reduceAdd, reduceCtorEq, num, boo, str, ints, aV, aTab, aInst, aS, aT, aC, aRow, rRow, vecV, aAgg]))
    · rw [g, if_neg (by decide)] at hs
      exact gen_again hI (n + 1) h' (by show rows.length - (n + 1) < rows.length - n; omega) (Weak.keepL (by simp only [hw, hs, ends, ite_true, ite_false, reduceIte, Nat.reduceEqDiff, Nat.reduceLeDiff, Nat.reduceLT, Nat.reduceAdd, reduceCtorEq, num, boo, str, ints, aV, aTab, aInst, aS, aT, aC, aRow, rRow, vecV, aAgg]) (by simp only [hs, ends, ite_true, ite_false, reduceIte, Nat.reduceEqDiff, Nat.reduceLeDiff, Nat.reduceLT, Nat.reduceAdd, reduceCtorEq, num, boo, str, ints, aV, aTab, aInst, aS, aT, aC, aRow, rRow, vecV, aAgg]) (by simp [ends, ite_true, ite_false, reduceIte, Nat.reduceEqDiff, Nat.reduceLeDiff, Nat.reduceLT, Nat.reduceAdd, reduceCtorEq, num, boo, str, ints, aV, aTab, aInst, aS, aT, aC, aRow, rRow, vecV, aAgg]))
  · simp only [decide_eq_false_iff_not] at h
    obtain rfl : n = rows.length := by omega
    rw [List.take_length]
    have hvl := valsM_len e rows
    unfold aggM at hr
    rw [if_neg hf1] at hr
    generalize valsM e rows = L at hr hvl hv ⊢
    refine callx_fn (fn_sort (o := 500) (e := 42) (vs := L) (by simp [lookO, vecV]) (by omega)) rfl ?_
    have hSl := sortV_length L
    have hSv : ∀ v ∈ sortV L, okV v := fun v h => hv v ((sortV_perm L).mem_iff.1 h)
    generalize sortV L = S at hr hSl hSv ⊢
    rw [← hSl]
    have hS1 : S.length ≤ 1000 := by omega
    simp -implicitDefEqProofs only [↓steps, push_cast, reduceIte, Nat.reduceEqDiff, Nat.reduceAdd, Nat.reduceMul, Nat.reduceLT, Nat.reduceLeDiff, Int.reduceToNat, Int.reduceLE, Int.reduceLT, reduceCtorEq, tte, num, boo, str, ints, aV, aTab, aInst, aS, aT, aC, aRow, rRow, vecV, aAgg]
    refine bcase_intro (fun h2 => ?_) fun h2 => ?_
    · rw [if_pos (by simpa using h2)] at hr
      refine callx_of [[0]] [] rfl (c_agg1 S.length) (by first | (simp; done) | (simp [rowsOf_length]; done) | (simp [rowsOf_length]; omega)) (by first | (simp only [ends, ite_true, ite_false, reduceIte, Nat.reduceEqDiff, Nat.reduceLeDiff, Nat.reduceLT, Nat.reduceAdd, reduceCtorEq, num, boo, str, ints, aV, aTab, aInst, aS, aT, aC, aRow, rRow, vecV, aAgg, num, boo, str, aE_eq, aV]; done) | simp [ends, ite_true, ite_false, reduceIte, Nat.reduceEqDiff, Nat.reduceLeDiff, Nat.reduceLT, Nat.reduceAdd, reduceCtorEq, num, boo, str, ints, aV, aTab, aInst, aS, aT, aC, aRow, rRow, vecV, aAgg, num, boo, str, aE_eq, aV]) (by first | rfl | (simp only [ends, ite_true, ite_false, reduceIte, Nat.reduceEqDiff, Nat.reduceLeDiff, Nat.reduceLT, Nat.reduceAdd, reduceCtorEq, num, boo, str, ints, aV, aTab, aInst, aS, aT, aC, aRow, rRow, vecV, aAgg, num, boo, str, aE_eq, aV]; done) | simp [ends, ite_true, ite_false, reduceIte, Nat.reduceEqDiff, Nat.reduceLeDiff, Nat.reduceLT, Nat.reduceAdd, reduceCtorEq, num, boo, str, ints, aV, aTab, aInst, aS, aT, aC, aRow, rRow, vecV, aAgg, num, boo, str, aE_eq, aV]) (by simp only [ends, ite_true, ite_false, reduceIte, Nat.reduceEqDiff, Nat.reduceLeDiff, Nat.reduceLT, Nat.reduceAdd, reduceCtorEq, num, boo, str, ints, aV, aTab, aInst, aS, aT, aC, aRow, rRow, vecV, aAgg]) (by simp [idsOk, lookO, updO, ren1]) ?_
      simp -implicitDefEqProofs only [aV, ↓steps, push_cast, reduceIte, Nat.reduceEqDiff, Nat.reduceAdd, Nat.reduceMul, Nat.reduceLT, Nat.reduceLeDiff, Int.reduceToNat, Int.reduceLE, Int.reduceLT, reduceCtorEq, tte, num, boo, str, ints, aV, aTab, aInst, aS, aT, aC, aRow, rRow, vecV, aAgg]
      exact ret_v (by first | trivial | (simp; done) | (simp; omega)) (by rw [← hr] <;> first | rfl | (simp [nullV]; done) | (simp_all [nullV]; done)) (by simp only [ends, ite_true, ite_false, reduceIte, Nat.reduceEqDiff, Nat.reduceLeDiff, Nat.reduceLT, Nat.reduceAdd, reduceCtorEq, num, boo, str, ints, aV, aTab, aInst, aS, aT, aC, aRow, rRow, vecV, aAgg])
    rw [if_neg (by simpa using h2)] at hr
    refine bcase_intro (fun h3 => ?_) fun h3 => ?_
    · rw [if_pos (by simpa using h3)] at hr
      refine callx_ofV [(1000, 500)] (view_sub (o := 500) (e := 42) (wd := 3) (fz := 0) (rows := rowsOf rV S) (by simp [lookO]) (rowsOf_length _ _).symm) (c_compact S (by omega)) (by simp [vecV, ends, ite_true, ite_false, reduceIte, Nat.reduceEqDiff, Nat.reduceLeDiff, Nat.reduceLT, Nat.reduceAdd, reduceCtorEq, num, boo, str, ints, aV, aTab, aInst, aS, aT, aC, aRow, rRow, vecV, aAgg, num, boo, str, aE_eq, aV]) (by simp [ends, ite_true, ite_false, reduceIte, Nat.reduceEqDiff, Nat.reduceLeDiff, Nat.reduceLT, Nat.reduceAdd, reduceCtorEq, num, boo, str, ints, aV, aTab, aInst, aS, aT, aC, aRow, rRow, vecV, aAgg, num, boo, str, aE_eq, aV]) (by simp [vecV, ends, ite_true, ite_false, reduceIte, Nat.reduceEqDiff, Nat.reduceLeDiff, Nat.reduceLT, Nat.reduceAdd, reduceCtorEq, num, boo, str, ints, aV, aTab, aInst, aS, aT, aC, aRow, rRow, vecV, aAgg]) (by simp [idsOk, lookO, updO, ren1]) ?_
      simp -implicitDefEqProofs only [↓steps, push_cast, reduceIte, Nat.reduceEqDiff, Nat.reduceAdd, Nat.reduceMul, Nat.reduceLT, Nat.reduceLeDiff, Int.reduceToNat, Int.reduceLE, Int.reduceLT, reduceCtorEq, tte, num, boo, str, ints, aV, aTab, aInst, aS, aT, aC, aRow, rRow, vecV, aAgg]
      have hcl : (cpM S).length = S.length := by simp only [cpM, List.length_append, List.length_replicate]; have := ddTo_len S S.length; omega
      refine ⟨hcl.symm, ?_⟩
      refine callx_of [[0]] [] rfl (c_agg1 (ddTo S S.length).length) (by first | (simp; done) | (simp [rowsOf_length]; done) | (simp [rowsOf_length]; omega)) (by first | (simp only [ends, ite_true, ite_false, reduceIte, Nat.reduceEqDiff, Nat.reduceLeDiff, Nat.reduceLT, Nat.reduceAdd, reduceCtorEq, num, boo, str, ints, aV, aTab, aInst, aS, aT, aC, aRow, rRow, vecV, aAgg, num, boo, str, aE_eq, aV]; done) | simp [ends, ite_true, ite_false, reduceIte, Nat.reduceEqDiff, Nat.reduceLeDiff, Nat.reduceLT, Nat.reduceAdd, reduceCtorEq, num, boo, str, ints, aV, aTab, aInst, aS, aT, aC, aRow, rRow, vecV, aAgg, num, boo, str, aE_eq, aV]) (by first | rfl | (simp only [ends, ite_true, ite_false, reduceIte, Nat.reduceEqDiff, Nat.reduceLeDiff, Nat.reduceLT, Nat.reduceAdd, reduceCtorEq, num, boo, str, ints, aV, aTab, aInst, aS, aT, aC, aRow, rRow, vecV, aAgg, num, boo, str, aE_eq, aV]; done) | simp [ends, ite_true, ite_false, reduceIte, Nat.reduceEqDiff, Nat.reduceLeDiff, Nat.reduceLT, Nat.reduceAdd, reduceCtorEq, num, boo, str, ints, aV, aTab, aInst, aS, aT, aC, aRow, rRow, vecV, aAgg, num, boo, str, aE_eq, aV]) (by simp only [ends, ite_true, ite_false, reduceIte, Nat.reduceEqDiff, Nat.reduceLeDiff, Nat.reduceLT, Nat.reduceAdd, reduceCtorEq, num, boo, str, ints, aV, aTab, aInst, aS, aT, aC, aRow, rRow, vecV, aAgg]) (by simp [idsOk, lookO, updO, ren1]) ?_
      simp -implicitDefEqProofs only [aV, ↓steps, push_cast, reduceIte, Nat.reduceEqDiff, Nat.reduceAdd, Nat.reduceMul, Nat.reduceLT, Nat.reduceLeDiff, Int.reduceToNat, Int.reduceLE, Int.reduceLT, reduceCtorEq, tte, num, boo, str, ints, aV, aTab, aInst, aS, aT, aC, aRow, rRow, vecV, aAgg]
      exact ret_v (by first | trivial | (simp; done) | (simp; omega)) (by rw [← hr] <;> first | rfl | (simp [nullV]; done) | (simp_all [nullV]; done)) (by simp only [ends, ite_true, ite_false, reduceIte, Nat.reduceEqDiff, Nat.reduceLeDiff, Nat.reduceLT, Nat.reduceAdd, reduceCtorEq, num, boo, str, ints, aV, aTab, aInst, aS, aT, aC, aRow, rRow, vecV, aAgg])
    rw [if_neg (by simpa using h3)] at hr
    refine bcase_intro (fun h4 => ?_) fun h4 => ?_
    · rw [if_pos (by simpa using h4)] at hr
      refine callx_ofV [(1000, 500)] (view_sub (o := 500) (e := 42) (wd := 3) (fz := 0) (rows := rowsOf rV S) (by simp [lookO]) (rowsOf_length _ _).symm) (c_sum S hS1 hSv) (by simp [vecV, ends, ite_true, ite_false, reduceIte, Nat.reduceEqDiff, Nat.reduceLeDiff, Nat.reduceLT, Nat.reduceAdd, reduceCtorEq, num, boo, str, ints, aV, aTab, aInst, aS, aT, aC, aRow, rRow, vecV, aAgg, num, boo, str, aE_eq, aV]) (by simp [ends, ite_true, ite_false, reduceIte, Nat.reduceEqDiff, Nat.reduceLeDiff, Nat.reduceLT, Nat.reduceAdd, reduceCtorEq, num, boo, str, ints, aV, aTab, aInst, aS, aT, aC, aRow, rRow, vecV, aAgg, num, boo, str, aE_eq, aV]) (by simp [vecV, ends, ite_true, ite_false, reduceIte, Nat.reduceEqDiff, Nat.reduceLeDiff, Nat.reduceLT, Nat.reduceAdd, reduceCtorEq, num, boo, str, ints, aV, aTab, aInst, aS, aT, aC, aRow, rRow, vecV, aAgg]) (by simp [idsOk, lookO, updO, ren1]) ?_
      simp -implicitDefEqProofs only [aV, ↓steps, push_cast, reduceIte, Nat.reduceEqDiff, Nat.reduceAdd, Nat.reduceMul, Nat.reduceLT, Nat.reduceLeDiff, Int.reduceToNat, Int.reduceLE, Int.reduceLT, reduceCtorEq, tte, num, boo, str, ints, aV, aTab, aInst, aS, aT, aC, aRow, rRow, vecV, aAgg]
      exact ret_v (by first | trivial | (simp; done) | (simp; omega)) (by rw [← hr] <;> first | rfl | (simp [nullV]; done) | (simp_all [nullV]; done)) (by simp only [ends, ite_true, ite_false, reduceIte, Nat.reduceEqDiff, Nat.reduceLeDiff, Nat.reduceLT, Nat.reduceAdd, reduceCtorEq, num, boo, str, ints, aV, aTab, aInst, aS, aT, aC, aRow, rRow, vecV, aAgg])
    rw [if_neg (by simpa using h4)] at hr
    refine bcase_intro (fun h5 => ?_) fun h5 => ?_
    · rw [if_pos (by simpa using h5)] at hr
      exact ret_v (by first | trivial | (simp; done) | (simp; omega)) (by rw [← hr] <;> first | rfl | (simp [nullV]; done) | (simp_all [nullV]; done)) (by simp only [ends, ite_true, ite_false, reduceIte, Nat.reduceEqDiff, Nat.reduceLeDiff, Nat.reduceLT, Nat.reduceAdd, reduceCtorEq, num, boo, str, ints, aV, aTab, aInst, aS, aT, aC, aRow, rRow, vecV, aAgg])
    have h5' : ¬ S.length = 0 := by simpa using h5
    rw [if_neg h5'] at hr
    refine bcase_intro (fun h6 => ?_) fun h6 => ?_
    · rw [if_pos (by simpa using h6)] at hr
      refine ⟨by omega, by omega, ?_⟩
      exact ret_v (by first | trivial | (simp; done) | (simp; omega)) (by rw [← hr] <;> first | rfl | (simp [nullV]; done) | (simp_all [nullV]; done)) (by simp only [ends, ite_true, ite_false, reduceIte, Nat.reduceEqDiff, Nat.reduceLeDiff, Nat.reduceLT, Nat.reduceAdd, reduceCtorEq, num, boo, str, ints, aV, aTab, aInst, aS, aT, aC, aRow, rRow, vecV, aAgg])
    rw [if_neg (by simpa using h6)] at hr
    have hwS : IntKind.i64.wrap ((S.length : Int) - 1) = ((S.length - 1 : Nat) : Int) := by rw [wrap_eq (by omega) (by omega)]; omega
    simp only [hwS]
    refine bcase_intro (fun h7 => ?_) fun h7 => ?_
    · rw [if_pos (by simpa using h7)] at hr
      simp only [Int.toNat_natCast]
      refine ⟨⟨by omega, by omega⟩, by omega, ?_⟩
      exact ret_v (by first | trivial | (simp; done) | (simp; omega)) (by rw [← hr] <;> first | rfl | (simp [nullV]; done) | (simp_all [nullV]; done)) (by simp only [ends, ite_true, ite_false, reduceIte, Nat.reduceEqDiff, Nat.reduceLeDiff, Nat.reduceLT, Nat.reduceAdd, reduceCtorEq, num, boo, str, ints, aV, aTab, aInst, aS, aT, aC, aRow, rRow, vecV, aAgg])
    · rw [if_neg (by simpa using h7)] at hr
      exact ret_v (by first | trivial | (simp; done) | (simp; omega)) (by rw [← hr] <;> first | rfl | (simp [nullV]; done) | (simp_all [nullV]; done)) (by simp only [ends, ite_true, ite_false, reduceIte, Nat.reduceEqDiff, Nat.reduceLeDiff, Nat.reduceLT, Nat.reduceAdd, reduceCtorEq, num, boo, str, ints, aV, aTab, aInst, aS, aT, aC, aRow, rRow, vecV, aAgg])

theorem c_raggregate (fn : Int) (e : Ex) (ho : Ok12 e) (rows : List Row) (hl : rows.length ≤ 1000) (hv : ∀ v ∈ valsM e rows, okV v) :
    ACall Tryd.prog 12 [aAgg fn e, aTab rows] [] (aV (aggM fn e rows)) [] := by
  refine ACall.enter mixed ttok Tryd.func12 rfl rfl _ Tryd.ntmps12 (Nat.le_of_ble_eq_true rfl) (by kernel_rfl) _ (congrArg Array.toList Tryd.results12) ?_
  generalize hr : aV (aggM fn e rows) = R
  simp -implicitDefEqProofs only [argT, ↓steps, push_cast, reduceIte, Nat.reduceEqDiff, Nat.reduceAdd, Nat.reduceMul, Nat.reduceLT, Nat.reduceLeDiff, Int.reduceToNat, Int.reduceLE, Int.reduceLT, reduceCtorEq, tte, num, boo, str, ints, aV, aTab, aInst, aS, aT, aC, aRow, rRow, vecV, aAgg]
  refine bcase_intro (fun h1 => ?_) fun h1 => ?_
  · have hf : fn = 1 := by simpa using h1
    have hM : aggM fn e rows = ⟨1, rows.length, ByteArray.empty⟩ := if_pos hf
    rw [hM] at hr
    exact ret_v (by first | trivial | (simp; done) | (simp; omega)) (by rw [← hr] <;> first | rfl | (simp [nullV]; done) | (simp_all [nullV]; done)) (by simp only [ends, ite_true, ite_false, reduceIte, Nat.reduceEqDiff, Nat.reduceLeDiff, Nat.reduceLT, Nat.reduceAdd, reduceCtorEq, num, boo, str, ints, aV, aTab, aInst, aS, aT, aC, aRow, rRow, vecV, aAgg])
  have hf1 : ¬ fn = 1 := by simpa using h1
  refine loop_gen mixed ttok (fun n : Nat => (⟨[(6, .d (.lit (.int .i64 n))), (5, .vec 500 (valsM e (rows.take n)).length), (2, .ptr 2 0), (4, .ptr 4 0), (1, aTab rows)],
    [(500, .vec 54 1 (rowsOf rRow (sing (valsM e (rows.take n)))) 0), (2, .var [.d (.lit (.int .i64 fn)), .d (.lit (.int .i64 e.op)), .d (.lit (.int .i64 e.type)), .d (.lit (.int .i64 e.num)), .d (.lit (.string e.text)), .d (.lit (.int .i64 e.col)), .d (.sl 6 (rowsOf rE e.kids))]),
     (4, .var [.d (.lit (.int .i64 0)), .d (.lit (.int .i64 0)), .d (.lit (.string ByteArray.empty))])]⟩ : SL)) (fun n => rows.length - n) (fun n => n ≤ rows.length) 0 (Nat.zero_le _) ?_ ?_
  · exact (Weak.nilL 5 500 54 1 rfl rfl).trans (Weak.keepL (by simp [valsM, ends, ite_true, ite_false, reduceIte, Nat.reduceEqDiff, Nat.reduceLeDiff, Nat.reduceLT, Nat.reduceAdd, reduceCtorEq, num, boo, str, ints, aV, aTab, aInst, aS, aT, aC, aRow, rRow, vecV, aAgg]) (by simp [valsM, sing, ends, ite_true, ite_false, reduceIte, Nat.reduceEqDiff, Nat.reduceLeDiff, Nat.reduceLT, Nat.reduceAdd, reduceCtorEq, num, boo, str, ints, aV, aTab, aInst, aS, aT, aC, aRow, rRow, vecV, aAgg]) (by simp [ends, ite_true, ite_false, reduceIte, Nat.reduceEqDiff, Nat.reduceLeDiff, Nat.reduceLT, Nat.reduceAdd, reduceCtorEq, num, boo, str, ints, aV, aTab, aInst, aS, aT, aC, aRow, rRow, vecV, aAgg]))
  intro I hI n hn
  simp -implicitDefEqProofs only [↓steps, push_cast, reduceIte, Nat.reduceEqDiff, Nat.reduceAdd, Nat.reduceMul, Nat.reduceLT, Nat.reduceLeDiff, Int.reduceToNat, Int.reduceLE, Int.reduceLT, reduceCtorEq, tte, num, boo, str, ints, aV, aTab, aInst, aS, aT, aC, aRow, rRow, vecV, aAgg]
  refine bcase_intro (fun h => ?_) fun h => ?_
  · simp only [decide_eq_true_eq] at h
    have h' : n < rows.length := by omega
    have hw := wrap_succ h' (by omega)
    have hs := valsM_succ e rows n h'
    have hvl := valsM_len e (rows.take n)
    have hvl2 : (valsM e (rows.take n)).length ≤ 1000 := by simp at hvl; omega
    refine ⟨⟨by omega, h⟩, ?_⟩
    refine callx_of [[0, 0, 0, 0, 0, 6], [3]] [] rfl (c_reval (rows.getD n default) e ho) (by first | (simp; done) | (simp [rowsOf_length]; done) | (simp [rowsOf_length]; omega)) (by first | (simp only [ends, ite_true, ite_false, reduceIte, Nat.reduceEqDiff, Nat.reduceLeDiff, Nat.reduceLT, Nat.reduceAdd, reduceCtorEq, num, boo, str, ints, aV, aTab, aInst, aS, aT, aC, aRow, rRow, vecV, aAgg, num, boo, str, aE_eq, aV]; done) | simp [ends, ite_true, ite_false, reduceIte, Nat.reduceEqDiff, Nat.reduceLeDiff, Nat.reduceLT, Nat.reduceAdd, reduceCtorEq, num, boo, str, ints, aV, aTab, aInst, aS, aT, aC, aRow, rRow, vecV, aAgg, num, boo, str, aE_eq, aV]) (by first | rfl | (simp only [ends, ite_true, ite_false, reduceIte, Nat.reduceEqDiff, Nat.reduceLeDiff, Nat.reduceLT, Nat.reduceAdd, reduceCtorEq, num, boo, str, ints, aV, aTab, aInst, aS, aT, aC, aRow, rRow, vecV, aAgg, num, boo, str, aE_eq, aV]; done) | simp [ends, ite_true, ite_false, reduceIte, Nat.reduceEqDiff, Nat.reduceLeDiff, Nat.reduceLT, Nat.reduceAdd, reduceCtorEq, num, boo, str, ints, aV, aTab, aInst, aS, aT, aC, aRow, rRow, vecV, aAgg, num, boo, str, aE_eq, aV]) (by simp only [ends, ite_true, ite_false, reduceIte, Nat.reduceEqDiff, Nat.reduceLeDiff, Nat.reduceLT, Nat.reduceAdd, reduceCtorEq, num, boo, str, ints, aV, aTab, aInst, aS, aT, aC, aRow, rRow, vecV, aAgg]) (by simp [idsOk, lookO, updO, ren1]) ?_
    simp -implicitDefEqProofs only [aV, ↓steps, push_cast, reduceIte, Nat.reduceEqDiff, Nat.reduceAdd, Nat.reduceMul, Nat.reduceLT, Nat.reduceLeDiff, Int.reduceToNat, Int.reduceLE, Int.reduceLT, reduceCtorEq, tte, num, boo, str, ints, aV, aTab, aInst, aS, aT, aC, aRow, rRow, vecV, aAgg]
    refine ⟨drawx_intro (by kernel_rfl), ?_⟩
    refine bcase_intro (fun g => ?_) fun g => ?_
    · rw [g, if_pos rfl] at hs
      generalize evalM (rows.getD n default) e = v at hs g ⊢
      have hrows : rowsOf rRow (sing (valsM e (rows.take n))) ++ [[D.sl 3 [[D.lit (.int .i64 v.kind), D.lit (.int .i64 v.num), D.lit (.string v.text)]]]] = rowsOf rRow (sing (valsM e (rows.take n) ++ [v])) := by
        have : sing (valsM e (rows.take n) ++ [v]) = sing (valsM e (rows.take n)) ++ [[v]] := by simp [sing]
        rw [this, ← rowsOf_append]; rfl
      refine ⟨⟨(sing_length _).symm, by rw [sing_length]; omega⟩, ?_⟩
      exact gen_again hI (n + 1) h' (by show rows.length - (n + 1) < rows.length - n; omega) (Weak.keepL (by simp [hw, hs, sing_length, ends, ite_true, ite_false, reduceIte, Nat.reduceEqDiff, Nat.reduceLeDiff, Nat.reduceLT, Nat.reduceAdd, reduceCtorEq, num, boo, str, ints, aV, aTab, aInst, aS, aT, aC, aRow, rRow, vecV, aAgg]) (by simp only [hs, hrows, ends, ite_true, ite_false, reduceIte, Nat.reduceEqDiff, Nat.reduceLeDiff, Nat.reduceLT, Nat.reduceAdd, reduceCtorEq, num, boo, str, ints, aV, aTab, aInst, aS, aT, aC, aRow, rRow, vecV, aAgg]) (by simp [ends, ite_true, ite_false, reduceIte, Nat.reduceEqDiff, Nat.reduceLeDiff, Nat.reduceLT, Nat.reduceAdd, reduceCtorEq, num, boo, str, ints, aV, aTab, aInst, aS, aT, aC, aRow, rRow, vecV, aAgg]))
    · rw [g, if_neg (by decide)] at hs
      exact gen_again hI (n + 1) h' (by show rows.length - (n + 1) < rows.length - n; omega) (Weak.keepL (by simp only [hw, hs, ends, ite_true, ite_false, reduceIte, Nat.reduceEqDiff, Nat.reduceLeDiff, Nat.reduceLT, Nat.reduceAdd, reduceCtorEq, num, boo, str, ints, aV, aTab, aInst, aS, aT, aC, aRow, rRow, vecV, aAgg]) (by simp only [hs, ends, ite_true, ite_false, reduceIte, Nat.reduceEqDiff, Nat.reduceLeDiff, Nat.reduceLT, Nat.reduceAdd, reduceCtorEq, num, boo, str, ints, aV, aTab, aInst, aS, aT, aC, aRow, rRow, vecV, aAgg]) (by simp [ends, ite_true, ite_false, reduceIte, Nat.reduceEqDiff, Nat.reduceLeDiff, Nat.reduceLT, Nat.reduceAdd, reduceCtorEq, num, boo, str, ints, aV, aTab, aInst, aS, aT, aC, aRow, rRow, vecV, aAgg]))
  · simp only [decide_eq_false_iff_not] at h
    obtain rfl : n = rows.length := by omega
    rw [List.take_length]
    have hvl := valsM_len e rows
    unfold aggM at hr
    rw [if_neg hf1] at hr
    generalize valsM e rows = L at hr hvl hv ⊢
    have hcan := c_canon (sing L).length (sing L) (by omega) (by rw [sing_length]; omega) (sing_small L)
    rw [can_sing] at hcan
    refine callx_of [[1]] [] rfl (hcan) (by first | (simp; done) | (simp [rowsOf_length]; done) | (simp [rowsOf_length]; omega)) (by first | (simp only [ends, ite_true, ite_false, reduceIte, Nat.reduceEqDiff, Nat.reduceLeDiff, Nat.reduceLT, Nat.reduceAdd, reduceCtorEq, num, boo, str, ints, aV, aTab, aInst, aS, aT, aC, aRow, rRow, vecV, aAgg, num, boo, str, aE_eq, aV]; done) | simp [ends, ite_true, ite_false, reduceIte, Nat.reduceEqDiff, Nat.reduceLeDiff, Nat.reduceLT, Nat.reduceAdd, reduceCtorEq, num, boo, str, ints, aV, aTab, aInst, aS, aT, aC, aRow, rRow, vecV, aAgg, num, boo, str, aE_eq, aV]) (by first | rfl | (simp only [ends, ite_true, ite_false, reduceIte, Nat.reduceEqDiff, Nat.reduceLeDiff, Nat.reduceLT, Nat.reduceAdd, reduceCtorEq, num, boo, str, ints, aV, aTab, aInst, aS, aT, aC, aRow, rRow, vecV, aAgg, num, boo, str, aE_eq, aV]; done) | simp [ends, ite_true, ite_false, reduceIte, Nat.reduceEqDiff, Nat.reduceLeDiff, Nat.reduceLT, Nat.reduceAdd, reduceCtorEq, num, boo, str, ints, aV, aTab, aInst, aS, aT, aC, aRow, rRow, vecV, aAgg, num, boo, str, aE_eq, aV]) (by simp only [ends, ite_true, ite_false, reduceIte, Nat.reduceEqDiff, Nat.reduceLeDiff, Nat.reduceLT, Nat.reduceAdd, reduceCtorEq, num, boo, str, ints, aV, aTab, aInst, aS, aT, aC, aRow, rRow, vecV, aAgg]) (by simp [idsOk, lookO, updO, ren1]) ?_
    have hSl := sortV_length L
    have hSv : ∀ v ∈ sortV L, okV v := fun v h => hv v ((sortV_perm L).mem_iff.1 h)
    have hso := sortV_sorted L
    generalize sortV L = S at hr hSl hSv hso ⊢
    have hS1 : S.length ≤ 1000 := by omega
    simp -implicitDefEqProofs only [sing_length, ↓steps, push_cast, reduceIte, Nat.reduceEqDiff, Nat.reduceAdd, Nat.reduceMul, Nat.reduceLT, Nat.reduceLeDiff, Int.reduceToNat, Int.reduceLE, Int.reduceLT, reduceCtorEq, tte, num, boo, str, ints, aV, aTab, aInst, aS, aT, aC, aRow, rRow, vecV, aAgg]
    refine bcase_intro (fun h2 => ?_) fun h2 => ?_
    · rw [if_pos (by simpa using h2)] at hr
      exact ret_v (by first | trivial | (simp; done) | (simp; omega)) (by rw [← hr] <;> first | rfl | (simp [nullV]; done) | (simp_all [nullV]; done)) (by simp only [ends, ite_true, ite_false, reduceIte, Nat.reduceEqDiff, Nat.reduceLeDiff, Nat.reduceLT, Nat.reduceAdd, reduceCtorEq, num, boo, str, ints, aV, aTab, aInst, aS, aT, aC, aRow, rRow, vecV, aAgg])
    rw [if_neg (by simpa using h2)] at hr
    refine bcase_intro (fun h3 => ?_) fun h3 => ?_
    · rw [if_pos (by simpa using h3)] at hr
      refine callx_of [[1]] [] rfl (c_distinct (sing S) (by rw [sing_length]; exact hS1) (sing_small S)) (by first | (simp; done) | (simp [rowsOf_length]; done) | (simp [rowsOf_length]; omega)) (by first | (simp only [ends, ite_true, ite_false, reduceIte, Nat.reduceEqDiff, Nat.reduceLeDiff, Nat.reduceLT, Nat.reduceAdd, reduceCtorEq, num, boo, str, ints, aV, aTab, aInst, aS, aT, aC, aRow, rRow, vecV, aAgg, num, boo, str, aE_eq, aV]; done) | simp [ends, ite_true, ite_false, reduceIte, Nat.reduceEqDiff, Nat.reduceLeDiff, Nat.reduceLT, Nat.reduceAdd, reduceCtorEq, num, boo, str, ints, aV, aTab, aInst, aS, aT, aC, aRow, rRow, vecV, aAgg, num, boo, str, aE_eq, aV]) (by first | rfl | (simp only [ends, ite_true, ite_false, reduceIte, Nat.reduceEqDiff, Nat.reduceLeDiff, Nat.reduceLT, Nat.reduceAdd, reduceCtorEq, num, boo, str, ints, aV, aTab, aInst, aS, aT, aC, aRow, rRow, vecV, aAgg, num, boo, str, aE_eq, aV]; done) | simp [ends, ite_true, ite_false, reduceIte, Nat.reduceEqDiff, Nat.reduceLeDiff, Nat.reduceLT, Nat.reduceAdd, reduceCtorEq, num, boo, str, ints, aV, aTab, aInst, aS, aT, aC, aRow, rRow, vecV, aAgg, num, boo, str, aE_eq, aV]) (by simp only [ends, ite_true, ite_false, reduceIte, Nat.reduceEqDiff, Nat.reduceLeDiff, Nat.reduceLT, Nat.reduceAdd, reduceCtorEq, num, boo, str, ints, aV, aTab, aInst, aS, aT, aC, aRow, rRow, vecV, aAgg]) (by simp [idsOk, lookO, updO, ren1]) ?_
      simp -implicitDefEqProofs only [↓steps, push_cast, reduceIte, Nat.reduceEqDiff, Nat.reduceAdd, Nat.reduceMul, Nat.reduceLT, Nat.reduceLeDiff, Int.reduceToNat, Int.reduceLE, Int.reduceLT, reduceCtorEq, tte, num, boo, str, ints, aV, aTab, aInst, aS, aT, aC, aRow, rRow, vecV, aAgg]
      have hdl : (distM (sing S)).length = (ddTo S S.length).length := by
        rw [← dist_len, distM, List.length_map, sing_length, canF_sing, canV_sort, sortV_eq, List.mergeSort_of_pairwise hso]
      exact ret_v (by first | trivial | (simp; done) | (simp; omega)) (by rw [← hr] <;> first | rfl | (simp [hdl]; done) | (simp_all [hdl]; done)) (by simp only [ends, ite_true, ite_false, reduceIte, Nat.reduceEqDiff, Nat.reduceLeDiff, Nat.reduceLT, Nat.reduceAdd, reduceCtorEq, num, boo, str, ints, aV, aTab, aInst, aS, aT, aC, aRow, rRow, vecV, aAgg])
    rw [if_neg (by simpa using h3)] at hr
    refine bcase_intro (fun h4 => ?_) fun h4 => ?_
    · rw [if_pos (by simpa using h4)] at hr
      refine callx_of [[1]] [] rfl (c_rsum S hS1 hSv) (by first | (simp; done) | (simp [rowsOf_length]; done) | (simp [rowsOf_length]; omega)) (by first | (simp only [ends, ite_true, ite_false, reduceIte, Nat.reduceEqDiff, Nat.reduceLeDiff, Nat.reduceLT, Nat.reduceAdd, reduceCtorEq, num, boo, str, ints, aV, aTab, aInst, aS, aT, aC, aRow, rRow, vecV, aAgg, num, boo, str, aE_eq, aV]; done) | simp [ends, ite_true, ite_false, reduceIte, Nat.reduceEqDiff, Nat.reduceLeDiff, Nat.reduceLT, Nat.reduceAdd, reduceCtorEq, num, boo, str, ints, aV, aTab, aInst, aS, aT, aC, aRow, rRow, vecV, aAgg, num, boo, str, aE_eq, aV]) (by first | rfl | (simp only [ends, ite_true, ite_false, reduceIte, Nat.reduceEqDiff, Nat.reduceLeDiff, Nat.reduceLT, Nat.reduceAdd, reduceCtorEq, num, boo, str, ints, aV, aTab, aInst, aS, aT, aC, aRow, rRow, vecV, aAgg, num, boo, str, aE_eq, aV]; done) | simp [ends, ite_true, ite_false, reduceIte, Nat.reduceEqDiff, Nat.reduceLeDiff, Nat.reduceLT, Nat.reduceAdd, reduceCtorEq, num, boo, str, ints, aV, aTab, aInst, aS, aT, aC, aRow, rRow, vecV, aAgg, num, boo, str, aE_eq, aV]) (by simp only [ends, ite_true, ite_false, reduceIte, Nat.reduceEqDiff, Nat.reduceLeDiff, Nat.reduceLT, Nat.reduceAdd, reduceCtorEq, num, boo, str, ints, aV, aTab, aInst, aS, aT, aC, aRow, rRow, vecV, aAgg]) (by simp [idsOk, lookO, updO, ren1]) ?_
      simp -implicitDefEqProofs only [aV, ↓steps, push_cast, reduceIte, Nat.reduceEqDiff, Nat.reduceAdd, Nat.reduceMul, Nat.reduceLT, Nat.reduceLeDiff, Int.reduceToNat, Int.reduceLE, Int.reduceLT, reduceCtorEq, tte, num, boo, str, ints, aV, aTab, aInst, aS, aT, aC, aRow, rRow, vecV, aAgg]
      exact ret_v (by first | trivial | (simp; done) | (simp; omega)) (by rw [← hr] <;> first | rfl | (simp [nullV]; done) | (simp_all [nullV]; done)) (by simp only [ends, ite_true, ite_false, reduceIte, Nat.reduceEqDiff, Nat.reduceLeDiff, Nat.reduceLT, Nat.reduceAdd, reduceCtorEq, num, boo, str, ints, aV, aTab, aInst, aS, aT, aC, aRow, rRow, vecV, aAgg])
    rw [if_neg (by simpa using h4)] at hr
    have hwS : 0 < S.length → IntKind.i64.wrap ((S.length : Int) - 1) = ((S.length - 1 : Nat) : Int) := fun h => by rw [wrap_eq (by omega) (by omega)]; omega
    by_cases h0 : S.length = 0
    · rw [if_pos h0] at hr
      refine bcase_intro (fun h6 => ?_) fun h6 => ?_
      · refine bcase_intro (fun h => absurd h (by simp only [gt_iff_lt, decide_eq_true_eq]; omega)) fun _ => ?_
        exact ret_v (by first | trivial | (simp; done) | (simp; omega)) (by rw [← hr] <;> first | rfl | (simp [nullV]; done) | (simp_all [nullV]; done)) (by simp only [ends, ite_true, ite_false, reduceIte, Nat.reduceEqDiff, Nat.reduceLeDiff, Nat.reduceLT, Nat.reduceAdd, reduceCtorEq, num, boo, str, ints, aV, aTab, aInst, aS, aT, aC, aRow, rRow, vecV, aAgg])
      refine bcase_intro (fun h7 => ?_) fun h7 => ?_
      · refine bcase_intro (fun h => absurd h (by simp only [gt_iff_lt, decide_eq_true_eq]; omega)) fun _ => ?_
        exact ret_v (by first | trivial | (simp; done) | (simp; omega)) (by rw [← hr] <;> first | rfl | (simp [nullV]; done) | (simp_all [nullV]; done)) (by simp only [ends, ite_true, ite_false, reduceIte, Nat.reduceEqDiff, Nat.reduceLeDiff, Nat.reduceLT, Nat.reduceAdd, reduceCtorEq, num, boo, str, ints, aV, aTab, aInst, aS, aT, aC, aRow, rRow, vecV, aAgg])
      · exact ret_v (by first | trivial | (simp; done) | (simp; omega)) (by rw [← hr] <;> first | rfl | (simp [nullV]; done) | (simp_all [nullV]; done)) (by simp only [ends, ite_true, ite_false, reduceIte, Nat.reduceEqDiff, Nat.reduceLeDiff, Nat.reduceLT, Nat.reduceAdd, reduceCtorEq, num, boo, str, ints, aV, aTab, aInst, aS, aT, aC, aRow, rRow, vecV, aAgg])
    rw [if_neg h0] at hr
    have h0' : 0 < S.length := by omega
    refine bcase_intro (fun h6 => ?_) fun h6 => ?_
    · rw [if_pos (by simpa using h6)] at hr
      refine bcase_intro (fun _ => ?_) fun h => absurd h (by simp only [gt_iff_lt, decide_eq_false_iff_not]; omega)
      simp only [sing_get S h0', List.getD_cons_zero]
      refine ⟨by omega, by simp, ?_⟩
      exact ret_v (by first | trivial | (simp; done) | (simp; omega)) (by rw [← hr] <;> first | rfl | (simp [nullV]; done) | (simp_all [nullV]; done)) (by simp only [ends, ite_true, ite_false, reduceIte, Nat.reduceEqDiff, Nat.reduceLeDiff, Nat.reduceLT, Nat.reduceAdd, reduceCtorEq, num, boo, str, ints, aV, aTab, aInst, aS, aT, aC, aRow, rRow, vecV, aAgg])
    rw [if_neg (by simpa using h6)] at hr
    refine bcase_intro (fun h7 => ?_) fun h7 => ?_
    · rw [if_pos (by simpa using h7)] at hr
      refine bcase_intro (fun _ => ?_) fun h => absurd h (by simp only [gt_iff_lt, decide_eq_false_iff_not]; omega)
      simp only [hwS h0', Int.toNat_natCast, sing_get S (show S.length - 1 < S.length by omega), List.getD_cons_zero]
      refine ⟨⟨by omega, by omega⟩, by simp, ?_⟩
      exact ret_v (by first | trivial | (simp; done) | (simp; omega)) (by rw [← hr] <;> first | rfl | (simp [nullV]; done) | (simp_all [nullV]; done)) (by simp only [ends, ite_true, ite_false, reduceIte, Nat.reduceEqDiff, Nat.reduceLeDiff, Nat.reduceLT, Nat.reduceAdd, reduceCtorEq, num, boo, str, ints, aV, aTab, aInst, aS, aT, aC, aRow, rRow, vecV, aAgg])
    rw [if_neg (by simpa using h7)] at hr
    exact ret_v (by first | trivial | (simp; done) | (simp; omega)) (by rw [← hr] <;> first | rfl | (simp [nullV]; done) | (simp_all [nullV]; done)) (by simp only [ends, ite_true, ite_false, reduceIte, Nat.reduceEqDiff, Nat.reduceLeDiff, Nat.reduceLT, Nat.reduceAdd, reduceCtorEq, num, boo, str, ints, aV, aTab, aInst, aS, aT, aC, aRow, rRow, vecV, aAgg])
end Go.Proofs.YtkccdfaelbepeaaDoor

namespace Go.Proofs.YtkccdfaelbepeaaDoor
open Go.Am
set_option linter.unusedVariables false
set_option maxRecDepth 100000
set_option maxHeartbeats 4000000

/-- Numbers and texts of an expression as a machine has them. -/
inductive OkX : Ex → Prop
  | mk (e : Ex) (h : i64 e.num) (ht : e.text.size ≤ 9223372036854775807) (hk : ∀ k ∈ e.kids, OkX k) : OkX e
theorem OkX.num {e : Ex} (h : OkX e) : i64 e.num := by cases h; assumption
theorem OkX.text {e : Ex} (h : OkX e) : e.text.size ≤ 9223372036854775807 := by cases h; assumption
theorem OkX.kid {e k : Ex} (h : OkX e) (hk : k ∈ e.kids) : OkX k := by cases h with | mk _ _ _ h2 => exact h2 k hk

theorem i64_0 : i64 0 := ⟨by decide, by decide⟩
theorem i64_1 : i64 1 := ⟨by decide, by decide⟩
theorem empty_le : ByteArray.empty.size ≤ 9223372036854775807 := Nat.zero_le _
theorem okV_null : okV nullV := ⟨i64_0, empty_le⟩
theorem okV_of (b : Bool) : okV (ofV b) := by
  cases b
  · exact ⟨i64_0, empty_le⟩
  · exact ⟨i64_1, empty_le⟩
theorem okV_getD {l : List Val} (h : ∀ v ∈ l, okV v) (n : Nat) : okV (l.getD n default) := by
  by_cases hn : n < l.length
  · exact h _ (getD_mem hn)
  · rw [List.getD_eq_getElem?_getD, List.getElem?_eq_none (by omega)]
    exact ⟨i64_0, empty_le⟩
theorem okV_int {n : Int} (h : i64 n) : okV ⟨1, n, ByteArray.empty⟩ := ⟨h, empty_le⟩
theorem okV_validI (n : Int) : okV (validV ⟨1, n, ByteArray.empty⟩) := by
  unfold validV
  split
  · rename_i h
    have := valid_num h rfl
    unfold okN at this
    simp only at this
    exact okV_int ⟨by omega, by omega⟩
  · exact okV_null
theorem okV_validT (s : ByteArray) : okV (validV ⟨3, 0, s⟩) := by
  unfold validV
  split
  · rename_i h
    have := valid_text h rfl
    exact ⟨i64_0, by simp only at this ⊢; omega⟩
  · exact okV_null
theorem okV_arith (op : Int) (a b : Val) : okV (arithM op a b) := by
  unfold arithM
  split
  · exact okV_null
  split
  · split
    · exact okV_validI _
    · exact okV_null
  split
  · exact okV_validT _
  · exact okV_null
theorem okV_equal (a b : Val) : okV (equalM a b) := by unfold equalM; split <;> first | exact okV_null | exact okV_of _
theorem okV_less (a b : Val) : okV (lessM a b) := by unfold lessM; split <;> first | exact okV_null | exact okV_of _
theorem okV_not (a : Val) : okV (notM a) := by unfold notM; split <;> first | exact okV_null | exact okV_of _
theorem okV_and (a b : Val) : okV (andM a b) := by unfold andM; split <;> (try split) <;> first | exact okV_null | exact okV_of _
theorem okV_or (a b : Val) : okV (orM a b) := by unfold orM; split <;> (try split) <;> first | exact okV_null | exact okV_of _
theorem okV_in (v : Val) : ∀ (l : List Val) (out : Val), okV out → okV (inM v out l)
  | [], _, h => h
  | x :: l, out, _ => okV_in v l _ (okV_or _ _)
theorem okV_ite {c : Prop} [Decidable c] {a b : Val} (ha : okV a) (hb : okV b) : okV (if c then a else b) := by
  split
  · exact ha
  · exact hb
theorem okV_apply (op : Int) (l : List Val) (h : ∀ v ∈ l, okV v) : okV (applyM op l) := by
  have h0 := okV_getD h 0
  have h1 := okV_getD h 1
  unfold applyM
  refine okV_ite (okV_arith _ _ _) (okV_ite (okV_arith _ _ _) (okV_ite (okV_ite (okV_int ⟨by omega, ?_⟩) okV_null) ?_))
  · have := h0.2
    omega
  refine okV_ite (okV_equal _ _) (okV_ite (okV_not _) (okV_ite (okV_less _ _) (okV_ite (okV_not _) (okV_ite (okV_less _ _) (okV_ite (okV_not _) (okV_ite (okV_of _) (okV_ite (okV_of _) (okV_ite (okV_and _ _) (okV_ite (okV_or _ _) ?_)))))))))
  exact okV_ite (okV_not _) (okV_ite (okV_of _) (okV_ite (okV_ite h1 h0) (okV_ite (okV_in _ _ _ (okV_of _)) okV_null)))
theorem okV_eval (row : List Val) (hrow : ∀ v ∈ row, okV v) : ∀ e : Ex, OkX e → okV (evalM row e) :=
  ex_ind (p := fun e => OkX e → okV (evalM row e)) fun e ih ho => by
    have hk : ∀ v ∈ e.kids.map (evalM row), okV v := fun v hv => by
      obtain ⟨k, hk, rfl⟩ := List.mem_map.1 hv
      exact ih k hk (ho.kid hk)
    rw [evalM_eq]
    unfold evalK
    split
    · exact okV_null
    split
    · exact okV_int ho.num
    split
    · exact ⟨ho.num, empty_le⟩
    split
    · exact ⟨i64_0, ho.text⟩
    split
    · split
      · exact okV_getD hrow _
      · exact okV_null
    split
    · split
      · exact okV_getD hk _
      · exact okV_getD hk _
    · exact okV_apply _ _ hk
theorem okV_vals (e : Ex) (rows : List Row) (he : OkX e) (hr : ∀ r ∈ rows, ∀ v ∈ r, okV v) : ∀ v ∈ valsM e rows, okV v := by
  intro v hv
  have := (List.mem_filter.1 hv).1
  obtain ⟨r, h1, rfl⟩ := List.mem_map.1 this
  exact okV_eval r (hr r h1) e he

def colE (n : Int) : Ex := .mk 5 0 0 ByteArray.empty n []
theorem colE_12 (n : Int) : Ok12 (colE n) := ⟨_, Nat.zero_le _, fun k hk => by cases hk⟩
theorem colE_x (n : Int) : OkX (colE n) := ⟨_, i64_0, empty_le, fun k hk => by cases hk⟩

theorem c_lawA (fn : Int) (e : Ex) (rows : List Row) (n : Int) (he : OkX e) (hr1 : ∀ r ∈ rows, ∀ v ∈ r, okV v) :
    ACall Tryd.prog 4 [aAgg fn e, aTab rows, num n] [] (boo true) [] := by
  refine ACall.enter mixed ttok Tryd.func4 rfl rfl _ Tryd.ntmps4 (Nat.le_of_ble_eq_true rfl) (by kernel_rfl) _ (congrArg Array.toList Tryd.results4) ?_
  generalize hr : boo true = R
  simp -implicitDefEqProofs only [argT, ↓steps, push_cast, reduceIte, Nat.reduceEqDiff, Nat.reduceAdd, Nat.reduceMul, Nat.reduceLT, Nat.reduceLeDiff, Int.reduceToNat, Int.reduceLE, Int.reduceLT, reduceCtorEq, tte, num, boo, str, ints, aV, aTab, aInst, aS, aT, aC, aRow, rRow, aAgg]
  refine callx_of [[1]] [] rfl (c_few07 rows) (by first | (simp; done) | (simp [rowsOf_length]; done) | (simp [rowsOf_length]; omega)) (by first | (simp only [ends, ite_true, ite_false, reduceIte, Nat.reduceEqDiff, Nat.reduceLeDiff, Nat.reduceLT, Nat.reduceAdd, reduceCtorEq, num, boo, str, ints, aV, aTab, aInst, aS, aT, aC, aRow, rRow, aAgg, num, boo, str, aE_eq, aV]; done) | simp [ends, ite_true, ite_false, reduceIte, Nat.reduceEqDiff, Nat.reduceLeDiff, Nat.reduceLT, Nat.reduceAdd, reduceCtorEq, num, boo, str, ints, aV, aTab, aInst, aS, aT, aC, aRow, rRow, aAgg, num, boo, str, aE_eq, aV]) (by first | rfl | (simp only [ends, ite_true, ite_false, reduceIte, Nat.reduceEqDiff, Nat.reduceLeDiff, Nat.reduceLT, Nat.reduceAdd, reduceCtorEq, num, boo, str, ints, aV, aTab, aInst, aS, aT, aC, aRow, rRow, aAgg, num, boo, str, aE_eq, aV]; done) | simp [ends, ite_true, ite_false, reduceIte, Nat.reduceEqDiff, Nat.reduceLeDiff, Nat.reduceLT, Nat.reduceAdd, reduceCtorEq, num, boo, str, ints, aV, aTab, aInst, aS, aT, aC, aRow, rRow, aAgg, num, boo, str, aE_eq, aV]) (by simp only [ends, ite_true, ite_false, reduceIte, Nat.reduceEqDiff, Nat.reduceLeDiff, Nat.reduceLT, Nat.reduceAdd, reduceCtorEq, num, boo, str, ints, aV, aTab, aInst, aS, aT, aC, aRow, rRow, aAgg]) (by simp [idsOk, lookO, updO, ren1]) ?_
  simp -implicitDefEqProofs only [↓steps, push_cast, reduceIte, Nat.reduceEqDiff, Nat.reduceAdd, Nat.reduceMul, Nat.reduceLT, Nat.reduceLeDiff, Int.reduceToNat, Int.reduceLE, Int.reduceLT, reduceCtorEq, tte, num, boo, str, ints, aV, aTab, aInst, aS, aT, aC, aRow, rRow, aAgg]
  refine bcase_intro (fun h1 => ?_) fun h1 => ?_
  · exact ret_d trivial (by rw [← hr]; rfl) (by simp only [ends, ite_true, ite_false, reduceIte, Nat.reduceEqDiff, Nat.reduceLeDiff, Nat.reduceLT, Nat.reduceAdd, reduceCtorEq, num, boo, str, ints, aV, aTab, aInst, aS, aT, aC, aRow, rRow, aAgg])
  refine callx_of [[0, 0, 0, 0, 0, 6]] [] rfl (c_few02t e) (by first | (simp; done) | (simp [rowsOf_length]; done) | (simp [rowsOf_length]; omega)) (by first | (simp only [ends, ite_true, ite_false, reduceIte, Nat.reduceEqDiff, Nat.reduceLeDiff, Nat.reduceLT, Nat.reduceAdd, reduceCtorEq, num, boo, str, ints, aV, aTab, aInst, aS, aT, aC, aRow, rRow, aAgg, num, boo, str, aE_eq, aV]; done) | simp [ends, ite_true, ite_false, reduceIte, Nat.reduceEqDiff, Nat.reduceLeDiff, Nat.reduceLT, Nat.reduceAdd, reduceCtorEq, num, boo, str, ints, aV, aTab, aInst, aS, aT, aC, aRow, rRow, aAgg, num, boo, str, aE_eq, aV]) (by first | rfl | (simp only [ends, ite_true, ite_false, reduceIte, Nat.reduceEqDiff, Nat.reduceLeDiff, Nat.reduceLT, Nat.reduceAdd, reduceCtorEq, num, boo, str, ints, aV, aTab, aInst, aS, aT, aC, aRow, rRow, aAgg, num, boo, str, aE_eq, aV]; done) | simp [ends, ite_true, ite_false, reduceIte, Nat.reduceEqDiff, Nat.reduceLeDiff, Nat.reduceLT, Nat.reduceAdd, reduceCtorEq, num, boo, str, ints, aV, aTab, aInst, aS, aT, aC, aRow, rRow, aAgg, num, boo, str, aE_eq, aV]) (by simp only [ends, ite_true, ite_false, reduceIte, Nat.reduceEqDiff, Nat.reduceLeDiff, Nat.reduceLT, Nat.reduceAdd, reduceCtorEq, num, boo, str, ints, aV, aTab, aInst, aS, aT, aC, aRow, rRow, aAgg]) (by simp [idsOk, lookO, updO, ren1]) ?_
  simp -implicitDefEqProofs only [↓steps, push_cast, reduceIte, Nat.reduceEqDiff, Nat.reduceAdd, Nat.reduceMul, Nat.reduceLT, Nat.reduceLeDiff, Int.reduceToNat, Int.reduceLE, Int.reduceLT, reduceCtorEq, tte, num, boo, str, ints, aV, aTab, aInst, aS, aT, aC, aRow, rRow, aAgg]
  refine bcase_intro (fun h2 => ?_) fun h2 => ?_
  · exact ret_d trivial (by rw [← hr]; rfl) (by simp only [ends, ite_true, ite_false, reduceIte, Nat.reduceEqDiff, Nat.reduceLeDiff, Nat.reduceLT, Nat.reduceAdd, reduceCtorEq, num, boo, str, ints, aV, aTab, aInst, aS, aT, aC, aRow, rRow, aAgg])
  have h1' : few07 rows = true := by simpa using h1
  have h2' : fewE e = true := by simpa using h2
  have ho : Ok12 e := by
    simp only [fewE, Bool.and_eq_true] at h2'
    exact few_ok e 0 h2'.1
  have hl : rows.length ≤ 1000 := by
    simp only [few07, Bool.and_eq_true, decide_eq_true_eq] at h1'
    omega
  refine loop_gen mixed ttok (fun k : Nat => (⟨[(7, .d (.lit (.int .i64 k))), (1, aTab rows), (2, num n), (3, .ptr 3 0)], [(3, .var [.d (.lit (.int .i64 fn)), .d (.lit (.int .i64 e.op)), .d (.lit (.int .i64 e.type)), .d (.lit (.int .i64 e.num)), .d (.lit (.string e.text)), .d (.lit (.int .i64 e.col)), .d (.sl 6 (rowsOf rE e.kids))])]⟩ : SL)) (fun k => 7 - k) (fun k => k ≤ 7) 1 (by decide) ?_ ?_
  · exact Weak.keepL (by simp [ends, ite_true, ite_false, reduceIte, Nat.reduceEqDiff, Nat.reduceLeDiff, Nat.reduceLT, Nat.reduceAdd, reduceCtorEq, num, boo, str, ints, aV, aTab, aInst, aS, aT, aC, aRow, rRow, aAgg]) (by simp [ends, ite_true, ite_false, reduceIte, Nat.reduceEqDiff, Nat.reduceLeDiff, Nat.reduceLT, Nat.reduceAdd, reduceCtorEq, num, boo, str, ints, aV, aTab, aInst, aS, aT, aC, aRow, rRow, aAgg]) (by simp [ends, ite_true, ite_false, reduceIte, Nat.reduceEqDiff, Nat.reduceLeDiff, Nat.reduceLT, Nat.reduceAdd, reduceCtorEq, num, boo, str, ints, aV, aTab, aInst, aS, aT, aC, aRow, rRow, aAgg])
  intro I hI k hk
  simp -implicitDefEqProofs only [↓steps, push_cast, reduceIte, Nat.reduceEqDiff, Nat.reduceAdd, Nat.reduceMul, Nat.reduceLT, Nat.reduceLeDiff, Int.reduceToNat, Int.reduceLE, Int.reduceLT, reduceCtorEq, tte, num, boo, str, ints, aV, aTab, aInst, aS, aT, aC, aRow, rRow, aAgg]
  refine bcase_intro (fun h => ?_) fun h => ?_
  · simp only [decide_eq_true_eq] at h
    have h' : k < 7 := by omega
    have hw := wrap_succ h' (by decide)
    have hA : ACall Tryd.prog 11 [.agg [num k, num 5, num 0, num 0, str ByteArray.empty, num n, .d (.sl 6 [])], aTab rows] [] (aV (aggM k (colE n) rows)) [] :=
      c_aggregate k (colE n) (colE_12 n) rows hl (okV_vals _ rows (colE_x n) hr1)
    have hB : ACall Tryd.prog 12 [.agg [num k, num 5, num 0, num 0, str ByteArray.empty, num n, .d (.sl 6 [])], aTab rows] [] (aV (aggM k (colE n) rows)) [] :=
      c_raggregate k (colE n) (colE_12 n) rows hl (okV_vals _ rows (colE_x n) hr1)
    generalize aggM k (colE n) rows = v at hA hB
    refine callx_of [[0, 0, 0, 0, 0, 0, 6], [1]] [] rfl (hA) (by first | (simp; done) | (simp [rowsOf_length]; done) | (simp [rowsOf_length]; omega)) (by first | (simp only [ends, ite_true, ite_false, reduceIte, Nat.reduceEqDiff, Nat.reduceLeDiff, Nat.reduceLT, Nat.reduceAdd, reduceCtorEq, num, boo, str, ints, aV, aTab, aInst, aS, aT, aC, aRow, rRow, aAgg, num, boo, str, aE_eq, aV]; done) | simp [ends, ite_true, ite_false, reduceIte, Nat.reduceEqDiff, Nat.reduceLeDiff, Nat.reduceLT, Nat.reduceAdd, reduceCtorEq, num, boo, str, ints, aV, aTab, aInst, aS, aT, aC, aRow, rRow, aAgg, num, boo, str, aE_eq, aV]) (by first | rfl | (simp only [ends, ite_true, ite_false, reduceIte, Nat.reduceEqDiff, Nat.reduceLeDiff, Nat.reduceLT, Nat.reduceAdd, reduceCtorEq, num, boo, str, ints, aV, aTab, aInst, aS, aT, aC, aRow, rRow, aAgg, num, boo, str, aE_eq, aV]; done) | simp [ends, ite_true, ite_false, reduceIte, Nat.reduceEqDiff, Nat.reduceLeDiff, Nat.reduceLT, Nat.reduceAdd, reduceCtorEq, num, boo, str, ints, aV, aTab, aInst, aS, aT, aC, aRow, rRow, aAgg, num, boo, str, aE_eq, aV]) (by simp only [ends, ite_true, ite_false, reduceIte, Nat.reduceEqDiff, Nat.reduceLeDiff, Nat.reduceLT, Nat.reduceAdd, reduceCtorEq, num, boo, str, ints, aV, aTab, aInst, aS, aT, aC, aRow, rRow, aAgg]) (by simp [idsOk, lookO, updO, ren1]) ?_
    simp -implicitDefEqProofs only [aV, ↓steps, push_cast, reduceIte, Nat.reduceEqDiff, Nat.reduceAdd, Nat.reduceMul, Nat.reduceLT, Nat.reduceLeDiff, Int.reduceToNat, Int.reduceLE, Int.reduceLT, reduceCtorEq, tte, num, boo, str, ints, aV, aTab, aInst, aS, aT, aC, aRow, rRow, aAgg]
    refine callx_of [[0, 0, 0, 0, 0, 0, 6], [1]] [] rfl (hB) (by first | (simp; done) | (simp [rowsOf_length]; done) | (simp [rowsOf_length]; omega)) (by first | (simp only [ends, ite_true, ite_false, reduceIte, Nat.reduceEqDiff, Nat.reduceLeDiff, Nat.reduceLT, Nat.reduceAdd, reduceCtorEq, num, boo, str, ints, aV, aTab, aInst, aS, aT, aC, aRow, rRow, aAgg, num, boo, str, aE_eq, aV]; done) | simp [ends, ite_true, ite_false, reduceIte, Nat.reduceEqDiff, Nat.reduceLeDiff, Nat.reduceLT, Nat.reduceAdd, reduceCtorEq, num, boo, str, ints, aV, aTab, aInst, aS, aT, aC, aRow, rRow, aAgg, num, boo, str, aE_eq, aV]) (by first | rfl | (simp only [ends, ite_true, ite_false, reduceIte, Nat.reduceEqDiff, Nat.reduceLeDiff, Nat.reduceLT, Nat.reduceAdd, reduceCtorEq, num, boo, str, ints, aV, aTab, aInst, aS, aT, aC, aRow, rRow, aAgg, num, boo, str, aE_eq, aV]; done) | simp [ends, ite_true, ite_false, reduceIte, Nat.reduceEqDiff, Nat.reduceLeDiff, Nat.reduceLT, Nat.reduceAdd, reduceCtorEq, num, boo, str, ints, aV, aTab, aInst, aS, aT, aC, aRow, rRow, aAgg, num, boo, str, aE_eq, aV]) (by simp only [ends, ite_true, ite_false, reduceIte, Nat.reduceEqDiff, Nat.reduceLeDiff, Nat.reduceLT, Nat.reduceAdd, reduceCtorEq, num, boo, str, ints, aV, aTab, aInst, aS, aT, aC, aRow, rRow, aAgg]) (by simp [idsOk, lookO, updO, ren1]) ?_
    simp -implicitDefEqProofs only [aV, ↓steps, push_cast, reduceIte, Nat.reduceEqDiff, Nat.reduceAdd, Nat.reduceMul, Nat.reduceLT, Nat.reduceLeDiff, Int.reduceToNat, Int.reduceLE, Int.reduceLT, reduceCtorEq, tte, num, boo, str, ints, aV, aTab, aInst, aS, aT, aC, aRow, rRow, aAgg]
    refine ⟨drawx_intro (by kernel_rfl), ?_⟩
    exact gen_again hI (k + 1) h' (by show 7 - (k + 1) < 7 - k; omega) (Weak.keepL (by simp [hw, ends, ite_true, ite_false, reduceIte, Nat.reduceEqDiff, Nat.reduceLeDiff, Nat.reduceLT, Nat.reduceAdd, reduceCtorEq, num, boo, str, ints, aV, aTab, aInst, aS, aT, aC, aRow, rRow, aAgg]) (by simp [ends, ite_true, ite_false, reduceIte, Nat.reduceEqDiff, Nat.reduceLeDiff, Nat.reduceLT, Nat.reduceAdd, reduceCtorEq, num, boo, str, ints, aV, aTab, aInst, aS, aT, aC, aRow, rRow, aAgg]) (by simp [ends, ite_true, ite_false, reduceIte, Nat.reduceEqDiff, Nat.reduceLeDiff, Nat.reduceLT, Nat.reduceAdd, reduceCtorEq, num, boo, str, ints, aV, aTab, aInst, aS, aT, aC, aRow, rRow, aAgg]))
  · have hA := c_aggregate fn e ho rows hl (okV_vals _ rows he hr1)
    have hB := c_raggregate fn e ho rows hl (okV_vals _ rows he hr1)
    generalize aggM fn e rows = v at hA hB
    refine callx_of [[0, 0, 0, 0, 0, 0, 6], [1]] [] rfl (hA) (by first | (simp; done) | (simp [rowsOf_length]; done) | (simp [rowsOf_length]; omega)) (by first | (simp only [ends, ite_true, ite_false, reduceIte, Nat.reduceEqDiff, Nat.reduceLeDiff, Nat.reduceLT, Nat.reduceAdd, reduceCtorEq, num, boo, str, ints, aV, aTab, aInst, aS, aT, aC, aRow, rRow, aAgg, num, boo, str, aE_eq, aV]; done) | simp [ends, ite_true, ite_false, reduceIte, Nat.reduceEqDiff, Nat.reduceLeDiff, Nat.reduceLT, Nat.reduceAdd, reduceCtorEq, num, boo, str, ints, aV, aTab, aInst, aS, aT, aC, aRow, rRow, aAgg, num, boo, str, aE_eq, aV]) (by first | rfl | (simp only [ends, ite_true, ite_false, reduceIte, Nat.reduceEqDiff, Nat.reduceLeDiff, Nat.reduceLT, Nat.reduceAdd, reduceCtorEq, num, boo, str, ints, aV, aTab, aInst, aS, aT, aC, aRow, rRow, aAgg, num, boo, str, aE_eq, aV]; done) | simp [ends, ite_true, ite_false, reduceIte, Nat.reduceEqDiff, Nat.reduceLeDiff, Nat.reduceLT, Nat.reduceAdd, reduceCtorEq, num, boo, str, ints, aV, aTab, aInst, aS, aT, aC, aRow, rRow, aAgg, num, boo, str, aE_eq, aV]) (by simp only [ends, ite_true, ite_false, reduceIte, Nat.reduceEqDiff, Nat.reduceLeDiff, Nat.reduceLT, Nat.reduceAdd, reduceCtorEq, num, boo, str, ints, aV, aTab, aInst, aS, aT, aC, aRow, rRow, aAgg]) (by simp [idsOk, lookO, updO, ren1]) ?_
    simp -implicitDefEqProofs only [aV, ↓steps, push_cast, reduceIte, Nat.reduceEqDiff, Nat.reduceAdd, Nat.reduceMul, Nat.reduceLT, Nat.reduceLeDiff, Int.reduceToNat, Int.reduceLE, Int.reduceLT, reduceCtorEq, tte, num, boo, str, ints, aV, aTab, aInst, aS, aT, aC, aRow, rRow, aAgg]
    refine callx_of [[0, 0, 0, 0, 0, 0, 6], [1]] [] rfl (hB) (by first | (simp; done) | (simp [rowsOf_length]; done) | (simp [rowsOf_length]; omega)) (by first | (simp only [ends, ite_true, ite_false, reduceIte, Nat.reduceEqDiff, Nat.reduceLeDiff, Nat.reduceLT, Nat.reduceAdd, reduceCtorEq, num, boo, str, ints, aV, aTab, aInst, aS, aT, aC, aRow, rRow, aAgg, num, boo, str, aE_eq, aV]; done) | simp [ends, ite_true, ite_false, reduceIte, Nat.reduceEqDiff, Nat.reduceLeDiff, Nat.reduceLT, Nat.reduceAdd, reduceCtorEq, num, boo, str, ints, aV, aTab, aInst, aS, aT, aC, aRow, rRow, aAgg, num, boo, str, aE_eq, aV]) (by first | rfl | (simp only [ends, ite_true, ite_false, reduceIte, Nat.reduceEqDiff, Nat.reduceLeDiff, Nat.reduceLT, Nat.reduceAdd, reduceCtorEq, num, boo, str, ints, aV, aTab, aInst, aS, aT, aC, aRow, rRow, aAgg, num, boo, str, aE_eq, aV]; done) | simp [ends, ite_true, ite_false, reduceIte, Nat.reduceEqDiff, Nat.reduceLeDiff, Nat.reduceLT, Nat.reduceAdd, reduceCtorEq, num, boo, str, ints, aV, aTab, aInst, aS, aT, aC, aRow, rRow, aAgg, num, boo, str, aE_eq, aV]) (by simp only [ends, ite_true, ite_false, reduceIte, Nat.reduceEqDiff, Nat.reduceLeDiff, Nat.reduceLT, Nat.reduceAdd, reduceCtorEq, num, boo, str, ints, aV, aTab, aInst, aS, aT, aC, aRow, rRow, aAgg]) (by simp [idsOk, lookO, updO, ren1]) ?_
    simp -implicitDefEqProofs only [aV, ↓steps, push_cast, reduceIte, Nat.reduceEqDiff, Nat.reduceAdd, Nat.reduceMul, Nat.reduceLT, Nat.reduceLeDiff, Int.reduceToNat, Int.reduceLE, Int.reduceLT, reduceCtorEq, tte, num, boo, str, ints, aV, aTab, aInst, aS, aT, aC, aRow, rRow, aAgg]
    refine ⟨drawx_intro (by kernel_rfl), ?_⟩
    exact ret_d trivial (by rw [← hr]; rfl) (by simp only [ends, ite_true, ite_false, reduceIte, Nat.reduceEqDiff, Nat.reduceLeDiff, Nat.reduceLT, Nat.reduceAdd, reduceCtorEq, num, boo, str, ints, aV, aTab, aInst, aS, aT, aC, aRow, rRow, aAgg])
end Go.Proofs.YtkccdfaelbepeaaDoor

namespace Go.Proofs.YtkccdfaelbepeaaDoor
open Go.Am
set_option linter.unusedVariables false
set_option maxRecDepth 100000

theorem i64_of {x : Int} (h : (Lit.int .i64 x).wf = true) : i64 x := by
  have : -9223372036854775808 ≤ x ∧ x ≤ 9223372036854775807 := by simpa [Lit.wf, IntKind.min, IntKind.max, IntKind.signed, IntKind.bits] using h
  unfold i64
  omega
def aggOk (P : Program) (t : TypeId) : Bool := match P.underlying t with
  | some (.struct fs) => fs.toList.map (fun f => (f.type, f.offset)) == [(3, 0), (35, 1)]
  | _ => false
theorem sAgg : aggOk Tryd.prog 37 = true := by kernel_rfl
theorem c7a : Tryd.prog.cellsOf 37 = 7 := by kernel_rfl

section
variable {H : Type} {enc : TypeId × Value → H} {w : World} {base : Nat} {spare : Nat → Bool} {held : Bool} {fuel : Nat} {cs : List Value} {x : DataW H × List MemPlace}
theorem rd_strX {R : Rd} {P : Program} {t : TypeId} (ht : P.underlying t = some .string) (h : DataW.trod enc P w base spare held fuel t cs = some x) : ∃ s : ByteArray, s.size ≤ 9223372036854775807 ∧ crep R [.lit (.string s)] cs := by
  obtain ⟨s, rfl, _, hs⟩ := DataW.trod_string ht h
  exact ⟨s, hs, by simp [crep, D.rep, Go.Am.one]⟩
theorem rd_valX (h : DataW.trod enc Tryd.prog w base spare held fuel 42 cs = some x) : ∃ v : {v : Val // okV v}, crep (E0 w).R (rV v.1) cs := by
  obtain ⟨n, _, hl, hf⟩ := rd_structT _ sVal h
  obtain ⟨c0, y0, e0, h0⟩ := hf 0 _ rfl
  obtain ⟨c1, y1, e1, h1⟩ := hf 1 _ rfl
  obtain ⟨c2, y2, e2, h2⟩ := hf 2 _ rfl
  obtain ⟨a, _, r0⟩ := rd_int (R := (E0 w).R) ui64 h0
  obtain ⟨b, wb, r1⟩ := rd_int (R := (E0 w).R) uint64 h1
  obtain ⟨s, ws, r2⟩ := rd_strX (R := (E0 w).R) ustr h2
  exact ⟨⟨⟨a, b, s⟩, i64_of wb, ws⟩, crep_3 hl e0 e1 e2 r0 r1 r2⟩
theorem rd_rowX (h : DataW.trod enc Tryd.prog w base spare held fuel 54 cs = some x) : ∃ l : {r : Row // ∀ v ∈ r, okV v}, crep (E0 w).R (rRow l.1) cs := by
  obtain ⟨l, hl⟩ := rd_slice (fun v : {v : Val // okV v} => rV v.1) uVals c3v (by decide) h fun n cs' y _ hy => rd_valX hy
  refine ⟨⟨l.map (·.1), fun v hv => ?_⟩, ?_⟩
  · obtain ⟨u, _, rfl⟩ := List.mem_map.1 hv
    exact u.2
  · have : rowsOf rV (l.map (·.1)) = rowsOf (fun v : {v : Val // okV v} => rV v.1) l := by simp [rowsOf]
    show crep (E0 w).R [.sl 3 (rowsOf rV (l.map (·.1)))] cs
    rw [this]; exact hl
theorem rd_tabX (h : DataW.trod enc Tryd.prog w base spare held fuel 38 cs = some x) : ∃ l : List Row, (∀ r ∈ l, ∀ v ∈ r, okV v) ∧ crep (E0 w).R [.sl 1 (rowsOf rRow l)] cs := by
  obtain ⟨l, hl⟩ := rd_slice (fun v : {r : Row // ∀ v ∈ r, okV v} => rRow v.1) uRows c1vs (by decide) h fun n cs' y _ hy => rd_rowX hy
  refine ⟨l.map (·.1), fun v hv => ?_, ?_⟩
  · obtain ⟨u, _, rfl⟩ := List.mem_map.1 hv
    exact u.2
  · have : rowsOf rRow (l.map (·.1)) = rowsOf (fun v : {r : Row // ∀ v ∈ r, okV v} => rRow v.1) l := by simp [rowsOf]
    rw [this]; exact hl
theorem rd_exX : ∀ (fuel : Nat) (cs : List Value) (x : DataW H × List MemPlace), DataW.trod enc Tryd.prog w base spare held fuel 35 cs = some x → ∃ e : {e : Ex // OkX e}, crep (E0 w).R (rE e.1) cs := by
  intro fuel
  induction fuel using Nat.strongRecOn with
  | ind fuel ih =>
    intro cs x h
    obtain ⟨n, hn, hl, hf⟩ := rd_structT _ sEx h
    obtain ⟨c0, y0, e0, h0⟩ := hf 0 _ rfl
    obtain ⟨c1, y1, e1, h1⟩ := hf 1 _ rfl
    obtain ⟨c2, y2, e2, h2⟩ := hf 2 _ rfl
    obtain ⟨c3, y3, e3, h3⟩ := hf 3 _ rfl
    obtain ⟨c4, y4, e4, h4⟩ := hf 4 _ rfl
    obtain ⟨c5, y5, e5, h5⟩ := hf 5 _ rfl
    obtain ⟨a0, _, r0⟩ := rd_int (R := (E0 w).R) ui64 h0
    obtain ⟨a1, _, r1⟩ := rd_int (R := (E0 w).R) ui64 h1
    obtain ⟨a2, wa, r2⟩ := rd_int (R := (E0 w).R) uint64 h2
    obtain ⟨a3, ws, r3⟩ := rd_strX (R := (E0 w).R) ustr h3
    obtain ⟨a4, _, r4⟩ := rd_int (R := (E0 w).R) ui64 h4
    obtain ⟨ks, r5⟩ := rd_slice (fun v : {e : Ex // OkX e} => rE v.1) uExs c6e (by decide) h5 fun m cs' y hm hy => ih m (by omega) cs' y hy
    have hk : rowsOf (fun v : {e : Ex // OkX e} => rE v.1) ks = rowsOf rE (ks.map (·.1)) := by simp [rowsOf]
    rw [hk] at r5
    have hx : rE (.mk a0 a1 a2 a3 a4 (ks.map (·.1))) = [.lit (.int .i64 a0), .lit (.int .i64 a1), .lit (.int .i64 a2), .lit (.string a3), .lit (.int .i64 a4), .sl 6 (rowsOf rE (ks.map (·.1)))] := by rw [rE_eq]; rfl
    refine ⟨⟨.mk a0 a1 a2 a3 a4 (ks.map (·.1)), ⟨_, i64_of wa, ws, fun k hk2 => ?_⟩⟩, by rw [hx]; exact crep_6 hl e0 e1 e2 e3 e4 e5 r0 r1 r2 r3 r4 r5⟩
    obtain ⟨u, _, rfl⟩ := List.mem_map.1 (show k ∈ ks.map (·.1) from hk2)
    exact u.2
theorem rd_agg (h : DataW.trod enc Tryd.prog w base spare held fuel 37 cs = some x) : ∃ (fn : Int) (e : Ex), OkX e ∧ crep (E0 w).R (.lit (.int .i64 fn) :: rE e) cs := by
  have hs := sAgg
  unfold aggOk at hs
  split at hs
  · rename_i fs hu
    obtain ⟨xs, n, hn, hx, hl, hxl, hf⟩ := DataW.trod_struct hu h
    rw [c7a] at hl
    have hs' : fs.toList.map (fun f => (f.type, f.offset)) = [(3, 0), (35, 1)] := by simpa using hs
    obtain ⟨fl⟩ := fs
    simp only at hs'
    match fl, hs', hf, hxl with
    | [f0, f1], hs', hf, hxl =>
      simp only [List.map_cons, List.map_nil, List.cons.injEq, Prod.mk.injEq, and_true] at hs'
      obtain ⟨⟨t0, o0⟩, t1, o1⟩ := hs'
      have g0 := hf 0 f0 rfl
      have g1 := hf 1 f1 rfl
      rw [t0, o0, c1i, List.drop_zero] at g0
      rw [t1, o1, c6e] at g1
      match xs, hxl with
      | [y0, y1], _ =>
        simp only [List.getElem?_cons_zero, List.getElem?_cons_succ] at g0 g1
        obtain ⟨a, _, r0⟩ := rd_int (R := (E0 w).R) ui64 g0
        obtain ⟨⟨e, he⟩, r1⟩ := rd_exX _ _ _ g1
        match cs, hl with
        | c :: rest, hl =>
          simp only [List.length_cons] at hl
          rw [List.drop_succ_cons, List.drop_zero, List.take_of_length_le (by omega)] at r1
          rw [List.take_succ_cons, List.take_zero] at r0
          exact ⟨a, e, he, r0.1, r1⟩
  · cases hs
end
end Go.Proofs.YtkccdfaelbepeaaDoor

namespace Go.Proofs.YtkccdfaelbepeaaDoor
open Go.Am
set_option linter.unusedVariables false
set_option maxRecDepth 100000

theorem gNull : Tryd.prog.globalNamed "querylab/value.null" = some 1 := by kernel_rfl
theorem tNull : (Tryd.prog.globals[1]?).map (·.type) = some 42 := by kernel_rfl
def nullRow : List D := [.lit (.int .i64 0), .lit (.int .i64 0), .lit (.string ⟨#[]⟩)]
theorem null_of {R : Rd} {w : World} {base : Nat} {spare : Nat → Bool} {held : Bool} {fuel : Nat} {cs : List Value} {p : List MemPlace} (h : DataW.trod (fun _ => ()) Tryd.prog w base spare held fuel 42 cs = some (Rows.laid_querylab_value_null, p)) : crep R nullRow cs := by
  obtain ⟨n, xs, hx, hxl, hl, hf⟩ := rd_structX _ sVal h
  obtain ⟨c0, e0, h0⟩ := hf 0 _ rfl
  obtain ⟨c1, e1, h1⟩ := hf 1 _ rfl
  obtain ⟨c2, e2, h2⟩ := hf 2 _ rfl
  match xs, hxl with
  | [y0, y1, y2], _ =>
    simp only [Rows.laid_querylab_value_null, List.map_cons, List.map_nil, DataW.agg.injEq, List.cons.injEq, and_true] at hx
    obtain ⟨q0, q1, q2⟩ := hx
    obtain ⟨m0, g0, k0, _⟩ := DataW.trod_int ui64 (show _ = some y0 from h0)
    obtain ⟨m1, g1, k1, _⟩ := DataW.trod_int uint64 (show _ = some y1 from h1)
    obtain ⟨s, g2, k2, _⟩ := DataW.trod_string ustr (show _ = some y2 from h2)
    subst k0; subst k1; subst k2
    simp only [DataW.lit.injEq, Lit.string.injEq, Lit.int.injEq, true_and] at q0 q1 q2
    have hs : s = ⟨#[]⟩ := by
      apply ByteArray.ext
      exact Array.toList_inj.1 q2.symm
    simp only [List.cons.injEq, and_true] at g0 g1 g2
    subst g0; subst g1; subst g2; subst hs; subst q0; subst q1
    exact crep_3 hl e0 e1 e2 ⟨⟨by simp [D.rep, Go.Am.one], rfl⟩, trivial⟩ ⟨⟨by simp [D.rep, Go.Am.one], rfl⟩, trivial⟩ ⟨⟨by simp [D.rep, Go.Am.one], rfl⟩, trivial⟩

/-- The two tables, where they are laid. -/
theorem tabs_of {W : World} (h : laidMetH Tryd.prog Rows.meaningAggregatesRow.laid W) : Go.Am.rowAt (E0 W).R ((E0 W).R 0) 0 opRow ∧ Go.Am.rowAt (E0 W).R ((E0 W).R 1) 0 nullRow := by
  rw [MakeChecks.laidMetH_plain _ _ _ (by kernel_rfl)] at h
  obtain ⟨ps, ⟨g1, t1, cs1, f1, p1, q1, hg1, ht1, hv1, hd1, ⟨g0, t0, cs0, f0, p0, q0, hg0, ht0, hv0, hd0, _⟩, _⟩, _⟩ := h
  obtain rfl := Option.some.inj (gOps.symm.trans hg0)
  obtain rfl := Option.some.inj (tOps.symm.trans ht0)
  obtain rfl := Option.some.inj (gNull.symm.trans hg1)
  obtain rfl := Option.some.inj (tNull.symm.trans ht1)
  refine ⟨?_, ?_⟩
  · rw [laid_eq] at hd0
    obtain ⟨xs, m, hm, hx, hl, hn, hel⟩ := DataW.trod_array uOps hd0
    rw [c4o] at hel
    have hxs : xs.map (·.1) = opTab.map dOp := by
      simp only [Prod.mk.injEq, DataW.agg.injEq] at hx
      exact hx.1.symm
    have hcl : cs0.toList.length = opTab.length * 4 := by rw [hl]; kernel_rfl
    have hc : crep (E0 W).R opRow cs0.toList := by
      refine crep_ops opTab cs0.toList hcl fun i hi => ?_
      have hi2 : i < 29 := hi
      have h1 := hel i hi2
      rw [List.getElem?_eq_getElem (by omega)] at h1
      have h2 : (xs[i]'(by omega)).1 = dOp opTab[i] := by
        have := congrArg (fun l => l[i]?) hxs
        simp only [List.getElem?_map, List.getElem?_eq_getElem (show i < xs.length by omega), List.getElem?_eq_getElem hi, Option.map_some, Option.some.injEq] at this
        exact this
      obtain ⟨pp, hpp⟩ : ∃ pp, xs[i]'(by omega) = (dOp opTab[i], pp) := ⟨(xs[i]'(by omega)).2, by rw [← h2]⟩
      rw [hpp] at h1
      exact op_of h1
    refine crep_rowAt 0 hc fun j u hj => E0_cell ?_
    rw [Nat.zero_add, World.var?_cell hg0 hv0 j]
    simpa using hj
  · have hc : crep (E0 W).R nullRow cs1.toList := null_of hd1
    refine crep_rowAt 0 hc fun j u hj => E0_cell ?_
    rw [Nat.zero_add, World.var?_cell hg1 hv1 j]
    simpa using hj
end Go.Proofs.YtkccdfaelbepeaaDoor
