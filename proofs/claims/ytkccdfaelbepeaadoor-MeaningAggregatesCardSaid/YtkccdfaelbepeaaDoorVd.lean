/- Any aggregate over any rows is what the specification says: a proof over an abstract machine of our own (part Vd) -/
import Derived.Test.YtkccdfaelbepeaaDoorVb
import Derived.Test.YtkccdfaelbepeaaDoorLd
import Derived.Test.YtkccdfaelbepeaaDoorVc
set_option linter.all false

namespace Go.Proofs.YtkccdfaelbepeaaDoor
open Go.Am
set_option linter.unusedVariables false
set_option maxRecDepth 100000
set_option maxHeartbeats 4000000

/-- Values behind a slice of one's own. -/
def vecV (vs : List Val) : Ob := .vec 42 3 (rowsOf rV vs) 0
def ngV (v : Val) : Bool := v.kind != 1
theorem c_sum1 (v : Val) : ACall Tryd.prog 50 [aV v] [] (boo (ngV v)) [] := by
  refine ACall.enter mixed ttok Tryd.func50 rfl rfl _ Tryd.ntmps50 (Nat.le_of_ble_eq_true rfl) (by kernel_rfl) _ (congrArg Array.toList Tryd.results50) ?_
  generalize hr : boo (ngV v) = R
  simp -implicitDefEqProofs only [argT, ↓steps, push_cast, reduceIte, Nat.reduceEqDiff, Nat.reduceAdd, Nat.reduceMul, Nat.reduceLT, Nat.reduceLeDiff, Int.reduceToNat, Int.reduceLE, Int.reduceLT, reduceCtorEq, tte, num, boo, str, ints, aV, aTab, aInst, aS, aT, aC, vecV]
  exact ret_d trivial (by rw [← hr]; rfl) (by simp only [ends, ite_true, ite_false, reduceIte, Nat.reduceEqDiff, Nat.reduceLeDiff, Nat.reduceLT, Nat.reduceAdd, reduceCtorEq, num, boo, str, ints, aV, aTab, aInst, aS, aT, aC, vecV])

/-- A number of one's own is handed back, with the slice's object as it was. -/
theorem ret_dO {p : Prop} {x : D} {t : List (Nat × A)} {o : List (Nat × Ob)} {R : A} {os' : List (Nat × Ob)} (hp : p) (hr : A.d x = R) (ho : keepO (lookO o) (inO os') os') (hin : keepIn (inO os') o) : retx (some (p, A.d x)) ⟨t, o⟩ R os' := by
  subst hr
  exact retx_of [] rfl hp trivial rfl rfl ho hin

theorem c_idxV (vs : List Val) (hl : vs.length ≤ 1000000) :
    ACall Tryd.prog 106 [.sub 1000 vs.length 0 vs.length, .clo 50 []] [(1000, vecV vs)] (num (fidx ngV vs)) [(1000, vecV vs)] := by
  refine ACall.enter mixed ttok Tryd.func106 rfl rfl _ Tryd.ntmps106 (Nat.le_of_ble_eq_true rfl) (by kernel_rfl) _ (congrArg Array.toList Tryd.results106) ?_
  generalize hr : num (fidx ngV vs) = R
  simp -implicitDefEqProofs only [argT, ↓steps, push_cast, reduceIte, Nat.reduceEqDiff, Nat.reduceAdd, Nat.reduceMul, Nat.reduceLT, Nat.reduceLeDiff, Int.reduceToNat, Int.reduceLE, Int.reduceLT, reduceCtorEq, tte, num, boo, str, ints, aV, aTab, aInst, aS, aT, aC, vecV]
  refine loop_gen mixed ttok (fun n : Nat => (⟨[(8, .d (.lit (.int .i64 n))), (7, .d (.lit (.int .i64 vs.length))), (0, .sub 1000 vs.length 0 vs.length), (1, .clo 50 [])], [(1000, vecV vs)]⟩ : SL)) (fun n => vs.length - n) (fun n => n ≤ vs.length ∧ ∀ i, i < n → ngV (vs.getD i default) = false) 0 ⟨Nat.zero_le _, fun i h => absurd h (Nat.not_lt_zero _)⟩ ?_ ?_
  · exact Weak.keepL (by simp [ends, ite_true, ite_false, reduceIte, Nat.reduceEqDiff, Nat.reduceLeDiff, Nat.reduceLT, Nat.reduceAdd, reduceCtorEq, num, boo, str, ints, aV, aTab, aInst, aS, aT, aC, vecV]) (by simp [ends, ite_true, ite_false, reduceIte, Nat.reduceEqDiff, Nat.reduceLeDiff, Nat.reduceLT, Nat.reduceAdd, reduceCtorEq, num, boo, str, ints, aV, aTab, aInst, aS, aT, aC, vecV]) (by simp [ends, ite_true, ite_false, reduceIte, Nat.reduceEqDiff, Nat.reduceLeDiff, Nat.reduceLT, Nat.reduceAdd, reduceCtorEq, num, boo, str, ints, aV, aTab, aInst, aS, aT, aC, vecV])
  intro I hI n ⟨hn, hi⟩
  simp -implicitDefEqProofs only [↓steps, push_cast, reduceIte, Nat.reduceEqDiff, Nat.reduceAdd, Nat.reduceMul, Nat.reduceLT, Nat.reduceLeDiff, Int.reduceToNat, Int.reduceLE, Int.reduceLT, reduceCtorEq, tte, num, boo, str, ints, aV, aTab, aInst, aS, aT, aC, vecV]
  refine bcase_intro (fun h => ?_) fun h => ?_
  · simp only [decide_eq_true_eq] at h
    have h' : n < vs.length := by omega
    have hw := wrap_succ h' (by omega)
    refine ⟨⟨by omega, h⟩, h', ?_⟩
    refine callx_of [[0, 0, 0]] [] rfl (c_sum1 (vs.getD n default)) (by first | (simp; done) | (simp [rowsOf_length]; done) | (simp [rowsOf_length]; omega)) (by first | (simp only [ends, ite_true, ite_false, reduceIte, Nat.reduceEqDiff, Nat.reduceLeDiff, Nat.reduceLT, Nat.reduceAdd, reduceCtorEq, num, boo, str, ints, aV, aTab, aInst, aS, aT, aC, vecV, num, boo, str, aE_eq, aV]; done) | simp [ends, ite_true, ite_false, reduceIte, Nat.reduceEqDiff, Nat.reduceLeDiff, Nat.reduceLT, Nat.reduceAdd, reduceCtorEq, num, boo, str, ints, aV, aTab, aInst, aS, aT, aC, vecV, num, boo, str, aE_eq, aV]) (by first | rfl | (simp only [ends, ite_true, ite_false, reduceIte, Nat.reduceEqDiff, Nat.reduceLeDiff, Nat.reduceLT, Nat.reduceAdd, reduceCtorEq, num, boo, str, ints, aV, aTab, aInst, aS, aT, aC, vecV, num, boo, str, aE_eq, aV]; done) | simp [ends, ite_true, ite_false, reduceIte, Nat.reduceEqDiff, Nat.reduceLeDiff, Nat.reduceLT, Nat.reduceAdd, reduceCtorEq, num, boo, str, ints, aV, aTab, aInst, aS, aT, aC, vecV, num, boo, str, aE_eq, aV]) (by simp only [ends, ite_true, ite_false, reduceIte, Nat.reduceEqDiff, Nat.reduceLeDiff, Nat.reduceLT, Nat.reduceAdd, reduceCtorEq, num, boo, str, ints, aV, aTab, aInst, aS, aT, aC, vecV]) (by simp [idsOk, lookO, updO, ren1]) ?_
    simp -implicitDefEqProofs only [↓steps, push_cast, reduceIte, Nat.reduceEqDiff, Nat.reduceAdd, Nat.reduceMul, Nat.reduceLT, Nat.reduceLeDiff, Int.reduceToNat, Int.reduceLE, Int.reduceLT, reduceCtorEq, tte, num, boo, str, ints, aV, aTab, aInst, aS, aT, aC, vecV]
    refine bcase_intro (fun g => ?_) fun g => ?_
    · exact ret_dO trivial (by rw [← hr, fidx_at ngV vs n h' hi g]; rfl) (by simp [ends, ite_true, ite_false, reduceIte, Nat.reduceEqDiff, Nat.reduceLeDiff, Nat.reduceLT, Nat.reduceAdd, reduceCtorEq, num, boo, str, ints, aV, aTab, aInst, aS, aT, aC, vecV]) (by simp [ends, ite_true, ite_false, reduceIte, Nat.reduceEqDiff, Nat.reduceLeDiff, Nat.reduceLT, Nat.reduceAdd, reduceCtorEq, num, boo, str, ints, aV, aTab, aInst, aS, aT, aC, vecV])
    · exact gen_again hI (n + 1) ⟨by omega, fun i h2 => if h3 : i = n then by rw [h3]; exact g else hi i (by omega)⟩ (by show vs.length - (n + 1) < vs.length - n; omega) (Weak.keepL (by simp [hw, ends, ite_true, ite_false, reduceIte, Nat.reduceEqDiff, Nat.reduceLeDiff, Nat.reduceLT, Nat.reduceAdd, reduceCtorEq, num, boo, str, ints, aV, aTab, aInst, aS, aT, aC, vecV]) (by simp [ends, ite_true, ite_false, reduceIte, Nat.reduceEqDiff, Nat.reduceLeDiff, Nat.reduceLT, Nat.reduceAdd, reduceCtorEq, num, boo, str, ints, aV, aTab, aInst, aS, aT, aC, vecV]) (by simp [ends, ite_true, ite_false, reduceIte, Nat.reduceEqDiff, Nat.reduceLeDiff, Nat.reduceLT, Nat.reduceAdd, reduceCtorEq, num, boo, str, ints, aV, aTab, aInst, aS, aT, aC, vecV]))
  · simp only [decide_eq_false_iff_not] at h
    obtain rfl : n = vs.length := by omega
    exact ret_dO trivial (by rw [← hr, fidx_none ngV vs hi]; rfl) (by simp [ends, ite_true, ite_false, reduceIte, Nat.reduceEqDiff, Nat.reduceLeDiff, Nat.reduceLT, Nat.reduceAdd, reduceCtorEq, num, boo, str, ints, aV, aTab, aInst, aS, aT, aC, vecV]) (by simp [ends, ite_true, ite_false, reduceIte, Nat.reduceEqDiff, Nat.reduceLeDiff, Nat.reduceLT, Nat.reduceAdd, reduceCtorEq, num, boo, str, ints, aV, aTab, aInst, aS, aT, aC, vecV])

def goodL (vs : List Val) : List Val := vs.filter fun v => !ngV v
def delM (vs : List Val) : List Val := goodL vs ++ List.replicate (vs.length - (goodL vs).length) nullV
theorem goodL_len (vs : List Val) : (goodL vs).length ≤ vs.length := List.length_filter_le _ _

theorem set_rV (l : List Val) (i : Nat) (x : Val) (hi : i < l.length) :
    (rowsOf rV l).set i (D.lit (.int .i64 x.kind) :: D.lit (.int .i64 x.num) :: D.lit (.string x.text) :: List.drop 3 ((rowsOf rV l).getD i [])) = rowsOf rV (l.set i x) := by
  rw [rowsOf_getD _ _ _ hi]
  exact rowsOf_set rV l i x
theorem put_rV (l : List Val) (i n : Nat) : putRows (rowsOf rV l) i (List.replicate n [D.lit (.int .i64 0), D.lit (.int .i64 0), D.lit (.string ByteArray.empty)]) = rowsOf rV (putRows l i (List.replicate n nullV)) := by
  have : List.replicate n [D.lit (Value.int .i64 0), D.lit (Value.int .i64 0), D.lit (Value.string ByteArray.empty)] = rowsOf rV (List.replicate n nullV) := by
    simp [rowsOf, rV, nullV]
  rw [this]
  simp [putRows, rowsOf]
theorem ret_sub {p : Prop} {a m k n : Nat} {t : List (Nat × A)} {o : List (Nat × Ob)} {R : A} {os' : List (Nat × Ob)} (hp : p) (hr : A.sub a m k n = R) (hc : inO os' a = true) (ho : keepO (lookO o) (inO os') os') (hin : keepIn (inO os') o) : retx (some (p, A.sub a m k n)) ⟨t, o⟩ R os' := by
  subst hr
  exact retx_of [] rfl hp trivial rfl (by simpa [A.closed] using hc) ho hin

theorem fidx_spec {α : Type} [Inhabited α] (p : α → Bool) : ∀ (l : List α) (n : Nat), fidx p l = n → (∀ i, i < n → p (l.getD i default) = false) ∧ p (l.getD n default) = true
  | [], n, h => by simp [fidx] at h
  | x :: l, n, h => by
    simp only [fidx] at h
    by_cases hx : p x = true
    · rw [if_pos hx] at h
      obtain rfl : n = 0 := by omega
      exact ⟨fun i hi => absurd hi (Nat.not_lt_zero _), by simpa using hx⟩
    · rw [if_neg hx] at h
      by_cases hn : fidx p l < 0
      · rw [if_pos hn] at h; omega
      · rw [if_neg hn] at h
        obtain ⟨m, rfl⟩ : ∃ m, n = m + 1 := ⟨n - 1, by omega⟩
        obtain ⟨h1, h2⟩ := fidx_spec p l m (by omega)
        refine ⟨fun i hi => ?_, by simpa using h2⟩
        cases i with
        | zero => simpa using hx
        | succ i => simpa using h1 i (by omega)
theorem goodL_take_succ (vs : List Val) (n : Nat) (h : n < vs.length) : goodL (vs.take (n + 1)) = if ngV (vs.getD n default) = true then goodL (vs.take n) else goodL (vs.take n) ++ [vs.getD n default] := by
  rw [take_snoc _ _ h]
  unfold goodL
  rw [List.filter_append]
  generalize vs.getD n default = x
  cases hb : ngV x <;> simp [hb]
theorem goodL_all (vs : List Val) (h : ∀ i, i < vs.length → ngV (vs.getD i default) = false) : goodL vs = vs := by
  refine List.filter_eq_self.2 fun v hv => ?_
  obtain ⟨i, hi, rfl⟩ := List.getElem_of_mem hv
  have := h i hi
  rw [List.getD_eq_getElem?_getD, List.getElem?_eq_getElem hi] at this
  simpa using this

theorem c_del (vs : List Val) (hl : vs.length ≤ 1000000) :
    ACall Tryd.prog 49 [.sub 1000 vs.length 0 vs.length, .clo 50 []] [(1000, vecV vs)] (.sub 1000 vs.length 0 (goodL vs).length) [(1000, vecV (delM vs))] := by
  refine ACall.enter mixed ttok Tryd.func49 rfl rfl _ Tryd.ntmps49 (Nat.le_of_ble_eq_true rfl) (by kernel_rfl) _ (congrArg Array.toList Tryd.results49) ?_
  generalize hr : A.sub 1000 vs.length 0 (goodL vs).length = R
  simp -implicitDefEqProofs only [argT, ↓steps, push_cast, reduceIte, Nat.reduceEqDiff, Nat.reduceAdd, Nat.reduceMul, Nat.reduceLT, Nat.reduceLeDiff, Int.reduceToNat, Int.reduceLE, Int.reduceLT, reduceCtorEq, tte, num, boo, str, ints, aV, aTab, aInst, aS, aT, aC, vecV]
  refine callx_of [[0], [0]] [(1000, 1000)] rfl (c_idxV vs hl) (by first | (simp; done) | (simp [rowsOf_length]; done) | (simp [rowsOf_length]; omega)) (by first | (simp only [ends, ite_true, ite_false, reduceIte, Nat.reduceEqDiff, Nat.reduceLeDiff, Nat.reduceLT, Nat.reduceAdd, reduceCtorEq, num, boo, str, ints, aV, aTab, aInst, aS, aT, aC, vecV, num, boo, str, aE_eq, aV]; done) | simp [ends, ite_true, ite_false, reduceIte, Nat.reduceEqDiff, Nat.reduceLeDiff, Nat.reduceLT, Nat.reduceAdd, reduceCtorEq, num, boo, str, ints, aV, aTab, aInst, aS, aT, aC, vecV, num, boo, str, aE_eq, aV]) (by first | rfl | (simp only [ends, ite_true, ite_false, reduceIte, Nat.reduceEqDiff, Nat.reduceLeDiff, Nat.reduceLT, Nat.reduceAdd, reduceCtorEq, num, boo, str, ints, aV, aTab, aInst, aS, aT, aC, vecV, num, boo, str, aE_eq, aV]; done) | simp [ends, ite_true, ite_false, reduceIte, Nat.reduceEqDiff, Nat.reduceLeDiff, Nat.reduceLT, Nat.reduceAdd, reduceCtorEq, num, boo, str, ints, aV, aTab, aInst, aS, aT, aC, vecV, num, boo, str, aE_eq, aV]) (by simp only [ends, ite_true, ite_false, reduceIte, Nat.reduceEqDiff, Nat.reduceLeDiff, Nat.reduceLT, Nat.reduceAdd, reduceCtorEq, num, boo, str, ints, aV, aTab, aInst, aS, aT, aC, vecV]) (by simp [idsOk, lookO, updO, ren1]) ?_
  simp -implicitDefEqProofs only [↓steps, push_cast, reduceIte, Nat.reduceEqDiff, Nat.reduceAdd, Nat.reduceMul, Nat.reduceLT, Nat.reduceLeDiff, Int.reduceToNat, Int.reduceLE, Int.reduceLT, reduceCtorEq, tte, num, boo, str, ints, aV, aTab, aInst, aS, aT, aC, vecV]
  by_cases hf : fidx ngV vs = -1
  · have hall : ∀ i, i < vs.length → ngV (vs.getD i default) = false := by
      intro i hi
      have := (fidx_neg ngV vs).1 (by omega)
      rw [List.any_eq_false] at this
      simpa using this _ (getD_mem hi)
    have hg := goodL_all vs hall
    have hd : delM vs = vs := by rw [delM, hg]; simp
    rw [hg] at hr
    rw [hd]
    refine bcase_intro (fun _ => ?_) fun h => absurd h (by rw [hf]; decide)
    exact ret_sub trivial hr (by simp [ends, ite_true, ite_false, reduceIte, Nat.reduceEqDiff, Nat.reduceLeDiff, Nat.reduceLT, Nat.reduceAdd, reduceCtorEq, num, boo, str, ints, aV, aTab, aInst, aS, aT, aC, vecV]) (by simp [ends, ite_true, ite_false, reduceIte, Nat.reduceEqDiff, Nat.reduceLeDiff, Nat.reduceLT, Nat.reduceAdd, reduceCtorEq, num, boo, str, ints, aV, aTab, aInst, aS, aT, aC, vecV]) (by simp [ends, ite_true, ite_false, reduceIte, Nat.reduceEqDiff, Nat.reduceLeDiff, Nat.reduceLT, Nat.reduceAdd, reduceCtorEq, num, boo, str, ints, aV, aTab, aInst, aS, aT, aC, vecV])
  refine bcase_intro (fun h => absurd h (by simpa using hf)) fun _ => ?_
  have hf0 : 0 ≤ fidx ngV vs := by have := fidx_ge ngV vs; omega
  have hfl := fidx_lt ngV vs
  obtain ⟨i0, hi0⟩ : ∃ i0 : Nat, fidx ngV vs = i0 := ⟨(fidx ngV vs).toNat, by omega⟩
  rw [hi0] at hfl ⊢
  obtain ⟨hs1, hs2⟩ := fidx_spec ngV vs i0 hi0
  have hi0l : i0 < vs.length := by omega
  have hw0 := wrap_succ hi0l (by omega)
  refine loop_gen mixed ttok (fun x : Nat × Nat × List Val => (⟨[(5, .d (.lit (.int .i64 x.1))), (6, .d (.lit (.int .i64 x.2.1))), (0, .sub 1000 vs.length 0 vs.length), (1, .clo 50 [])], [(1000, .vec 42 3 (rowsOf rV x.2.2) 0)]⟩ : SL)) (fun x => vs.length - x.2.1)
    (fun x => x.2.2.length = vs.length ∧ x.1 < x.2.1 ∧ x.2.1 ≤ vs.length ∧ x.2.2.take x.1 = goodL (vs.take x.2.1) ∧ x.2.2.drop x.2.1 = vs.drop x.2.1) (i0, i0 + 1, vs) ⟨rfl, by simp, by simp; omega, ?_, rfl⟩ ?_ ?_
  · show vs.take i0 = goodL (vs.take (i0 + 1))
    rw [goodL_take_succ _ _ hi0l, if_pos hs2, goodL_all]
    intro i hi
    simp only [List.length_take] at hi
    have := hs1 i (by omega)
    rw [List.getD_eq_getElem?_getD] at this ⊢
    rwa [List.getElem?_take, if_pos (by omega)]
  · exact Weak.keepL (by simp [hw0, ends, ite_true, ite_false, reduceIte, Nat.reduceEqDiff, Nat.reduceLeDiff, Nat.reduceLT, Nat.reduceAdd, reduceCtorEq, num, boo, str, ints, aV, aTab, aInst, aS, aT, aC, vecV]) (by simp [hw0, ends, ite_true, ite_false, reduceIte, Nat.reduceEqDiff, Nat.reduceLeDiff, Nat.reduceLT, Nat.reduceAdd, reduceCtorEq, num, boo, str, ints, aV, aTab, aInst, aS, aT, aC, vecV]) (by simp [ends, ite_true, ite_false, reduceIte, Nat.reduceEqDiff, Nat.reduceLeDiff, Nat.reduceLT, Nat.reduceAdd, reduceCtorEq, num, boo, str, ints, aV, aTab, aInst, aS, aT, aC, vecV])
  intro I hI ⟨i, j, l⟩ ⟨hl1, hij, hj, htk, hdr⟩
  simp only at hl1 hij hj htk hdr
  simp -implicitDefEqProofs only [↓steps, push_cast, reduceIte, Nat.reduceEqDiff, Nat.reduceAdd, Nat.reduceMul, Nat.reduceLT, Nat.reduceLeDiff, Int.reduceToNat, Int.reduceLE, Int.reduceLT, reduceCtorEq, tte, num, boo, str, ints, aV, aTab, aInst, aS, aT, aC, vecV]
  refine ⟨by omega, ?_⟩
  refine bcase_intro (fun h => ?_) fun h => ?_
  · simp only [decide_eq_true_eq] at h
    have h' : j < vs.length := by omega
    have hwj := wrap_succ h' (by omega)
    have hgj : l.getD j default = vs.getD j default := by
      have h1 := drop_cons l j (by omega)
      have h2 := drop_cons vs j h'
      rw [hdr, h2] at h1
      injection h1 with h3 _
      exact h3.symm
    have hdr2 : l.drop (j + 1) = vs.drop (j + 1) := by
      have := congrArg (List.drop 1) hdr
      simpa [List.drop_drop] using this
    refine ⟨⟨⟨by omega, h⟩, hl1.symm⟩, by omega, hl1.symm, ?_⟩
    refine callx_of [[0, 0, 0]] [] rfl (c_sum1 (l.getD j default)) (by first | (simp; done) | (simp [rowsOf_length]; done) | (simp [rowsOf_length]; omega)) (by first | (simp only [ends, ite_true, ite_false, reduceIte, Nat.reduceEqDiff, Nat.reduceLeDiff, Nat.reduceLT, Nat.reduceAdd, reduceCtorEq, num, boo, str, ints, aV, aTab, aInst, aS, aT, aC, vecV, num, boo, str, aE_eq, aV]; done) | simp [ends, ite_true, ite_false, reduceIte, Nat.reduceEqDiff, Nat.reduceLeDiff, Nat.reduceLT, Nat.reduceAdd, reduceCtorEq, num, boo, str, ints, aV, aTab, aInst, aS, aT, aC, vecV, num, boo, str, aE_eq, aV]) (by first | rfl | (simp only [ends, ite_true, ite_false, reduceIte, Nat.reduceEqDiff, Nat.reduceLeDiff, Nat.reduceLT, Nat.reduceAdd, reduceCtorEq, num, boo, str, ints, aV, aTab, aInst, aS, aT, aC, vecV, num, boo, str, aE_eq, aV]; done) | simp [ends, ite_true, ite_false, reduceIte, Nat.reduceEqDiff, Nat.reduceLeDiff, Nat.reduceLT, Nat.reduceAdd, reduceCtorEq, num, boo, str, ints, aV, aTab, aInst, aS, aT, aC, vecV, num, boo, str, aE_eq, aV]) (by simp only [ends, ite_true, ite_false, reduceIte, Nat.reduceEqDiff, Nat.reduceLeDiff, Nat.reduceLT, Nat.reduceAdd, reduceCtorEq, num, boo, str, ints, aV, aTab, aInst, aS, aT, aC, vecV]) (by simp [idsOk, lookO, updO, ren1]) ?_
    simp -implicitDefEqProofs only [↓steps, push_cast, reduceIte, Nat.reduceEqDiff, Nat.reduceAdd, Nat.reduceMul, Nat.reduceLT, Nat.reduceLeDiff, Int.reduceToNat, Int.reduceLE, Int.reduceLT, reduceCtorEq, tte, num, boo, str, ints, aV, aTab, aInst, aS, aT, aC, vecV]
    have hsuc := goodL_take_succ vs j h'
    rw [← hgj] at hsuc
    refine bcase_intro (fun g => ?_) fun g => ?_
    · have g' : ngV (l.getD j default) = false := by simpa using g
      rw [if_neg (by rw [g']; decide), ← htk] at hsuc
      have hwi := wrap_succ (N := vs.length) (n := i) (by omega) (by omega)
      simp only [hwi]
      refine ⟨⟨⟨by omega, by omega⟩, hl1.symm⟩, ⟨hl1.symm, by omega, by omega⟩, ?_⟩
      have hlt : (l.take i ++ [l.getD j default]) = (l.set i (l.getD j default)).take (i + 1) := by
        rw [List.take_succ_eq_append_getElem (by simp; omega), List.take_set, List.set_eq_of_length_le (by simp; omega)]
        simp
      rw [hlt] at hsuc
      have hsr := set_rV l i (l.getD j default) (by omega)
      exact gen_again hI (i + 1, j + 1, l.set i (l.getD j default)) ⟨by simpa using hl1, by show i + 1 < j + 1; omega, h', hsuc.symm, by exact (List.drop_set_of_lt (show i < j + 1 by omega)).trans hdr2⟩ (by show vs.length - (j + 1) < vs.length - j; omega)
        (Weak.keepL (by simp [hwj, ends, ite_true, ite_false, reduceIte, Nat.reduceEqDiff, Nat.reduceLeDiff, Nat.reduceLT, Nat.reduceAdd, reduceCtorEq, num, boo, str, ints, aV, aTab, aInst, aS, aT, aC, vecV]) (by simp only [hwj, hsr, ends, ite_true, ite_false, reduceIte, Nat.reduceEqDiff, Nat.reduceLeDiff, Nat.reduceLT, Nat.reduceAdd, reduceCtorEq, num, boo, str, ints, aV, aTab, aInst, aS, aT, aC, vecV]) (by simp [ends, ite_true, ite_false, reduceIte, Nat.reduceEqDiff, Nat.reduceLeDiff, Nat.reduceLT, Nat.reduceAdd, reduceCtorEq, num, boo, str, ints, aV, aTab, aInst, aS, aT, aC, vecV]))
    · have g' : ngV (l.getD j default) = true := by simpa using g
      rw [if_pos g', ← htk] at hsuc
      exact gen_again hI (i, j + 1, l) ⟨hl1, by show i < j + 1; omega, h', hsuc.symm, hdr2⟩ (by show vs.length - (j + 1) < vs.length - j; omega) (Weak.keepL (by simp [hwj, ends, ite_true, ite_false, reduceIte, Nat.reduceEqDiff, Nat.reduceLeDiff, Nat.reduceLT, Nat.reduceAdd, reduceCtorEq, num, boo, str, ints, aV, aTab, aInst, aS, aT, aC, vecV]) (by simp [hwj, ends, ite_true, ite_false, reduceIte, Nat.reduceEqDiff, Nat.reduceLeDiff, Nat.reduceLT, Nat.reduceAdd, reduceCtorEq, num, boo, str, ints, aV, aTab, aInst, aS, aT, aC, vecV]) (by simp [ends, ite_true, ite_false, reduceIte, Nat.reduceEqDiff, Nat.reduceLeDiff, Nat.reduceLT, Nat.reduceAdd, reduceCtorEq, num, boo, str, ints, aV, aTab, aInst, aS, aT, aC, vecV]))
  · simp only [decide_eq_false_iff_not] at h
    obtain rfl : j = vs.length := by omega
    rw [List.take_length] at htk
    have hgi : (goodL vs).length = i := by rw [← htk]; simp; omega
    have hfin : putRows l i (List.replicate (vs.length - i) nullV) = delM vs := by
      rw [delM, hgi, ← htk]
      simp only [putRows, List.length_replicate]
      rw [List.drop_eq_nil_of_le (by omega), List.append_nil]
    rw [put_rV, hfin, rowsOf_length]
    have hdl : (delM vs).length = vs.length := by simp only [delM, List.length_append, List.length_replicate]; have := goodL_len vs; omega
    refine ⟨⟨hl1.symm, ⟨by omega, by omega, by omega⟩, by omega⟩, ⟨hl1.symm, by omega⟩, ⟨hdl.symm, ⟨by omega, by omega⟩, .inl trivial⟩, ?_⟩
    rw [hgi] at hr
    exact ret_sub trivial hr (by simp [ends, ite_true, ite_false, reduceIte, Nat.reduceEqDiff, Nat.reduceLeDiff, Nat.reduceLT, Nat.reduceAdd, reduceCtorEq, num, boo, str, ints, aV, aTab, aInst, aS, aT, aC, vecV]) (by simp [ends, ite_true, ite_false, reduceIte, Nat.reduceEqDiff, Nat.reduceLeDiff, Nat.reduceLT, Nat.reduceAdd, reduceCtorEq, num, boo, str, ints, aV, aTab, aInst, aS, aT, aC, vecV]) (by simp [ends, ite_true, ite_false, reduceIte, Nat.reduceEqDiff, Nat.reduceLeDiff, Nat.reduceLT, Nat.reduceAdd, reduceCtorEq, num, boo, str, ints, aV, aTab, aInst, aS, aT, aC, vecV])
end Go.Proofs.YtkccdfaelbepeaaDoor

namespace Go.Proofs.YtkccdfaelbepeaaDoor
open Go.Am
set_option linter.unusedVariables false
set_option maxRecDepth 100000
set_option maxHeartbeats 4000000

/-- Is the value at a place another one than that ahead of it? -/
def keep (vs : List Val) (j : Nat) : Bool := j == 0 || !sameM (vs.getD j default) (vs.getD (j - 1) default)
def ddTo (vs : List Val) (n : Nat) : List Val := ((List.range n).filter (keep vs)).map fun j => vs.getD j default
def cpM (vs : List Val) : List Val := ddTo vs vs.length ++ List.replicate (vs.length - (ddTo vs vs.length).length) nullV
theorem ddTo_succ (vs : List Val) (n : Nat) : ddTo vs (n + 1) = if keep vs n = true then ddTo vs n ++ [vs.getD n default] else ddTo vs n := by
  unfold ddTo
  rw [List.range_succ, List.filter_append, List.map_append]
  cases h : keep vs n <;> simp [h]
theorem ddTo_len (vs : List Val) (n : Nat) : (ddTo vs n).length ≤ n := by
  rw [ddTo, List.length_map]
  exact Nat.le_trans (List.length_filter_le _ _) (by simp)
theorem ddTo_all (vs : List Val) : ∀ (n : Nat), n ≤ vs.length → (∀ j, j < n → keep vs j = true) → ddTo vs n = vs.take n
  | 0, _, _ => rfl
  | n + 1, hn, h => by rw [ddTo_succ, if_pos (h n (by omega)), ddTo_all vs n (by omega) fun j hj => h j (by omega), take_snoc _ _ (by omega)]

theorem sameM_eq (x y : Val) : (x.kind == y.kind && (x.num == y.num && x.text.toList == y.text.toList)) = sameM x y := by simp [sameM, Bool.and_assoc]
theorem keep1 (vs : List Val) : ∀ j, j < 1 → keep vs j = true := by
  intro j hj
  obtain rfl : j = 0 := by omega
  rfl
theorem c_compact (vs : List Val) (hl : vs.length ≤ 1000000) :
    ACall Tryd.prog 23 [.sub 1000 vs.length 0 vs.length] [(1000, vecV vs)] (.sub 1000 vs.length 0 (ddTo vs vs.length).length) [(1000, vecV (cpM vs))] := by
  refine ACall.enter mixed ttok Tryd.func23 rfl rfl _ Tryd.ntmps23 (Nat.le_of_ble_eq_true rfl) (by kernel_rfl) _ (congrArg Array.toList Tryd.results23) ?_
  generalize hr : A.sub 1000 vs.length 0 (ddTo vs vs.length).length = R
  simp -implicitDefEqProofs only [argT, ↓steps, push_cast, reduceIte, Nat.reduceEqDiff, Nat.reduceAdd, Nat.reduceMul, Nat.reduceLT, Nat.reduceLeDiff, Int.reduceToNat, Int.reduceLE, Int.reduceLT, reduceCtorEq, tte, num, boo, str, ints, aV, aTab, aInst, aS, aT, aC, vecV]
  have hall : (∀ j, j < vs.length → keep vs j = true) → A.sub 1000 vs.length 0 vs.length = R ∧ cpM vs = vs := fun h => by
    have := ddTo_all vs vs.length (Nat.le_refl _) h
    rw [List.take_length] at this
    rw [this] at hr
    exact ⟨hr, by rw [cpM, this]; simp⟩
  refine bcase_intro (fun h0 => ?_) fun h0 => ?_
  · simp only [decide_eq_true_eq] at h0
    obtain ⟨e1, e2⟩ := hall fun j hj => by
      have : j = 0 := by omega
      subst this; rfl
    rw [e2]
    exact ret_sub trivial e1 (by simp [ends, ite_true, ite_false, reduceIte, Nat.reduceEqDiff, Nat.reduceLeDiff, Nat.reduceLT, Nat.reduceAdd, reduceCtorEq, num, boo, str, ints, aV, aTab, aInst, aS, aT, aC, vecV]) (by simp [ends, ite_true, ite_false, reduceIte, Nat.reduceEqDiff, Nat.reduceLeDiff, Nat.reduceLT, Nat.reduceAdd, reduceCtorEq, num, boo, str, ints, aV, aTab, aInst, aS, aT, aC, vecV]) (by simp [ends, ite_true, ite_false, reduceIte, Nat.reduceEqDiff, Nat.reduceLeDiff, Nat.reduceLT, Nat.reduceAdd, reduceCtorEq, num, boo, str, ints, aV, aTab, aInst, aS, aT, aC, vecV])
  simp only [decide_eq_false_iff_not] at h0
  refine loop_gen mixed ttok (fun k : Nat => (⟨[(3, .d (.lit (.int .i64 k))), (0, .sub 1000 vs.length 0 vs.length)], [(1000, .vec 42 3 (rowsOf rV vs) 0)]⟩ : SL)) (fun k => vs.length - k)
    (fun k => 1 ≤ k ∧ k ≤ vs.length ∧ ∀ j, j < k → keep vs j = true) 1 ⟨by omega, by omega, keep1 vs⟩ ?_ ?_
  · exact Weak.keepL (by simp [ends, ite_true, ite_false, reduceIte, Nat.reduceEqDiff, Nat.reduceLeDiff, Nat.reduceLT, Nat.reduceAdd, reduceCtorEq, num, boo, str, ints, aV, aTab, aInst, aS, aT, aC, vecV]) (by simp [ends, ite_true, ite_false, reduceIte, Nat.reduceEqDiff, Nat.reduceLeDiff, Nat.reduceLT, Nat.reduceAdd, reduceCtorEq, num, boo, str, ints, aV, aTab, aInst, aS, aT, aC, vecV]) (by simp [ends, ite_true, ite_false, reduceIte, Nat.reduceEqDiff, Nat.reduceLeDiff, Nat.reduceLT, Nat.reduceAdd, reduceCtorEq, num, boo, str, ints, aV, aTab, aInst, aS, aT, aC, vecV])
  intro I hI k ⟨hk1, hk, hkj⟩
  have hwk : IntKind.i64.wrap ((k : Int) - 1) = ((k - 1 : Nat) : Int) := by rw [wrap_eq (by omega) (by omega)]; omega
  simp -implicitDefEqProofs only [hwk, ↓steps, push_cast, reduceIte, Nat.reduceEqDiff, Nat.reduceAdd, Nat.reduceMul, Nat.reduceLT, Nat.reduceLeDiff, Int.reduceToNat, Int.reduceLE, Int.reduceLT, reduceCtorEq, tte, num, boo, str, ints, aV, aTab, aInst, aS, aT, aC, vecV]
  refine bcase_intro (fun h => ?_) fun h => ?_
  · simp only [decide_eq_true_eq] at h
    have h' : k < vs.length := by omega
    have hwk1 := wrap_succ h' (by omega)
    refine ⟨⟨by omega, h⟩, h', ⟨by omega, by omega⟩, by omega, drawx_intro (by kernel_rfl), ?_⟩
    rw [sameM_eq]
    refine bcase_intro (fun g => ?_) fun g => ?_
    · have hkk : keep vs k = false := by
        have h0 : (k == 0) = false := by simp; omega
        rw [keep, g, h0]; rfl
      refine ⟨⟨⟨by omega, by omega, by omega⟩, .inr h⟩, ?_⟩
      refine loop_gen mixed ttok (fun x : Nat × Nat × List Val => (⟨[(3, .d (.lit (.int .i64 x.1))), (5, .d (.lit (.int .i64 x.2.1))), (0, .sub 1000 vs.length 0 vs.length), (4, .sub 1000 vs.length k (vs.length - k))], [(1000, .vec 42 3 (rowsOf rV x.2.2) 0)]⟩ : SL)) (fun x => vs.length - k - x.2.1)
        (fun x => x.2.2.length = vs.length ∧ x.1 < k + x.2.1 ∧ 1 ≤ x.2.1 ∧ x.2.1 ≤ vs.length - k ∧ x.2.2.take x.1 = ddTo vs (k + x.2.1) ∧ x.2.2.drop (k + x.2.1 - 1) = vs.drop (k + x.2.1 - 1)) (k, 1, vs) ⟨rfl, by simp, by simp, by show 1 ≤ vs.length - k; omega, ?_, rfl⟩ ?_ ?_
      · show vs.take k = ddTo vs (k + 1)
        rw [ddTo_succ, if_neg (by rw [hkk]; decide), ddTo_all vs k hk hkj]
      · exact Weak.keepL (by simp [ends, ite_true, ite_false, reduceIte, Nat.reduceEqDiff, Nat.reduceLeDiff, Nat.reduceLT, Nat.reduceAdd, reduceCtorEq, num, boo, str, ints, aV, aTab, aInst, aS, aT, aC, vecV]) (by simp [ends, ite_true, ite_false, reduceIte, Nat.reduceEqDiff, Nat.reduceLeDiff, Nat.reduceLT, Nat.reduceAdd, reduceCtorEq, num, boo, str, ints, aV, aTab, aInst, aS, aT, aC, vecV]) (by simp [ends, ite_true, ite_false, reduceIte, Nat.reduceEqDiff, Nat.reduceLeDiff, Nat.reduceLT, Nat.reduceAdd, reduceCtorEq, num, boo, str, ints, aV, aTab, aInst, aS, aT, aC, vecV])
      intro J hJ ⟨q, m, l⟩ ⟨hl1, hqm, hm1, hm, htk, hdr⟩
      simp only at hl1 hqm hm1 hm htk hdr
      have hwm : IntKind.i64.wrap ((m : Int) - 1) = ((m - 1 : Nat) : Int) := by rw [wrap_eq (by omega) (by omega)]; omega
      simp -implicitDefEqProofs only [hwm, ↓steps, push_cast, reduceIte, Nat.reduceEqDiff, Nat.reduceAdd, Nat.reduceMul, Nat.reduceLT, Nat.reduceLeDiff, Int.reduceToNat, Int.reduceLE, Int.reduceLT, reduceCtorEq, tte, num, boo, str, ints, aV, aTab, aInst, aS, aT, aC, vecV]
      refine ⟨hl1.symm, ?_⟩
      refine bcase_intro (fun h2 => ?_) fun h2 => ?_
      · simp only [decide_eq_true_eq] at h2
        have h2' : k + m < vs.length := by omega
        have hwm1 := wrap_succ (N := vs.length) (n := m) (by omega) (by omega)
        have e1 : k + m - 1 = k + (m - 1) := by omega
        have hg1 : l.getD (k + (m - 1)) default = vs.getD (k + (m - 1)) default := by
          have h3 := drop_cons l (k + m - 1) (by omega)
          have h4 := drop_cons vs (k + m - 1) (by omega)
          rw [hdr, h4] at h3
          injection h3 with h3 _
          rw [← e1]; exact h3.symm
        have hdr2 : l.drop (k + m) = vs.drop (k + m) := by
          have := congrArg (List.drop 1) hdr
          rw [List.drop_drop, List.drop_drop, show k + m - 1 + 1 = k + m by omega] at this
          exact this
        have hg2 : l.getD (k + m) default = vs.getD (k + m) default := by
          have h3 := drop_cons l (k + m) (by omega)
          have h4 := drop_cons vs (k + m) h2'
          rw [hdr2, h4] at h3
          injection h3 with h3 _
          exact h3.symm
        have hsuc := ddTo_succ vs (k + m)
        have hkeep : keep vs (k + m) = !sameM (l.getD (k + m) default) (l.getD (k + (m - 1)) default) := by
          have h0 : (k + m == 0) = false := by simp; omega
          rw [keep, h0, hg1, hg2, e1]; rfl
        rw [← hg2] at hsuc
        refine ⟨⟨⟨by omega, h2⟩, hl1.symm⟩, by omega, hl1.symm, ⟨⟨by omega, by omega⟩, hl1.symm⟩, by omega, hl1.symm, drawx_intro (by kernel_rfl), ?_⟩
        rw [sameM_eq, ← hkeep]
        refine bcase_intro (fun g2 => ?_) fun g2 => ?_
        · rw [if_pos g2, ← htk] at hsuc
          have hwq := wrap_succ (N := vs.length) (n := q) (by omega) (by omega)
          have hlt : (l.take q ++ [l.getD (k + m) default]) = (l.set q (l.getD (k + m) default)).take (q + 1) := by
            rw [List.take_succ_eq_append_getElem (by simp; omega), List.take_set, List.set_eq_of_length_le (by simp; omega)]
            simp
          rw [hlt] at hsuc
          have hsr := set_rV l q (l.getD (k + m) default) (by omega)
          refine ⟨⟨⟨by omega, h2⟩, hl1.symm⟩, by omega, hl1.symm, ⟨⟨by omega, by omega⟩, hl1.symm⟩, ⟨hl1.symm, by omega, by omega⟩, ?_⟩
          exact gen_again hJ (q + 1, m + 1, l.set q (l.getD (k + m) default)) ⟨by simpa using hl1, by show q + 1 < k + (m + 1); omega, by show 1 ≤ m + 1; omega, by show m + 1 ≤ vs.length - k; omega, hsuc.symm, (List.drop_set_of_lt (show q < k + (m + 1) - 1 by omega)).trans (by rw [show k + (m + 1) - 1 = k + m by omega]; exact hdr2)⟩
            (by show vs.length - k - (m + 1) < vs.length - k - m; omega) (Weak.keepL (by simp [hwm1, hwq, ends, ite_true, ite_false, reduceIte, Nat.reduceEqDiff, Nat.reduceLeDiff, Nat.reduceLT, Nat.reduceAdd, reduceCtorEq, num, boo, str, ints, aV, aTab, aInst, aS, aT, aC, vecV]) (by simp only [hwm1, hsr, ends, ite_true, ite_false, reduceIte, Nat.reduceEqDiff, Nat.reduceLeDiff, Nat.reduceLT, Nat.reduceAdd, reduceCtorEq, num, boo, str, ints, aV, aTab, aInst, aS, aT, aC, vecV]) (by simp [ends, ite_true, ite_false, reduceIte, Nat.reduceEqDiff, Nat.reduceLeDiff, Nat.reduceLT, Nat.reduceAdd, reduceCtorEq, num, boo, str, ints, aV, aTab, aInst, aS, aT, aC, vecV]))
        · rw [if_neg (by rw [g2]; decide), ← htk] at hsuc
          exact gen_again hJ (q, m + 1, l) ⟨hl1, by show q < k + (m + 1); omega, by show 1 ≤ m + 1; omega, by show m + 1 ≤ vs.length - k; omega, hsuc.symm, by show l.drop (k + (m + 1) - 1) = vs.drop (k + (m + 1) - 1); rw [show k + (m + 1) - 1 = k + m by omega]; exact hdr2⟩
            (by show vs.length - k - (m + 1) < vs.length - k - m; omega) (Weak.keepL (by simp [hwm1, ends, ite_true, ite_false, reduceIte, Nat.reduceEqDiff, Nat.reduceLeDiff, Nat.reduceLT, Nat.reduceAdd, reduceCtorEq, num, boo, str, ints, aV, aTab, aInst, aS, aT, aC, vecV]) (by simp [ends, ite_true, ite_false, reduceIte, Nat.reduceEqDiff, Nat.reduceLeDiff, Nat.reduceLT, Nat.reduceAdd, reduceCtorEq, num, boo, str, ints, aV, aTab, aInst, aS, aT, aC, vecV]) (by simp [ends, ite_true, ite_false, reduceIte, Nat.reduceEqDiff, Nat.reduceLeDiff, Nat.reduceLT, Nat.reduceAdd, reduceCtorEq, num, boo, str, ints, aV, aTab, aInst, aS, aT, aC, vecV]))
      · simp only [decide_eq_false_iff_not] at h2
        have hkm : k + m = vs.length := by omega
        rw [hkm] at htk
        have hgi : (ddTo vs vs.length).length = q := by rw [← htk]; simp; omega
        have hfin : putRows l q (List.replicate (vs.length - q) nullV) = cpM vs := by
          rw [cpM, hgi, ← htk]
          simp only [putRows, List.length_replicate]
          rw [List.drop_eq_nil_of_le (by omega), List.append_nil]
        rw [put_rV, hfin, rowsOf_length]
        have hdl : (cpM vs).length = vs.length := by simp only [cpM, List.length_append, List.length_replicate]; have := ddTo_len vs vs.length; omega
        refine ⟨⟨hl1.symm, ⟨by omega, by omega, by omega⟩, by omega⟩, ⟨hl1.symm, by omega⟩, ⟨hdl.symm, ⟨by omega, by omega⟩, .inl trivial⟩, ?_⟩
        rw [hgi] at hr
        exact ret_sub trivial hr (by simp [ends, ite_true, ite_false, reduceIte, Nat.reduceEqDiff, Nat.reduceLeDiff, Nat.reduceLT, Nat.reduceAdd, reduceCtorEq, num, boo, str, ints, aV, aTab, aInst, aS, aT, aC, vecV]) (by simp [ends, ite_true, ite_false, reduceIte, Nat.reduceEqDiff, Nat.reduceLeDiff, Nat.reduceLT, Nat.reduceAdd, reduceCtorEq, num, boo, str, ints, aV, aTab, aInst, aS, aT, aC, vecV]) (by simp [ends, ite_true, ite_false, reduceIte, Nat.reduceEqDiff, Nat.reduceLeDiff, Nat.reduceLT, Nat.reduceAdd, reduceCtorEq, num, boo, str, ints, aV, aTab, aInst, aS, aT, aC, vecV])
    · have hkk : keep vs k = true := by rw [keep, g]; simp
      exact gen_again hI (k + 1) ⟨by omega, by omega, fun j hj => if h3 : j = k then by rw [h3]; exact hkk else hkj j (by omega)⟩ (by show vs.length - (k + 1) < vs.length - k; omega) (Weak.keepL (by simp [hwk1, ends, ite_true, ite_false, reduceIte, Nat.reduceEqDiff, Nat.reduceLeDiff, Nat.reduceLT, Nat.reduceAdd, reduceCtorEq, num, boo, str, ints, aV, aTab, aInst, aS, aT, aC, vecV]) (by simp [ends, ite_true, ite_false, reduceIte, Nat.reduceEqDiff, Nat.reduceLeDiff, Nat.reduceLT, Nat.reduceAdd, reduceCtorEq, num, boo, str, ints, aV, aTab, aInst, aS, aT, aC, vecV]) (by simp [ends, ite_true, ite_false, reduceIte, Nat.reduceEqDiff, Nat.reduceLeDiff, Nat.reduceLT, Nat.reduceAdd, reduceCtorEq, num, boo, str, ints, aV, aTab, aInst, aS, aT, aC, vecV]))
  · simp only [decide_eq_false_iff_not] at h
    obtain rfl : k = vs.length := by omega
    obtain ⟨e1, e2⟩ := hall hkj
    rw [e2]
    exact ret_sub trivial e1 (by simp [ends, ite_true, ite_false, reduceIte, Nat.reduceEqDiff, Nat.reduceLeDiff, Nat.reduceLT, Nat.reduceAdd, reduceCtorEq, num, boo, str, ints, aV, aTab, aInst, aS, aT, aC, vecV]) (by simp [ends, ite_true, ite_false, reduceIte, Nat.reduceEqDiff, Nat.reduceLeDiff, Nat.reduceLT, Nat.reduceAdd, reduceCtorEq, num, boo, str, ints, aV, aTab, aInst, aS, aT, aC, vecV]) (by simp [ends, ite_true, ite_false, reduceIte, Nat.reduceEqDiff, Nat.reduceLeDiff, Nat.reduceLT, Nat.reduceAdd, reduceCtorEq, num, boo, str, ints, aV, aTab, aInst, aS, aT, aC, vecV])
end Go.Proofs.YtkccdfaelbepeaaDoor

namespace Go.Proofs.YtkccdfaelbepeaaDoor
open Go.Am
set_option linter.unusedVariables false
set_option maxRecDepth 100000
set_option maxHeartbeats 4000000

def okV (v : Val) : Prop := i64 v.num ∧ v.text.size ≤ 9223372036854775807
/-- Parts of numbers, added up. -/
def sumF (f : Val → Int) : List Val → Int
  | [] => 0
  | x :: l => f x + sumF f l
theorem sumF_snoc (f : Val → Int) (x : Val) : ∀ l : List Val, sumF f (l ++ [x]) = sumF f l + f x
  | [] => by simp [sumF]
  | y :: l => by simp only [List.cons_append, sumF, sumF_snoc f x l]; omega
theorem sumF_bound (f : Val → Int) (b : Int) (hb : 0 ≤ b) : ∀ l : List Val, (∀ v ∈ l, -b ≤ f v ∧ f v ≤ b) → -(b * l.length) ≤ sumF f l ∧ sumF f l ≤ b * l.length
  | [], _ => by simp [sumF]
  | x :: l, h => by
    have h1 := h x (by simp)
    have h2 := sumF_bound f b hb l fun v hv => h v (by simp [hv])
    simp only [sumF, List.length_cons, Int.natCast_add, Int.mul_add]
    omega
def hiF (B : Int) (v : Val) : Int := v.num.tdiv B
def loF (B : Int) (v : Val) : Int := v.num.tmod B
def totS (l : List Val) : Int := sumF (fun v => v.num) l
theorem tot_parts (B : Int) : ∀ l : List Val, sumF (hiF B) l * B + sumF (loF B) l = totS l
  | [] => by simp [sumF, totS]
  | x :: l => by
    have h1 := Int.tdiv_mul_add_tmod x.num B
    have h2 := tot_parts B l
    simp only [totS, sumF, hiF, loF, Int.add_mul] at h1 h2 ⊢
    omega
theorem loF_lt (v : Val) (B : Int) (hB : 0 < B) : -(B - 1) ≤ loF B v ∧ loF B v ≤ B - 1 := by
  have h1 := Int.tmod_lt_of_pos v.num hB
  have h2 : -B < v.num.tmod B := by
    have := Int.tmod_lt_of_pos (-v.num) hB
    rw [Int.neg_tmod] at this
    omega
  unfold loF
  omega
theorem hiF_le (v : Val) (B : Int) (hB : 0 < B) (hv : okV v) (c : Int) (hc : 9223372036854775808 ≤ c * B) : -c ≤ hiF B v ∧ hiF B v ≤ c := by
  have h1 := Int.tdiv_mul_add_tmod v.num B
  have h2 := loF_lt v B hB
  have h3 := hv.1
  unfold i64 at h3
  unfold hiF loF at *
  constructor
  · refine Int.le_of_mul_le_mul_right (a := B) ?_ hB
    rw [Int.neg_mul]
    by_cases h4 : -c ≤ v.num.tdiv B
    · have := Int.mul_le_mul_of_nonneg_right h4 (Int.le_of_lt hB)
      rwa [Int.neg_mul] at this
    · have h5 : v.num.tdiv B + 1 ≤ -c := by omega
      have h6 := Int.mul_le_mul_of_nonneg_right h5 (Int.le_of_lt hB)
      rw [Int.add_mul, Int.neg_mul] at h6
      omega
  · refine Int.le_of_mul_le_mul_right (a := B) ?_ hB
    by_cases h4 : v.num.tdiv B ≤ c
    · exact Int.mul_le_mul_of_nonneg_right h4 (Int.le_of_lt hB)
    · have h5 : c + 1 ≤ v.num.tdiv B := by omega
      have h6 := Int.mul_le_mul_of_nonneg_right h5 (Int.le_of_lt hB)
      rw [Int.add_mul] at h6
      omega
def sumS (vs : List Val) : Val := if goodL vs = [] then nullV else if -1000000000000 ≤ totS (goodL vs) ∧ totS (goodL vs) ≤ 1000000000000 then ⟨1, totS (goodL vs), ByteArray.empty⟩ else nullV

theorem goodL_mem {vs : List Val} {v : Val} (h : v ∈ goodL vs) : v ∈ vs := (List.mem_filter.1 h).1
theorem delM_get (vs : List Val) {i : Nat} (h : i < (goodL vs).length) : (delM vs).getD i default = (goodL vs).getD i default := by
  simp only [delM, List.getD_eq_getElem?_getD]
  rw [List.getElem?_append_left h]

/-- A value as a result, with objects. -/
theorem ret_vO {p : Prop} {k n : Int} {s : ByteArray} {t : List (Nat × A)} {o os' : List (Nat × Ob)} {R : A} (hp : p) (hr : aV ⟨k, n, s⟩ = R) (ho : keepO (lookO o) (inO os') os') (hin : keepIn (inO os') o) :
    retx (some (p, .agg [.d (.lit (.int .i64 k)), .d (.lit (.int .i64 n)), .d (.lit (.string s))])) ⟨t, o⟩ R os' := by
  subst hr
  exact retx_of [0, 0, 0] rfl hp (by simp) rfl rfl ho hin
theorem c_sum (vs : List Val) (hl : vs.length ≤ 1000) (hv : ∀ v ∈ vs, okV v) :
    ACall Tryd.prog 24 [.sub 1000 vs.length 0 vs.length] [(1000, vecV vs)] (aV (sumS vs)) [(1000, vecV (delM vs))] := by
  refine ACall.enter mixed ttok Tryd.func24 rfl rfl _ Tryd.ntmps24 (Nat.le_of_ble_eq_true rfl) (by kernel_rfl) _ (congrArg Array.toList Tryd.results24) ?_
  generalize hr : aV (sumS vs) = R
  simp -implicitDefEqProofs only [argT, ↓steps, push_cast, reduceIte, Nat.reduceEqDiff, Nat.reduceAdd, Nat.reduceMul, Nat.reduceLT, Nat.reduceLeDiff, Int.reduceToNat, Int.reduceLE, Int.reduceLT, reduceCtorEq, tte, num, boo, str, ints, aV, aTab, aInst, aS, aT, aC, vecV]
  refine callx_of [[0], [0]] [(1000, 1000)] rfl (c_del vs (by omega)) (by first | (simp; done) | (simp [rowsOf_length]; done) | (simp [rowsOf_length]; omega)) (by first | (simp only [ends, ite_true, ite_false, reduceIte, Nat.reduceEqDiff, Nat.reduceLeDiff, Nat.reduceLT, Nat.reduceAdd, reduceCtorEq, num, boo, str, ints, aV, aTab, aInst, aS, aT, aC, vecV, num, boo, str, aE_eq, aV]; done) | simp [ends, ite_true, ite_false, reduceIte, Nat.reduceEqDiff, Nat.reduceLeDiff, Nat.reduceLT, Nat.reduceAdd, reduceCtorEq, num, boo, str, ints, aV, aTab, aInst, aS, aT, aC, vecV, num, boo, str, aE_eq, aV]) (by first | rfl | (simp only [ends, ite_true, ite_false, reduceIte, Nat.reduceEqDiff, Nat.reduceLeDiff, Nat.reduceLT, Nat.reduceAdd, reduceCtorEq, num, boo, str, ints, aV, aTab, aInst, aS, aT, aC, vecV, num, boo, str, aE_eq, aV]; done) | simp [ends, ite_true, ite_false, reduceIte, Nat.reduceEqDiff, Nat.reduceLeDiff, Nat.reduceLT, Nat.reduceAdd, reduceCtorEq, num, boo, str, ints, aV, aTab, aInst, aS, aT, aC, vecV, num, boo, str, aE_eq, aV]) (by simp only [ends, ite_true, ite_false, reduceIte, Nat.reduceEqDiff, Nat.reduceLeDiff, Nat.reduceLT, Nat.reduceAdd, reduceCtorEq, num, boo, str, ints, aV, aTab, aInst, aS, aT, aC, vecV]) (by simp [idsOk, lookO, updO, ren1]) ?_
  simp -implicitDefEqProofs only [↓steps, push_cast, reduceIte, Nat.reduceEqDiff, Nat.reduceAdd, Nat.reduceMul, Nat.reduceLT, Nat.reduceLeDiff, Int.reduceToNat, Int.reduceLE, Int.reduceLT, reduceCtorEq, tte, num, boo, str, ints, aV, aTab, aInst, aS, aT, aC, vecV]
  have hdl : (delM vs).length = vs.length := by simp only [delM, List.length_append, List.length_replicate]; have := goodL_len vs; omega
  have hgl := goodL_len vs
  have hget := @delM_get vs
  have hok : ∀ v ∈ goodL vs, okV v := fun v h => hv v (goodL_mem h)
  unfold sumS at hr
  generalize goodL vs = G at hr hgl hget hok ⊢
  generalize delM vs = l at hget hdl ⊢
  simp only [hdl]
  refine ⟨trivial, ?_⟩
  refine bcase_intro (fun hz => ?_) fun hz => ?_
  · have hG : G = [] := List.eq_nil_of_length_eq_zero (by simpa using hz)
    rw [if_pos hG] at hr
    exact ret_vO (by first | trivial | (simp; done) | (simp; omega)) (by rw [← hr] <;> first | rfl | (simp [nullV]; done) | (simp_all [nullV]; done)) (by simp [ends, ite_true, ite_false, reduceIte, Nat.reduceEqDiff, Nat.reduceLeDiff, Nat.reduceLT, Nat.reduceAdd, reduceCtorEq, num, boo, str, ints, aV, aTab, aInst, aS, aT, aC, vecV]) (by simp [ends, ite_true, ite_false, reduceIte, Nat.reduceEqDiff, Nat.reduceLeDiff, Nat.reduceLT, Nat.reduceAdd, reduceCtorEq, num, boo, str, ints, aV, aTab, aInst, aS, aT, aC, vecV])
  have hG : ¬ G = [] := by rintro rfl; simp at hz
  rw [if_neg hG] at hr
  refine ⟨trivial, ?_⟩
  have hbH : ∀ n, n ≤ G.length → -8589934592000 ≤ sumF (hiF 1073741824) (G.take n) ∧ sumF (hiF 1073741824) (G.take n) ≤ 8589934592000 := fun n hn => by
    have := sumF_bound (hiF 1073741824) 8589934592 (by decide) (G.take n) fun v h => hiF_le v _ (by decide) (hok v (List.mem_of_mem_take h)) _ (by decide)
    rw [List.length_take, Nat.min_eq_left hn] at this
    omega
  have hbL : ∀ n, n ≤ G.length → -1073741823000 ≤ sumF (loF 1073741824) (G.take n) ∧ sumF (loF 1073741824) (G.take n) ≤ 1073741823000 := fun n hn => by
    have := sumF_bound (loF 1073741824) 1073741823 (by decide) (G.take n) fun v h => loF_lt v _ (by decide)
    rw [List.length_take, Nat.min_eq_left hn] at this
    omega
  refine loop_gen mixed ttok (fun n : Nat => (⟨[(17, .d (.lit (.int .i64 n))), (3, .d (.lit (.int .i64 (sumF (hiF 1073741824) (G.take n))))), (4, .d (.lit (.int .i64 (sumF (loF 1073741824) (G.take n))))), (16, .d (.lit (.int .i64 G.length))), (15, .sub 1000 vs.length 0 G.length), (2, .ptr 2 0)], [(2, .var [.d (.lit (.int .i64 0)), .d (.lit (.int .i64 0)), .d (.lit (.string ByteArray.empty))]), (1000, .vec 42 3 (rowsOf rV l) 0)]⟩ : SL)) (fun n => G.length - n) (fun n => n ≤ G.length) 0 (Nat.zero_le _) ?_ ?_
  · exact Weak.keepL (by simp [sumF, ends, ite_true, ite_false, reduceIte, Nat.reduceEqDiff, Nat.reduceLeDiff, Nat.reduceLT, Nat.reduceAdd, reduceCtorEq, num, boo, str, ints, aV, aTab, aInst, aS, aT, aC, vecV]) (by simp [ends, ite_true, ite_false, reduceIte, Nat.reduceEqDiff, Nat.reduceLeDiff, Nat.reduceLT, Nat.reduceAdd, reduceCtorEq, num, boo, str, ints, aV, aTab, aInst, aS, aT, aC, vecV]) (by simp [ends, ite_true, ite_false, reduceIte, Nat.reduceEqDiff, Nat.reduceLeDiff, Nat.reduceLT, Nat.reduceAdd, reduceCtorEq, num, boo, str, ints, aV, aTab, aInst, aS, aT, aC, vecV])
  intro I hI n hn
  simp -implicitDefEqProofs only [↓steps, push_cast, reduceIte, Nat.reduceEqDiff, Nat.reduceAdd, Nat.reduceMul, Nat.reduceLT, Nat.reduceLeDiff, Int.reduceToNat, Int.reduceLE, Int.reduceLT, reduceCtorEq, tte, num, boo, str, ints, aV, aTab, aInst, aS, aT, aC, vecV]
  refine bcase_intro (fun h => ?_) fun h => ?_
  · simp only [decide_eq_true_eq] at h
    have h' : n < G.length := by omega
    have hw := wrap_succ h' (by omega)
    have hgn := hget h'
    have b1 := hbH n hn
    have b2 := hbL n hn
    have b3 := hbH (n + 1) h'
    have b4 := hbL (n + 1) h'
    have s1 : sumF (hiF 1073741824) (G.take (n + 1)) = sumF (hiF 1073741824) (G.take n) + (l.getD n default).num.tdiv 1073741824 := by rw [take_snoc _ _ h', sumF_snoc, hgn]; rfl
    have s2 : sumF (loF 1073741824) (G.take (n + 1)) = sumF (loF 1073741824) (G.take n) + (l.getD n default).num.tmod 1073741824 := by rw [take_snoc _ _ h', sumF_snoc, hgn]; rfl
    have w1 := wrap_eq (n := (l.getD n default).num.tdiv 1073741824) (by omega) (by omega)
    have w2 := wrap_eq (n := sumF (hiF 1073741824) (G.take n) + (l.getD n default).num.tdiv 1073741824) (by omega) (by omega)
    have w3 := wrap_eq (n := sumF (loF 1073741824) (G.take n) + (l.getD n default).num.tmod 1073741824) (by omega) (by omega)
    refine ⟨⟨⟨by omega, h⟩, hdl.symm⟩, by omega, hdl.symm, by decide, by decide, drawx_intro (by kernel_rfl), ?_⟩
    exact gen_again hI (n + 1) h' (by show G.length - (n + 1) < G.length - n; omega) (Weak.keepL (by simp only [w1, w2, w3, s1, s2, hw, ends, ite_true, ite_false, reduceIte, Nat.reduceEqDiff, Nat.reduceLeDiff, Nat.reduceLT, Nat.reduceAdd, reduceCtorEq, num, boo, str, ints, aV, aTab, aInst, aS, aT, aC, vecV]) (by simp [ends, ite_true, ite_false, reduceIte, Nat.reduceEqDiff, Nat.reduceLeDiff, Nat.reduceLT, Nat.reduceAdd, reduceCtorEq, num, boo, str, ints, aV, aTab, aInst, aS, aT, aC, vecV]) (by simp [ends, ite_true, ite_false, reduceIte, Nat.reduceEqDiff, Nat.reduceLeDiff, Nat.reduceLT, Nat.reduceAdd, reduceCtorEq, num, boo, str, ints, aV, aTab, aInst, aS, aT, aC, vecV]))
  · simp only [decide_eq_false_iff_not] at h
    obtain rfl : n = G.length := by omega
    have b1 := hbH _ (Nat.le_refl _)
    have b2 := hbL _ (Nat.le_refl _)
    have hT := tot_parts 1073741824 G
    simp only [List.take_length] at b1 b2 ⊢
    generalize sumF (hiF 1073741824) G = H at b1 hT ⊢
    generalize sumF (loF 1073741824) G = L at b2 hT ⊢
    have e1 := Int.tdiv_mul_add_tmod L 1073741824
    have e2 : -1073741823000 ≤ L.tdiv 1073741824 ∧ L.tdiv 1073741824 ≤ 1073741823000 := by
      have := Int.natAbs_tdiv_le_natAbs L 1073741824
      omega
    have e3 : -1073741823 ≤ L.tmod 1073741824 ∧ L.tmod 1073741824 ≤ 1073741823 := by
      have := loF_lt ⟨0, L, ByteArray.empty⟩ 1073741824 (by decide)
      exact this
    generalize L.tdiv 1073741824 = q at e1 e2 ⊢
    generalize L.tmod 1073741824 = lo at e1 e3 ⊢
    have w1 := wrap_eq (n := q) (by omega) (by omega)
    have w2 := wrap_eq (n := H + q) (by omega) (by omega)
    have w3 : IntKind.i64.wrap (0 - 932) = -932 := wrap_eq (by decide) (by decide)
    refine ⟨by decide, by decide, ?_⟩
    simp only [w1, w2, w3]
    generalize hhi : H + q = hi at w2 ⊢
    have hT2 : totS G = hi * 1073741824 + lo := by rw [← hhi, Int.add_mul]; omega
    rw [hT2] at hr
    refine bcase_intro (fun h1 => ?_) fun h1 => ?_
    · simp only [decide_eq_true_eq] at h1
      rw [if_neg (by omega)] at hr
      exact ret_vO (by first | trivial | (simp; done) | (simp; omega)) (by rw [← hr] <;> first | rfl | (simp [nullV]; done) | (simp_all [nullV]; done)) (by simp [ends, ite_true, ite_false, reduceIte, Nat.reduceEqDiff, Nat.reduceLeDiff, Nat.reduceLT, Nat.reduceAdd, reduceCtorEq, num, boo, str, ints, aV, aTab, aInst, aS, aT, aC, vecV]) (by simp [ends, ite_true, ite_false, reduceIte, Nat.reduceEqDiff, Nat.reduceLeDiff, Nat.reduceLT, Nat.reduceAdd, reduceCtorEq, num, boo, str, ints, aV, aTab, aInst, aS, aT, aC, vecV])
    refine bcase_intro (fun h2 => ?_) fun h2 => ?_
    · simp only [decide_eq_true_eq, gt_iff_lt] at h2
      rw [if_neg (by omega)] at hr
      exact ret_vO (by first | trivial | (simp; done) | (simp; omega)) (by rw [← hr] <;> first | rfl | (simp [nullV]; done) | (simp_all [nullV]; done)) (by simp [ends, ite_true, ite_false, reduceIte, Nat.reduceEqDiff, Nat.reduceLeDiff, Nat.reduceLT, Nat.reduceAdd, reduceCtorEq, num, boo, str, ints, aV, aTab, aInst, aS, aT, aC, vecV]) (by simp [ends, ite_true, ite_false, reduceIte, Nat.reduceEqDiff, Nat.reduceLeDiff, Nat.reduceLT, Nat.reduceAdd, reduceCtorEq, num, boo, str, ints, aV, aTab, aInst, aS, aT, aC, vecV])
    simp only [decide_eq_false_iff_not, gt_iff_lt] at h1 h2
    have w4 := wrap_eq (n := hi * 1073741824) (by omega) (by omega)
    have w5 := wrap_eq (n := hi * 1073741824 + lo) (by omega) (by omega)
    simp only [w4, w5]
    refine callx_of [[0, 0, 0]] [] rfl (c_valid ⟨1, hi * 1073741824 + lo, ByteArray.empty⟩) (by first | (simp; done) | (simp [rowsOf_length]; done) | (simp [rowsOf_length]; omega)) (by first | (simp only [ends, ite_true, ite_false, reduceIte, Nat.reduceEqDiff, Nat.reduceLeDiff, Nat.reduceLT, Nat.reduceAdd, reduceCtorEq, num, boo, str, ints, aV, aTab, aInst, aS, aT, aC, vecV, num, boo, str, aE_eq, aV]; done) | simp [ends, ite_true, ite_false, reduceIte, Nat.reduceEqDiff, Nat.reduceLeDiff, Nat.reduceLT, Nat.reduceAdd, reduceCtorEq, num, boo, str, ints, aV, aTab, aInst, aS, aT, aC, vecV, num, boo, str, aE_eq, aV]) (by first | rfl | (simp only [ends, ite_true, ite_false, reduceIte, Nat.reduceEqDiff, Nat.reduceLeDiff, Nat.reduceLT, Nat.reduceAdd, reduceCtorEq, num, boo, str, ints, aV, aTab, aInst, aS, aT, aC, vecV, num, boo, str, aE_eq, aV]; done) | simp [ends, ite_true, ite_false, reduceIte, Nat.reduceEqDiff, Nat.reduceLeDiff, Nat.reduceLT, Nat.reduceAdd, reduceCtorEq, num, boo, str, ints, aV, aTab, aInst, aS, aT, aC, vecV, num, boo, str, aE_eq, aV]) (by simp only [ends, ite_true, ite_false, reduceIte, Nat.reduceEqDiff, Nat.reduceLeDiff, Nat.reduceLT, Nat.reduceAdd, reduceCtorEq, num, boo, str, ints, aV, aTab, aInst, aS, aT, aC, vecV]) (by simp [idsOk, lookO, updO, ren1]) ?_
    simp -implicitDefEqProofs only [↓steps, push_cast, reduceIte, Nat.reduceEqDiff, Nat.reduceAdd, Nat.reduceMul, Nat.reduceLT, Nat.reduceLeDiff, Int.reduceToNat, Int.reduceLE, Int.reduceLT, reduceCtorEq, tte, num, boo, str, ints, aV, aTab, aInst, aS, aT, aC, vecV]
    have hval : validM ⟨1, hi * 1073741824 + lo, ByteArray.empty⟩ = (decide (-1000000000000 ≤ hi * 1073741824 + lo) && decide (hi * 1073741824 + lo ≤ 1000000000000)) := by
      simp [validM, empty_list]
    rw [hval]
    by_cases hin : -1000000000000 ≤ hi * 1073741824 + lo ∧ hi * 1073741824 + lo ≤ 1000000000000
    · rw [if_pos hin] at hr
      rw [decide_eq_true hin.1, decide_eq_true hin.2]
      refine bcase_intro (fun h => absurd h (by decide)) fun _ => ?_
      exact ret_vO (by first | trivial | (simp; done) | (simp; omega)) (by rw [← hr] <;> first | rfl | (simp [nullV]; done) | (simp_all [nullV]; done)) (by simp [ends, ite_true, ite_false, reduceIte, Nat.reduceEqDiff, Nat.reduceLeDiff, Nat.reduceLT, Nat.reduceAdd, reduceCtorEq, num, boo, str, ints, aV, aTab, aInst, aS, aT, aC, vecV]) (by simp [ends, ite_true, ite_false, reduceIte, Nat.reduceEqDiff, Nat.reduceLeDiff, Nat.reduceLT, Nat.reduceAdd, reduceCtorEq, num, boo, str, ints, aV, aTab, aInst, aS, aT, aC, vecV])
    · rw [if_neg hin] at hr
      refine bcase_intro (fun _ => ?_) fun h => absurd h ?_
      · exact ret_vO (by first | trivial | (simp; done) | (simp; omega)) (by rw [← hr] <;> first | rfl | (simp [nullV]; done) | (simp_all [nullV]; done)) (by simp [ends, ite_true, ite_false, reduceIte, Nat.reduceEqDiff, Nat.reduceLeDiff, Nat.reduceLT, Nat.reduceAdd, reduceCtorEq, num, boo, str, ints, aV, aTab, aInst, aS, aT, aC, vecV]) (by simp [ends, ite_true, ite_false, reduceIte, Nat.reduceEqDiff, Nat.reduceLeDiff, Nat.reduceLT, Nat.reduceAdd, reduceCtorEq, num, boo, str, ints, aV, aTab, aInst, aS, aT, aC, vecV])
      · intro h3
        simp at h3
        exact hin h3
end Go.Proofs.YtkccdfaelbepeaaDoor

namespace Go.Proofs.YtkccdfaelbepeaaDoor
open Go.Am
set_option linter.unusedVariables false
set_option maxRecDepth 100000
set_option maxHeartbeats 4000000

theorem c_copied (r : List Val) (hl : r.length ≤ 1000000) : ACall Tryd.prog 61 [aRow r] [] (aRow r) [] := by
  suffices hS : ∀ R, aRow r = R → ACall Tryd.prog 61 [aRow r] [] R [] from hS _ rfl
  intro R hr
  refine ACall.enter mixed ttok Tryd.func61 rfl rfl _ Tryd.ntmps61 (Nat.le_of_ble_eq_true rfl) (by kernel_rfl) _ (congrArg Array.toList Tryd.results61) ?_
  simp -implicitDefEqProofs only [argT, ↓steps, push_cast, reduceIte, Nat.reduceEqDiff, Nat.reduceAdd, Nat.reduceMul, Nat.reduceLT, Nat.reduceLeDiff, Int.reduceToNat, Int.reduceLE, Int.reduceLT, reduceCtorEq, tte, num, boo, str, ints, aV, aTab, aInst, aS, aT, aC, aRow, rRow]
  refine ⟨⟨by omega, Int.le_refl _, by omega⟩, by simp, ?_⟩
  subst hr
  refine retx_of [3] rfl (by simp) (by first | (simp; done) | (simp [rowsOf_length]; done) | (simp [rowsOf_length]; omega)) ?_ (by first | rfl | simp only [ends, ite_true, ite_false, reduceIte, Nat.reduceEqDiff, Nat.reduceLeDiff, Nat.reduceLT, Nat.reduceAdd, reduceCtorEq, num, boo, str, ints, aV, aTab, aInst, aS, aT, aC, aRow, rRow] | (subst_vars; simp only [ends, ite_true, ite_false, reduceIte, Nat.reduceEqDiff, Nat.reduceLeDiff, Nat.reduceLT, Nat.reduceAdd, reduceCtorEq, num, boo, str, ints, aV, aTab, aInst, aS, aT, aC, aRow, rRow])) (by simp only [ends, ite_true, ite_false, reduceIte, Nat.reduceEqDiff, Nat.reduceLeDiff, Nat.reduceLT, Nat.reduceAdd, reduceCtorEq, num, boo, str, ints, aV, aTab, aInst, aS, aT, aC, aRow, rRow]) (by simp only [ends, ite_true, ite_false, reduceIte, Nat.reduceEqDiff, Nat.reduceLeDiff, Nat.reduceLT, Nat.reduceAdd, reduceCtorEq, num, boo, str, ints, aV, aTab, aInst, aS, aT, aC, aRow, rRow])
  rfl

/-- Rows in their order. -/
def cmpR : List Val → List Val → Int
  | [], [] => 0
  | [], _ :: _ => -1
  | _ :: _, [] => 1
  | x :: a, y :: b => if cmpM x y ≠ 0 then cmpM x y else cmpR a b

theorem cmpR_end {a b : List Val} {n : Nat} (ha : n ≤ a.length) (hb : n ≤ b.length) (h : n = a.length ∨ n = b.length) :
    cmpR (a.drop n) (b.drop n) = if a.length < b.length then -1 else if a.length > b.length then 1 else 0 := by
  rcases h with rfl | rfl
  · rw [List.drop_length]
    by_cases h2 : a.length < b.length
    · rw [drop_cons _ _ h2, if_pos h2]; rfl
    · have : b.drop a.length = [] := List.drop_eq_nil_of_le (by omega)
      rw [this, if_neg h2, if_neg (by omega)]; rfl
  · rw [List.drop_length]
    by_cases h2 : b.length < a.length
    · rw [drop_cons _ _ h2, if_neg (by omega), if_pos h2]; rfl
    · have : a.drop b.length = [] := List.drop_eq_nil_of_le (by omega)
      rw [this, if_neg (by omega), if_neg (by omega)]; rfl
theorem c_cmpRows (a b : List Val) (ha : a.length ≤ 1000000) : ACall Tryd.prog 62 [aRow a, aRow b] [] (num (cmpR a b)) [] := by
  refine ACall.enter mixed ttok Tryd.func62 rfl rfl _ Tryd.ntmps62 (Nat.le_of_ble_eq_true rfl) (by kernel_rfl) _ (congrArg Array.toList Tryd.results62) ?_
  generalize hr : num (cmpR a b) = R
  simp -implicitDefEqProofs only [argT, ↓steps, push_cast, reduceIte, Nat.reduceEqDiff, Nat.reduceAdd, Nat.reduceMul, Nat.reduceLT, Nat.reduceLeDiff, Int.reduceToNat, Int.reduceLE, Int.reduceLT, reduceCtorEq, tte, num, boo, str, ints, aV, aTab, aInst, aS, aT, aC, aRow, rRow]
  refine loop_gen mixed ttok (fun n : Nat => (⟨[(5, .d (.lit (.int .i64 n))), (0, aRow a), (1, aRow b)], []⟩ : SL)) (fun n => a.length - n) (fun n => n ≤ a.length ∧ n ≤ b.length ∧ cmpR (a.drop n) (b.drop n) = cmpR a b) 0 ⟨Nat.zero_le _, Nat.zero_le _, rfl⟩ ?_ ?_
  · exact Weak.keepL (by simp [ends, ite_true, ite_false, reduceIte, Nat.reduceEqDiff, Nat.reduceLeDiff, Nat.reduceLT, Nat.reduceAdd, reduceCtorEq, num, boo, str, ints, aV, aTab, aInst, aS, aT, aC, aRow, rRow]) (by simp [ends, ite_true, ite_false, reduceIte, Nat.reduceEqDiff, Nat.reduceLeDiff, Nat.reduceLT, Nat.reduceAdd, reduceCtorEq, num, boo, str, ints, aV, aTab, aInst, aS, aT, aC, aRow, rRow]) (by simp [ends, ite_true, ite_false, reduceIte, Nat.reduceEqDiff, Nat.reduceLeDiff, Nat.reduceLT, Nat.reduceAdd, reduceCtorEq, num, boo, str, ints, aV, aTab, aInst, aS, aT, aC, aRow, rRow])
  intro I hI n ⟨hn, hn2, hi⟩
  simp -implicitDefEqProofs only [↓steps, push_cast, reduceIte, Nat.reduceEqDiff, Nat.reduceAdd, Nat.reduceMul, Nat.reduceLT, Nat.reduceLeDiff, Int.reduceToNat, Int.reduceLE, Int.reduceLT, reduceCtorEq, tte, num, boo, str, ints, aV, aTab, aInst, aS, aT, aC, aRow, rRow]
  refine bcase_intro (fun h1 => ?_) fun h1 => ?_
  · simp only [decide_eq_true_eq] at h1
    have h1' : n < a.length := by omega
    refine bcase_intro (fun h2 => ?_) fun h2 => ?_
    · simp only [decide_eq_true_eq] at h2
      have h2' : n < b.length := by omega
      have hw := wrap_succ h1' (by omega)
      rw [drop_cons _ _ h1', drop_cons _ _ h2', cmpR] at hi
      refine ⟨⟨by omega, h1⟩, ⟨by omega, h2⟩, ?_⟩
      refine callx_of [[0, 0, 0], [0, 0, 0]] [] rfl (c_rcompare (a.getD n default) (b.getD n default)) (by first | (simp; done) | (simp [rowsOf_length]; done) | (simp [rowsOf_length]; omega)) (by first | (simp only [ends, ite_true, ite_false, reduceIte, Nat.reduceEqDiff, Nat.reduceLeDiff, Nat.reduceLT, Nat.reduceAdd, reduceCtorEq, num, boo, str, ints, aV, aTab, aInst, aS, aT, aC, aRow, rRow, num, boo, str, aE_eq, aV]; done) | simp [ends, ite_true, ite_false, reduceIte, Nat.reduceEqDiff, Nat.reduceLeDiff, Nat.reduceLT, Nat.reduceAdd, reduceCtorEq, num, boo, str, ints, aV, aTab, aInst, aS, aT, aC, aRow, rRow, num, boo, str, aE_eq, aV]) (by first | rfl | (simp only [ends, ite_true, ite_false, reduceIte, Nat.reduceEqDiff, Nat.reduceLeDiff, Nat.reduceLT, Nat.reduceAdd, reduceCtorEq, num, boo, str, ints, aV, aTab, aInst, aS, aT, aC, aRow, rRow, num, boo, str, aE_eq, aV]; done) | simp [ends, ite_true, ite_false, reduceIte, Nat.reduceEqDiff, Nat.reduceLeDiff, Nat.reduceLT, Nat.reduceAdd, reduceCtorEq, num, boo, str, ints, aV, aTab, aInst, aS, aT, aC, aRow, rRow, num, boo, str, aE_eq, aV]) (by simp only [ends, ite_true, ite_false, reduceIte, Nat.reduceEqDiff, Nat.reduceLeDiff, Nat.reduceLT, Nat.reduceAdd, reduceCtorEq, num, boo, str, ints, aV, aTab, aInst, aS, aT, aC, aRow, rRow]) (by simp [idsOk, lookO, updO, ren1]) ?_
      simp -implicitDefEqProofs only [↓steps, push_cast, reduceIte, Nat.reduceEqDiff, Nat.reduceAdd, Nat.reduceMul, Nat.reduceLT, Nat.reduceLeDiff, Int.reduceToNat, Int.reduceLE, Int.reduceLT, reduceCtorEq, tte, num, boo, str, ints, aV, aTab, aInst, aS, aT, aC, aRow, rRow]
      refine ⟨drawx_intro (by kernel_rfl), ?_⟩
      refine bcase_intro (fun g => ?_) fun g => ?_
      · rw [if_pos (by simpa using g)] at hi
        exact ret_d trivial (by rw [← hr, ← hi]; rfl) (by simp only [ends, ite_true, ite_false, reduceIte, Nat.reduceEqDiff, Nat.reduceLeDiff, Nat.reduceLT, Nat.reduceAdd, reduceCtorEq, num, boo, str, ints, aV, aTab, aInst, aS, aT, aC, aRow, rRow])
      · rw [if_neg (by simpa using g)] at hi
        exact gen_again hI (n + 1) ⟨h1', h2', hi⟩ (by show a.length - (n + 1) < a.length - n; omega) (Weak.keepL (by simp [hw, ends, ite_true, ite_false, reduceIte, Nat.reduceEqDiff, Nat.reduceLeDiff, Nat.reduceLT, Nat.reduceAdd, reduceCtorEq, num, boo, str, ints, aV, aTab, aInst, aS, aT, aC, aRow, rRow]) (by simp [ends, ite_true, ite_false, reduceIte, Nat.reduceEqDiff, Nat.reduceLeDiff, Nat.reduceLT, Nat.reduceAdd, reduceCtorEq, num, boo, str, ints, aV, aTab, aInst, aS, aT, aC, aRow, rRow]) (by simp [ends, ite_true, ite_false, reduceIte, Nat.reduceEqDiff, Nat.reduceLeDiff, Nat.reduceLT, Nat.reduceAdd, reduceCtorEq, num, boo, str, ints, aV, aTab, aInst, aS, aT, aC, aRow, rRow]))
    · simp only [decide_eq_false_iff_not] at h2
      rw [cmpR_end hn hn2 (.inr (by omega))] at hi
      refine bcase_intro (fun k1 => ?_) fun k1 => ?_
      · simp only [decide_eq_true_eq] at k1
        exact ret_d trivial (by rw [← hr, ← hi, if_pos (by omega)]; rfl) (by simp only [ends, ite_true, ite_false, reduceIte, Nat.reduceEqDiff, Nat.reduceLeDiff, Nat.reduceLT, Nat.reduceAdd, reduceCtorEq, num, boo, str, ints, aV, aTab, aInst, aS, aT, aC, aRow, rRow])
      refine bcase_intro (fun k2 => ?_) fun k2 => ?_
      · simp only [decide_eq_false_iff_not, gt_iff_lt, decide_eq_true_eq] at k1 k2
        exact ret_d trivial (by rw [← hr, ← hi, if_neg (by omega), if_pos (by omega)]; rfl) (by simp only [ends, ite_true, ite_false, reduceIte, Nat.reduceEqDiff, Nat.reduceLeDiff, Nat.reduceLT, Nat.reduceAdd, reduceCtorEq, num, boo, str, ints, aV, aTab, aInst, aS, aT, aC, aRow, rRow])
      · simp only [decide_eq_false_iff_not, gt_iff_lt] at k1 k2
        exact ret_d trivial (by rw [← hr, ← hi, if_neg (by omega), if_neg (by omega)]; rfl) (by simp only [ends, ite_true, ite_false, reduceIte, Nat.reduceEqDiff, Nat.reduceLeDiff, Nat.reduceLT, Nat.reduceAdd, reduceCtorEq, num, boo, str, ints, aV, aTab, aInst, aS, aT, aC, aRow, rRow])
  · simp only [decide_eq_false_iff_not] at h1
    rw [cmpR_end hn hn2 (.inl (by omega))] at hi
    refine bcase_intro (fun k1 => ?_) fun k1 => ?_
    · simp only [decide_eq_true_eq] at k1
      exact ret_d trivial (by rw [← hr, ← hi, if_pos (by omega)]; rfl) (by simp only [ends, ite_true, ite_false, reduceIte, Nat.reduceEqDiff, Nat.reduceLeDiff, Nat.reduceLT, Nat.reduceAdd, reduceCtorEq, num, boo, str, ints, aV, aTab, aInst, aS, aT, aC, aRow, rRow])
    refine bcase_intro (fun k2 => ?_) fun k2 => ?_
    · simp only [decide_eq_false_iff_not, gt_iff_lt, decide_eq_true_eq] at k1 k2
      exact ret_d trivial (by rw [← hr, ← hi, if_neg (by omega), if_pos (by omega)]; rfl) (by simp only [ends, ite_true, ite_false, reduceIte, Nat.reduceEqDiff, Nat.reduceLeDiff, Nat.reduceLT, Nat.reduceAdd, reduceCtorEq, num, boo, str, ints, aV, aTab, aInst, aS, aT, aC, aRow, rRow])
    · simp only [decide_eq_false_iff_not, gt_iff_lt] at k1 k2
      exact ret_d trivial (by rw [← hr, ← hi, if_neg (by omega), if_neg (by omega)]; rfl) (by simp only [ends, ite_true, ite_false, reduceIte, Nat.reduceEqDiff, Nat.reduceLeDiff, Nat.reduceLT, Nat.reduceAdd, reduceCtorEq, num, boo, str, ints, aV, aTab, aInst, aS, aT, aC, aRow, rRow])
end Go.Proofs.YtkccdfaelbepeaaDoor

namespace Go.Proofs.YtkccdfaelbepeaaDoor
open Go.Am
set_option linter.unusedVariables false
set_option maxRecDepth 100000
set_option maxHeartbeats 4000000

def leR (x y : Row) : Bool := decide (cmpR x y ≤ 0)
def canF : Nat → List Row → List Row
  | 0, rows => rows
  | n + 1, rows => if rows.length < 2 then rows else List.merge (canF n (rows.take (rows.length / 2))) (canF n (rows.drop (rows.length / 2))) leR
theorem canF_perm : ∀ (n : Nat) (rows : List Row), (canF n rows).Perm rows
  | 0, rows => List.Perm.refl _
  | n + 1, rows => by
    rw [canF]
    split
    · exact List.Perm.refl _
    · refine (List.merge_perm_append leR).trans ?_
      refine ((canF_perm n _).append (canF_perm n _)).trans ?_
      rw [List.take_append_drop]
theorem canF_short (n : Nat) {rows : List Row} (h : rows.length < 2) : canF n rows = rows := by
  cases n with
  | zero => rfl
  | succ n => rw [canF, if_pos h]
theorem merge_l {α : Type} {x y : α} {a b : List α} {le : α → α → Bool} (h : le x y = true) : List.merge (x :: a) (y :: b) le = x :: List.merge a (y :: b) le := by
  rw [List.cons_merge_cons, if_pos h]
theorem merge_r {α : Type} {x y : α} {a b : List α} {le : α → α → Bool} (h : le x y = false) : List.merge (x :: a) (y :: b) le = y :: List.merge (x :: a) b le := by
  rw [List.cons_merge_cons, if_neg (by rw [h]; decide)]

theorem c_canon1 (rows : List Row) (h2 : rows.length < 2) (hr1 : ∀ r ∈ rows, r.length ≤ 1000) : ACall Tryd.prog 26 [aTab rows] [] (aTab rows) [] := by
  suffices hS : ∀ R, aTab rows = R → ACall Tryd.prog 26 [aTab rows] [] R [] from hS _ rfl
  intro R hr
  refine ACall.enter mixed ttok Tryd.func26 rfl rfl _ Tryd.ntmps26 (Nat.le_of_ble_eq_true rfl) (by kernel_rfl) _ (congrArg Array.toList Tryd.results26) ?_
  simp -implicitDefEqProofs only [argT, ↓steps, push_cast, reduceIte, Nat.reduceEqDiff, Nat.reduceAdd, Nat.reduceMul, Nat.reduceLT, Nat.reduceLeDiff, Int.reduceToNat, Int.reduceLE, Int.reduceLT, reduceCtorEq, tte, num, boo, str, ints, aV, aTab, aInst, aS, aT, aC, aRow, rRow]
  refine bcase_intro (fun _ => ?_) fun h => absurd h (by simp; omega)
  refine loop_gen mixed ttok (fun n : Nat => (⟨[(4, .d (.lit (.int .i64 n))), (3, .vec 500 n), (0, aTab rows)], [(500, .vec 54 1 (rowsOf rRow (rows.take n)) 0)]⟩ : SL)) (fun n => rows.length - n) (fun n => n ≤ rows.length) 0 (Nat.zero_le _) ?_ ?_
  · exact (Weak.nilL 3 500 54 1 rfl rfl).trans (Weak.keepL (by simp [ends, ite_true, ite_false, reduceIte, Nat.reduceEqDiff, Nat.reduceLeDiff, Nat.reduceLT, Nat.reduceAdd, reduceCtorEq, num, boo, str, ints, aV, aTab, aInst, aS, aT, aC, aRow, rRow]) (by simp [ends, ite_true, ite_false, reduceIte, Nat.reduceEqDiff, Nat.reduceLeDiff, Nat.reduceLT, Nat.reduceAdd, reduceCtorEq, num, boo, str, ints, aV, aTab, aInst, aS, aT, aC, aRow, rRow]) (by simp [ends, ite_true, ite_false, reduceIte, Nat.reduceEqDiff, Nat.reduceLeDiff, Nat.reduceLT, Nat.reduceAdd, reduceCtorEq, num, boo, str, ints, aV, aTab, aInst, aS, aT, aC, aRow, rRow]))
  intro I hI n hn
  have hl2 : (rows.take n).length = n := by simp; omega
  simp -implicitDefEqProofs only [↓steps, push_cast, reduceIte, Nat.reduceEqDiff, Nat.reduceAdd, Nat.reduceMul, Nat.reduceLT, Nat.reduceLeDiff, Int.reduceToNat, Int.reduceLE, Int.reduceLT, reduceCtorEq, tte, num, boo, str, ints, aV, aTab, aInst, aS, aT, aC, aRow, rRow]
  refine bcase_intro (fun h => ?_) fun h => ?_
  · simp only [decide_eq_true_eq] at h
    have h' : n < rows.length := by omega
    have hw := wrap_succ h' (by omega)
    refine ⟨⟨by omega, h⟩, ?_⟩
    refine callx_of [[3]] [] rfl (c_copied (rows.getD n default) (Nat.le_trans (hr1 _ (getD_mem h')) (by decide))) (by first | (simp; done) | (simp [rowsOf_length]; done) | (simp [rowsOf_length]; omega)) (by first | (simp only [ends, ite_true, ite_false, reduceIte, Nat.reduceEqDiff, Nat.reduceLeDiff, Nat.reduceLT, Nat.reduceAdd, reduceCtorEq, num, boo, str, ints, aV, aTab, aInst, aS, aT, aC, aRow, rRow, num, boo, str, aE_eq, aV]; done) | simp [ends, ite_true, ite_false, reduceIte, Nat.reduceEqDiff, Nat.reduceLeDiff, Nat.reduceLT, Nat.reduceAdd, reduceCtorEq, num, boo, str, ints, aV, aTab, aInst, aS, aT, aC, aRow, rRow, num, boo, str, aE_eq, aV]) (by first | rfl | (simp only [ends, ite_true, ite_false, reduceIte, Nat.reduceEqDiff, Nat.reduceLeDiff, Nat.reduceLT, Nat.reduceAdd, reduceCtorEq, num, boo, str, ints, aV, aTab, aInst, aS, aT, aC, aRow, rRow, num, boo, str, aE_eq, aV]; done) | simp [ends, ite_true, ite_false, reduceIte, Nat.reduceEqDiff, Nat.reduceLeDiff, Nat.reduceLT, Nat.reduceAdd, reduceCtorEq, num, boo, str, ints, aV, aTab, aInst, aS, aT, aC, aRow, rRow, num, boo, str, aE_eq, aV]) (by simp only [ends, ite_true, ite_false, reduceIte, Nat.reduceEqDiff, Nat.reduceLeDiff, Nat.reduceLT, Nat.reduceAdd, reduceCtorEq, num, boo, str, ints, aV, aTab, aInst, aS, aT, aC, aRow, rRow]) (by simp [idsOk, lookO, updO, ren1]) ?_
    simp -implicitDefEqProofs only [↓steps, push_cast, reduceIte, Nat.reduceEqDiff, Nat.reduceAdd, Nat.reduceMul, Nat.reduceLT, Nat.reduceLeDiff, Int.reduceToNat, Int.reduceLE, Int.reduceLT, reduceCtorEq, tte, num, boo, str, ints, aV, aTab, aInst, aS, aT, aC, aRow, rRow]
    have hrows : rowsOf rRow (rows.take (n + 1)) = rowsOf rRow (rows.take n) ++ [[.sl 3 (rowsOf rV (rows.getD n default))]] := by rw [take_snoc _ _ h', ← rowsOf_append]; rfl
    refine ⟨⟨hl2.symm, by omega⟩, ?_⟩
    exact gen_again hI (n + 1) h' (by show rows.length - (n + 1) < rows.length - n; omega) (Weak.keepL (by simp [hw, hl2, ends, ite_true, ite_false, reduceIte, Nat.reduceEqDiff, Nat.reduceLeDiff, Nat.reduceLT, Nat.reduceAdd, reduceCtorEq, num, boo, str, ints, aV, aTab, aInst, aS, aT, aC, aRow, rRow]) (by simp only [hrows, ends, ite_true, ite_false, reduceIte, Nat.reduceEqDiff, Nat.reduceLeDiff, Nat.reduceLT, Nat.reduceAdd, reduceCtorEq, num, boo, str, ints, aV, aTab, aInst, aS, aT, aC, aRow, rRow]) (by simp [ends, ite_true, ite_false, reduceIte, Nat.reduceEqDiff, Nat.reduceLeDiff, Nat.reduceLT, Nat.reduceAdd, reduceCtorEq, num, boo, str, ints, aV, aTab, aInst, aS, aT, aC, aRow, rRow]))
  · simp only [decide_eq_false_iff_not] at h
    obtain rfl : n = rows.length := by omega
    subst hr
    rw [List.take_length]
    refine retx_of [1] rfl (by simp) (by first | (simp; done) | (simp [rowsOf_length]; done) | (simp [rowsOf_length]; omega)) ?_ (by first | rfl | simp only [ends, ite_true, ite_false, reduceIte, Nat.reduceEqDiff, Nat.reduceLeDiff, Nat.reduceLT, Nat.reduceAdd, reduceCtorEq, num, boo, str, ints, aV, aTab, aInst, aS, aT, aC, aRow, rRow] | (subst_vars; simp only [ends, ite_true, ite_false, reduceIte, Nat.reduceEqDiff, Nat.reduceLeDiff, Nat.reduceLT, Nat.reduceAdd, reduceCtorEq, num, boo, str, ints, aV, aTab, aInst, aS, aT, aC, aRow, rRow])) (by simp only [ends, ite_true, ite_false, reduceIte, Nat.reduceEqDiff, Nat.reduceLeDiff, Nat.reduceLT, Nat.reduceAdd, reduceCtorEq, num, boo, str, ints, aV, aTab, aInst, aS, aT, aC, aRow, rRow]) (by simp only [ends, ite_true, ite_false, reduceIte, Nat.reduceEqDiff, Nat.reduceLeDiff, Nat.reduceLT, Nat.reduceAdd, reduceCtorEq, num, boo, str, ints, aV, aTab, aInst, aS, aT, aC, aRow, rRow])
    rfl

theorem c_canon2 (n : Nat) (rows : List Row) (h2 : ¬ rows.length < 2) (hl : rows.length ≤ 1000) (hr1 : ∀ r ∈ rows, r.length ≤ 1000)
    (ih1 : ACall Tryd.prog 26 [aTab (rows.take (rows.length / 2))] [] (aTab (canF n (rows.take (rows.length / 2)))) [])
    (ih2 : ACall Tryd.prog 26 [aTab (rows.drop (rows.length / 2))] [] (aTab (canF n (rows.drop (rows.length / 2)))) []) :
    ACall Tryd.prog 26 [aTab rows] [] (aTab (canF (n + 1) rows)) [] := by
  rw [canF, if_neg h2]
  have p1 := canF_perm n (rows.take (rows.length / 2))
  have p2 := canF_perm n (rows.drop (rows.length / 2))
  have l1 := p1.length_eq
  have l2 := p2.length_eq
  have m1 : ∀ r ∈ canF n (rows.take (rows.length / 2)), r.length ≤ 1000 := fun r h => hr1 r (List.mem_of_mem_take (p1.mem_iff.1 h))
  generalize canF n (rows.take (rows.length / 2)) = a at ih1 l1 m1 ⊢
  generalize canF n (rows.drop (rows.length / 2)) = b at ih2 l2 ⊢
  simp only [List.length_take, List.length_drop] at l1 l2
  refine ACall.enter mixed ttok Tryd.func26 rfl rfl _ Tryd.ntmps26 (Nat.le_of_ble_eq_true rfl) (by kernel_rfl) _ (congrArg Array.toList Tryd.results26) ?_
  generalize hr : aTab (List.merge a b leR) = R
  have hq : IntKind.i64.wrap ((rows.length : Int).tdiv 2) = ((rows.length / 2 : Nat) : Int) := by
    rw [Int.tdiv_eq_ediv_of_nonneg (by omega), wrap_eq (by omega) (by omega)]; omega
  generalize hm : rows.length / 2 = m at ih1 ih2 l1 l2 m1 hq
  simp -implicitDefEqProofs only [argT, hq, ↓steps, push_cast, reduceIte, Nat.reduceEqDiff, Nat.reduceAdd, Nat.reduceMul, Nat.reduceLT, Nat.reduceLeDiff, Int.reduceToNat, Int.reduceLE, Int.reduceLT, reduceCtorEq, tte, num, boo, str, ints, aV, aTab, aInst, aS, aT, aC, aRow, rRow]
  refine bcase_intro (fun h => absurd h (by simp; omega)) fun _ => ?_
  have hma : ((m : Int)).toNat = m := by omega
  refine ⟨by decide, ⟨by omega, by omega⟩, ?_⟩
  refine callx_of [[1]] [] rfl (ih1) (by first | (simp; done) | (simp [rowsOf_length]; done) | (simp [rowsOf_length]; omega)) (by first | (simp only [ends, ite_true, ite_false, reduceIte, Nat.reduceEqDiff, Nat.reduceLeDiff, Nat.reduceLT, Nat.reduceAdd, reduceCtorEq, num, boo, str, ints, aV, aTab, aInst, aS, aT, aC, aRow, rRow, num, boo, str, aE_eq, aV]; done) | simp [ends, ite_true, ite_false, reduceIte, Nat.reduceEqDiff, Nat.reduceLeDiff, Nat.reduceLT, Nat.reduceAdd, reduceCtorEq, num, boo, str, ints, aV, aTab, aInst, aS, aT, aC, aRow, rRow, num, boo, str, aE_eq, aV]) (by first | rfl | (simp only [ends, ite_true, ite_false, reduceIte, Nat.reduceEqDiff, Nat.reduceLeDiff, Nat.reduceLT, Nat.reduceAdd, reduceCtorEq, num, boo, str, ints, aV, aTab, aInst, aS, aT, aC, aRow, rRow, num, boo, str, aE_eq, aV]; done) | simp [ends, ite_true, ite_false, reduceIte, Nat.reduceEqDiff, Nat.reduceLeDiff, Nat.reduceLT, Nat.reduceAdd, reduceCtorEq, num, boo, str, ints, aV, aTab, aInst, aS, aT, aC, aRow, rRow, num, boo, str, aE_eq, aV]) (by simp only [ends, ite_true, ite_false, reduceIte, Nat.reduceEqDiff, Nat.reduceLeDiff, Nat.reduceLT, Nat.reduceAdd, reduceCtorEq, num, boo, str, ints, aV, aTab, aInst, aS, aT, aC, aRow, rRow]) (by simp [idsOk, lookO, updO, ren1]) ?_
  simp -implicitDefEqProofs only [hq, ↓steps, push_cast, reduceIte, Nat.reduceEqDiff, Nat.reduceAdd, Nat.reduceMul, Nat.reduceLT, Nat.reduceLeDiff, Int.reduceToNat, Int.reduceLE, Int.reduceLT, reduceCtorEq, tte, num, boo, str, ints, aV, aTab, aInst, aS, aT, aC, aRow, rRow]
  rw [List.take_length]
  refine ⟨by decide, ⟨by omega, by omega, by omega⟩, ?_⟩
  refine callx_of [[1]] [] rfl (ih2) (by first | (simp; done) | (simp [rowsOf_length]; done) | (simp [rowsOf_length]; omega)) (by first | (simp only [ends, ite_true, ite_false, reduceIte, Nat.reduceEqDiff, Nat.reduceLeDiff, Nat.reduceLT, Nat.reduceAdd, reduceCtorEq, num, boo, str, ints, aV, aTab, aInst, aS, aT, aC, aRow, rRow, num, boo, str, aE_eq, aV]; done) | simp [ends, ite_true, ite_false, reduceIte, Nat.reduceEqDiff, Nat.reduceLeDiff, Nat.reduceLT, Nat.reduceAdd, reduceCtorEq, num, boo, str, ints, aV, aTab, aInst, aS, aT, aC, aRow, rRow, num, boo, str, aE_eq, aV]) (by first | rfl | (simp only [ends, ite_true, ite_false, reduceIte, Nat.reduceEqDiff, Nat.reduceLeDiff, Nat.reduceLT, Nat.reduceAdd, reduceCtorEq, num, boo, str, ints, aV, aTab, aInst, aS, aT, aC, aRow, rRow, num, boo, str, aE_eq, aV]; done) | simp [ends, ite_true, ite_false, reduceIte, Nat.reduceEqDiff, Nat.reduceLeDiff, Nat.reduceLT, Nat.reduceAdd, reduceCtorEq, num, boo, str, ints, aV, aTab, aInst, aS, aT, aC, aRow, rRow, num, boo, str, aE_eq, aV]) (by simp only [ends, ite_true, ite_false, reduceIte, Nat.reduceEqDiff, Nat.reduceLeDiff, Nat.reduceLT, Nat.reduceAdd, reduceCtorEq, num, boo, str, ints, aV, aTab, aInst, aS, aT, aC, aRow, rRow]) (by simp [idsOk, lookO, updO, ren1]) ?_
  simp -implicitDefEqProofs only [↓steps, push_cast, reduceIte, Nat.reduceEqDiff, Nat.reduceAdd, Nat.reduceMul, Nat.reduceLT, Nat.reduceLeDiff, Int.reduceToNat, Int.reduceLE, Int.reduceLT, reduceCtorEq, tte, num, boo, str, ints, aV, aTab, aInst, aS, aT, aC, aRow, rRow]
  refine ⟨drawx_intro (by kernel_rfl), ?_⟩
  have ha : a.length ≤ 1000 := by omega
  have hb : b.length ≤ 1000 := by omega
  clear ih1 ih2 p1 p2
  refine loop_gen mixed ttok (fun x : Nat × Nat × List Row => (⟨[(8, .d (.lit (.int .i64 x.1))), (9, .d (.lit (.int .i64 x.2.1))), (7, .vec 500 x.2.2.length), (5, aTab a), (6, aTab b)], [(500, .vec 54 1 (rowsOf rRow x.2.2) 0)]⟩ : SL)) (fun x => a.length + b.length - (x.1 + x.2.1))
    (fun x => x.1 ≤ a.length ∧ x.2.1 ≤ b.length ∧ x.2.2.length = x.1 + x.2.1 ∧ x.2.2 ++ List.merge (a.drop x.1) (b.drop x.2.1) leR = List.merge a b leR) (0, 0, []) ⟨Nat.zero_le _, Nat.zero_le _, rfl, rfl⟩ ?_ ?_
  · exact (Weak.nilL 7 500 54 1 rfl rfl).trans (Weak.keepL (by simp [ends, ite_true, ite_false, reduceIte, Nat.reduceEqDiff, Nat.reduceLeDiff, Nat.reduceLT, Nat.reduceAdd, reduceCtorEq, num, boo, str, ints, aV, aTab, aInst, aS, aT, aC, aRow, rRow]) (by simp [ends, ite_true, ite_false, reduceIte, Nat.reduceEqDiff, Nat.reduceLeDiff, Nat.reduceLT, Nat.reduceAdd, reduceCtorEq, num, boo, str, ints, aV, aTab, aInst, aS, aT, aC, aRow, rRow]) (by simp [ends, ite_true, ite_false, reduceIte, Nat.reduceEqDiff, Nat.reduceLeDiff, Nat.reduceLT, Nat.reduceAdd, reduceCtorEq, num, boo, str, ints, aV, aTab, aInst, aS, aT, aC, aRow, rRow]))
  intro I hI ⟨i, k, out⟩ ⟨hi, hk, hol, hinv⟩
  simp only at hi hk hol hinv
  simp -implicitDefEqProofs only [↓steps, push_cast, reduceIte, Nat.reduceEqDiff, Nat.reduceAdd, Nat.reduceMul, Nat.reduceLT, Nat.reduceLeDiff, Int.reduceToNat, Int.reduceLE, Int.reduceLT, reduceCtorEq, tte, num, boo, str, ints, aV, aTab, aInst, aS, aT, aC, aRow, rRow]
  have hrows : ∀ r : Row, rowsOf rRow out ++ [[D.sl 3 (rowsOf rV r)]] = rowsOf rRow (out ++ [r]) := fun r => rowsOf_append rRow out [r]
  have hlen : ∀ r : Row, (out ++ [r]).length = out.length + 1 := fun r => by simp
  refine bcase_intro (fun h1 => ?_) fun h1 => ?_
  · simp only [decide_eq_true_eq] at h1
    have h1' : i < a.length := by omega
    have hwi := wrap_succ h1' (by omega)
    rw [drop_cons _ _ h1'] at hinv
    refine bcase_intro (fun g1 => ?_) fun g1 => ?_
    · have hkb : k = b.length := by simp at g1; omega
      have hinv2 : (out ++ [a.getD i default]) ++ List.merge (a.drop (i + 1)) (b.drop k) leR = List.merge a b leR := by
        have hbn : b.drop k = [] := List.drop_eq_nil_of_le (by omega)
        rw [hbn, List.merge_right] at hinv ⊢
        rw [← hinv, List.append_assoc]; rfl
      refine ⟨drawx_intro (by kernel_rfl), ⟨by omega, h1⟩, by omega, ?_⟩
      exact gen_again hI (i + 1, k, out ++ [a.getD i default]) ⟨h1', hk, by show (out ++ [a.getD i default]).length = i + 1 + k; rw [hlen]; omega, hinv2⟩ (by show a.length + b.length - (i + 1 + k) < a.length + b.length - (i + k); omega)
        (Weak.keepL (by simp [hwi, ends, ite_true, ite_false, reduceIte, Nat.reduceEqDiff, Nat.reduceLeDiff, Nat.reduceLT, Nat.reduceAdd, reduceCtorEq, num, boo, str, ints, aV, aTab, aInst, aS, aT, aC, aRow, rRow]) (by simp only [hrows, ends, ite_true, ite_false, reduceIte, Nat.reduceEqDiff, Nat.reduceLeDiff, Nat.reduceLT, Nat.reduceAdd, reduceCtorEq, num, boo, str, ints, aV, aTab, aInst, aS, aT, aC, aRow, rRow]) (by simp [ends, ite_true, ite_false, reduceIte, Nat.reduceEqDiff, Nat.reduceLeDiff, Nat.reduceLT, Nat.reduceAdd, reduceCtorEq, num, boo, str, ints, aV, aTab, aInst, aS, aT, aC, aRow, rRow]))
    · have hkb : k < b.length := by simp at g1; omega
      have hwk := wrap_succ hkb (by omega)
      rw [drop_cons _ _ hkb] at hinv
      refine bcase_intro (fun _ => ?_) (fun h => absurd h (by simp; omega))
      refine ⟨⟨by omega, h1⟩, ⟨by omega, by omega⟩, ?_⟩
      refine callx_of [[3], [3]] [] rfl (c_cmpRows (a.getD i default) (b.getD k default) (Nat.le_trans (m1 _ (getD_mem h1')) (by decide))) (by first | (simp; done) | (simp [rowsOf_length]; done) | (simp [rowsOf_length]; omega)) (by first | (simp only [ends, ite_true, ite_false, reduceIte, Nat.reduceEqDiff, Nat.reduceLeDiff, Nat.reduceLT, Nat.reduceAdd, reduceCtorEq, num, boo, str, ints, aV, aTab, aInst, aS, aT, aC, aRow, rRow, num, boo, str, aE_eq, aV]; done) | simp [ends, ite_true, ite_false, reduceIte, Nat.reduceEqDiff, Nat.reduceLeDiff, Nat.reduceLT, Nat.reduceAdd, reduceCtorEq, num, boo, str, ints, aV, aTab, aInst, aS, aT, aC, aRow, rRow, num, boo, str, aE_eq, aV]) (by first | rfl | (simp only [ends, ite_true, ite_false, reduceIte, Nat.reduceEqDiff, Nat.reduceLeDiff, Nat.reduceLT, Nat.reduceAdd, reduceCtorEq, num, boo, str, ints, aV, aTab, aInst, aS, aT, aC, aRow, rRow, num, boo, str, aE_eq, aV]; done) | simp [ends, ite_true, ite_false, reduceIte, Nat.reduceEqDiff, Nat.reduceLeDiff, Nat.reduceLT, Nat.reduceAdd, reduceCtorEq, num, boo, str, ints, aV, aTab, aInst, aS, aT, aC, aRow, rRow, num, boo, str, aE_eq, aV]) (by simp only [ends, ite_true, ite_false, reduceIte, Nat.reduceEqDiff, Nat.reduceLeDiff, Nat.reduceLT, Nat.reduceAdd, reduceCtorEq, num, boo, str, ints, aV, aTab, aInst, aS, aT, aC, aRow, rRow]) (by simp [idsOk, lookO, updO, ren1]) ?_
      simp -implicitDefEqProofs only [↓steps, push_cast, reduceIte, Nat.reduceEqDiff, Nat.reduceAdd, Nat.reduceMul, Nat.reduceLT, Nat.reduceLeDiff, Int.reduceToNat, Int.reduceLE, Int.reduceLT, reduceCtorEq, tte, num, boo, str, ints, aV, aTab, aInst, aS, aT, aC, aRow, rRow]
      refine ⟨drawx_intro (by kernel_rfl), ?_⟩
      have hle : decide (cmpR (a.getD i default) (b.getD k default) ≤ 0) = leR (a.getD i default) (b.getD k default) := rfl
      rw [hle]
      refine bcase_intro (fun g2 => ?_) fun g2 => ?_
      · rw [merge_l g2] at hinv
        refine ⟨⟨by omega, h1⟩, by omega, ?_⟩
        exact gen_again hI (i + 1, k, out ++ [a.getD i default]) ⟨h1', hk, by show (out ++ [a.getD i default]).length = i + 1 + k; rw [hlen]; omega, by show (out ++ [a.getD i default]) ++ List.merge (a.drop (i + 1)) (b.drop k) leR = List.merge a b leR; rw [drop_cons b k hkb, ← hinv, List.append_assoc]; rfl⟩ (by show a.length + b.length - (i + 1 + k) < a.length + b.length - (i + k); omega)
          (Weak.keepL (by simp [hwi, ends, ite_true, ite_false, reduceIte, Nat.reduceEqDiff, Nat.reduceLeDiff, Nat.reduceLT, Nat.reduceAdd, reduceCtorEq, num, boo, str, ints, aV, aTab, aInst, aS, aT, aC, aRow, rRow]) (by simp only [hrows, ends, ite_true, ite_false, reduceIte, Nat.reduceEqDiff, Nat.reduceLeDiff, Nat.reduceLT, Nat.reduceAdd, reduceCtorEq, num, boo, str, ints, aV, aTab, aInst, aS, aT, aC, aRow, rRow]) (by simp [ends, ite_true, ite_false, reduceIte, Nat.reduceEqDiff, Nat.reduceLeDiff, Nat.reduceLT, Nat.reduceAdd, reduceCtorEq, num, boo, str, ints, aV, aTab, aInst, aS, aT, aC, aRow, rRow]))
      · rw [merge_r g2] at hinv
        refine ⟨⟨by omega, by omega⟩, by omega, ?_⟩
        exact gen_again hI (i, k + 1, out ++ [b.getD k default]) ⟨hi, hkb, by show (out ++ [b.getD k default]).length = i + (k + 1); rw [hlen]; omega, by show (out ++ [b.getD k default]) ++ List.merge (a.drop i) (b.drop (k + 1)) leR = List.merge a b leR; rw [drop_cons a i h1', ← hinv, List.append_assoc]; rfl⟩ (by show a.length + b.length - (i + (k + 1)) < a.length + b.length - (i + k); omega)
          (Weak.keepL (by simp [hwk, ends, ite_true, ite_false, reduceIte, Nat.reduceEqDiff, Nat.reduceLeDiff, Nat.reduceLT, Nat.reduceAdd, reduceCtorEq, num, boo, str, ints, aV, aTab, aInst, aS, aT, aC, aRow, rRow]) (by simp only [hrows, ends, ite_true, ite_false, reduceIte, Nat.reduceEqDiff, Nat.reduceLeDiff, Nat.reduceLT, Nat.reduceAdd, reduceCtorEq, num, boo, str, ints, aV, aTab, aInst, aS, aT, aC, aRow, rRow]) (by simp [ends, ite_true, ite_false, reduceIte, Nat.reduceEqDiff, Nat.reduceLeDiff, Nat.reduceLT, Nat.reduceAdd, reduceCtorEq, num, boo, str, ints, aV, aTab, aInst, aS, aT, aC, aRow, rRow]))
  · simp only [decide_eq_false_iff_not] at h1
    have hia : i = a.length := by omega
    have han : a.drop i = [] := List.drop_eq_nil_of_le (by omega)
    rw [han, List.nil_merge] at hinv
    refine bcase_intro (fun g1 => ?_) fun g1 => ?_
    · simp only [decide_eq_true_eq] at g1
      have hkb : k < b.length := by omega
      have hwk := wrap_succ hkb (by omega)
      rw [drop_cons _ _ hkb] at hinv
      refine bcase_intro (fun h => absurd h (by simp; omega)) (fun _ => ?_)
      refine bcase_intro (fun h => absurd h (by simp; omega)) (fun _ => ?_)
      refine ⟨drawx_intro (by kernel_rfl), ⟨by omega, by omega⟩, by omega, ?_⟩
      exact gen_again hI (i, k + 1, out ++ [b.getD k default]) ⟨hi, hkb, by show (out ++ [b.getD k default]).length = i + (k + 1); rw [hlen]; omega, by show (out ++ [b.getD k default]) ++ List.merge (a.drop i) (b.drop (k + 1)) leR = List.merge a b leR; rw [han, List.nil_merge, ← hinv, List.append_assoc]; rfl⟩ (by show a.length + b.length - (i + (k + 1)) < a.length + b.length - (i + k); omega)
        (Weak.keepL (by simp [hwk, ends, ite_true, ite_false, reduceIte, Nat.reduceEqDiff, Nat.reduceLeDiff, Nat.reduceLT, Nat.reduceAdd, reduceCtorEq, num, boo, str, ints, aV, aTab, aInst, aS, aT, aC, aRow, rRow]) (by simp only [hrows, ends, ite_true, ite_false, reduceIte, Nat.reduceEqDiff, Nat.reduceLeDiff, Nat.reduceLT, Nat.reduceAdd, reduceCtorEq, num, boo, str, ints, aV, aTab, aInst, aS, aT, aC, aRow, rRow]) (by simp [ends, ite_true, ite_false, reduceIte, Nat.reduceEqDiff, Nat.reduceLeDiff, Nat.reduceLT, Nat.reduceAdd, reduceCtorEq, num, boo, str, ints, aV, aTab, aInst, aS, aT, aC, aRow, rRow]))
    · simp only [decide_eq_false_iff_not] at g1
      have hkb : k = b.length := by omega
      have hbn : b.drop k = [] := List.drop_eq_nil_of_le (by omega)
      rw [hbn, List.append_nil] at hinv
      subst hr
      refine retx_of [1] rfl (by simp) (by first | (simp; done) | (simp [rowsOf_length]; done) | (simp [rowsOf_length]; omega)) ?_ (by first | rfl | simp only [ends, ite_true, ite_false, reduceIte, Nat.reduceEqDiff, Nat.reduceLeDiff, Nat.reduceLT, Nat.reduceAdd, reduceCtorEq, num, boo, str, ints, aV, aTab, aInst, aS, aT, aC, aRow, rRow] | (subst_vars; simp only [ends, ite_true, ite_false, reduceIte, Nat.reduceEqDiff, Nat.reduceLeDiff, Nat.reduceLT, Nat.reduceAdd, reduceCtorEq, num, boo, str, ints, aV, aTab, aInst, aS, aT, aC, aRow, rRow])) (by simp only [ends, ite_true, ite_false, reduceIte, Nat.reduceEqDiff, Nat.reduceLeDiff, Nat.reduceLT, Nat.reduceAdd, reduceCtorEq, num, boo, str, ints, aV, aTab, aInst, aS, aT, aC, aRow, rRow]) (by simp only [ends, ite_true, ite_false, reduceIte, Nat.reduceEqDiff, Nat.reduceLeDiff, Nat.reduceLT, Nat.reduceAdd, reduceCtorEq, num, boo, str, ints, aV, aTab, aInst, aS, aT, aC, aRow, rRow])
      rw [← hinv]
      rfl
theorem c_canon : ∀ (n : Nat) (rows : List Row), rows.length ≤ n + 1 → rows.length ≤ 1000 → (∀ r ∈ rows, r.length ≤ 1000) → ACall Tryd.prog 26 [aTab rows] [] (aTab (canF n rows)) []
  | 0, rows, hn, hl, hr1 => by
    rw [canF_short 0 (by omega)]; exact c_canon1 rows (by omega) hr1
  | n + 1, rows, hn, hl, hr1 => by
    by_cases h2 : rows.length < 2
    · rw [canF_short _ h2]; exact c_canon1 rows h2 hr1
    exact c_canon2 n rows h2 hl hr1 (c_canon n (rows.take (rows.length / 2)) (by simp; omega) (by simp; omega) (fun r h => hr1 r (List.mem_of_mem_take h)))
      (c_canon n (rows.drop (rows.length / 2)) (by simp; omega) (by simp; omega) (fun r h => hr1 r (List.mem_of_mem_drop h)))
end Go.Proofs.YtkccdfaelbepeaaDoor

namespace Go.Proofs.YtkccdfaelbepeaaDoor
open Go.Am
set_option linter.unusedVariables false
set_option maxRecDepth 100000
set_option maxHeartbeats 4000000

structure Grp where
  row : Row
  m : Int
  n : Int
instance : Inhabited Grp := ⟨⟨[], 0, 0⟩⟩
def rG (g : Grp) : List D := [.sl 3 (rowsOf rV g.row), .lit (.int .i64 g.m), .lit (.int .i64 g.n)]
theorem cmpR_self : ∀ a : Row, cmpR a a = 0
  | [] => rfl
  | x :: a => by rw [cmpR, (cmpM_eq x x).2 rfl, if_neg (by decide)]; exact cmpR_self a
/-- How many rows ahead are alike. -/
def cntR (r : Row) (l : List Row) : Nat := (l.takeWhile fun x => cmpR x r == 0).length
theorem cntR_le (r : Row) (l : List Row) : cntR r l ≤ l.length := by
  unfold cntR
  exact (List.takeWhile_prefix _).length_le
theorem cntR_in (r : Row) : ∀ (l : List Row) (j : Nat), j < cntR r l → cmpR (l.getD j default) r = 0
  | [], j, h => by simp [cntR] at h
  | x :: l, j, h => by
    unfold cntR at h
    rw [List.takeWhile_cons] at h
    split at h
    · rename_i hx
      cases j with
      | zero => simpa using hx
      | succ j => simpa using cntR_in r l j (by unfold cntR; simpa using h)
    · simp at h
theorem cntR_out (r : Row) : ∀ (l : List Row), cntR r l < l.length → cmpR (l.getD (cntR r l) default) r ≠ 0
  | [], h => by simp at h
  | x :: l, h => by
    unfold cntR at h ⊢
    rw [List.takeWhile_cons] at h ⊢
    split at h
    · rename_i hx
      rw [if_pos hx]
      have h3 := cntR_out r l (by unfold cntR; simpa using h)
      unfold cntR at h3
      simpa using h3
    · rename_i hx
      rw [if_neg hx]
      simpa using hx
theorem cntR_pos (r : Row) (l : List Row) : 0 < cntR r (r :: l) := by
  unfold cntR
  rw [List.takeWhile_cons, if_pos (by simp [cmpR_self])]
  simp
def grpF : Nat → List Row → List Grp
  | 0, _ => []
  | _ + 1, [] => []
  | n + 1, r :: l => ⟨r, cntR r (r :: l), 0⟩ :: grpF n ((r :: l).drop (cntR r (r :: l)))
theorem grpF_fuel : ∀ (n m : Nat) (l : List Row), l.length ≤ n → l.length ≤ m → grpF n l = grpF m l
  | 0, m, l, h1, h2 => by
    have : l = [] := List.eq_nil_of_length_eq_zero (by omega)
    subst this
    cases m <;> rfl
  | n + 1, 0, l, h1, h2 => by
    have : l = [] := List.eq_nil_of_length_eq_zero (by omega)
    subst this
    rfl
  | n + 1, m + 1, [], _, _ => rfl
  | n + 1, m + 1, r :: l, h1, h2 => by
    have := cntR_pos r l
    simp only [List.length_cons] at h1 h2
    rw [grpF, grpF, grpF_fuel n m _ (by simp; omega) (by simp; omega)]
def grpM (l : List Row) : List Grp := grpF l.length l
theorem grpM_nil : grpM [] = [] := rfl
theorem grpM_cons (r : Row) (l : List Row) : grpM (r :: l) = ⟨r, cntR r (r :: l), 0⟩ :: grpM ((r :: l).drop (cntR r (r :: l))) := by
  have := cntR_pos r l
  unfold grpM
  rw [List.length_cons, grpF, grpF_fuel l.length _ _ (by simp; omega) (Nat.le_refl _)]
theorem grpM_length : ∀ (n : Nat) (l : List Row), l.length ≤ n → (grpM l).length ≤ l.length
  | n, [], _ => Nat.le_refl _
  | 0, r :: l, h => by simp at h
  | n + 1, r :: l, h => by
    have := cntR_pos r l
    have h2 := grpM_length n ((r :: l).drop (cntR r (r :: l))) (by simp at h ⊢; omega)
    rw [grpM_cons]
    simp only [List.length_cons, List.length_drop] at h2 ⊢
    omega

theorem c_groups (rows : List Row) (hl : rows.length ≤ 1000) (hr1 : ∀ r ∈ rows, r.length ≤ 1000) :
    ACall Tryd.prog 111 [aTab rows, aTab []] [] (.d (.sl 3 (rowsOf rG (grpM (canF rows.length rows))))) [] := by
  refine ACall.enter mixed ttok Tryd.func111 rfl rfl _ Tryd.ntmps111 (Nat.le_of_ble_eq_true rfl) (by kernel_rfl) _ (congrArg Array.toList Tryd.results111) ?_
  have ih1 := c_canon rows.length rows (by omega) hl hr1
  have p1 := canF_perm rows.length rows
  have l1 := p1.length_eq
  have m1 : ∀ r ∈ canF rows.length rows, r.length ≤ 1000 := fun r h => hr1 r (p1.mem_iff.1 h)
  generalize canF rows.length rows = X at ih1 l1 m1 ⊢
  generalize hr : A.d (D.sl 3 (rowsOf rG (grpM X))) = R
  simp -implicitDefEqProofs only [argT, ↓steps, push_cast, reduceIte, Nat.reduceEqDiff, Nat.reduceAdd, Nat.reduceMul, Nat.reduceLT, Nat.reduceLeDiff, Int.reduceToNat, Int.reduceLE, Int.reduceLT, reduceCtorEq, tte, num, boo, str, ints, aV, aTab, aInst, aS, aT, aC, aRow, rRow, rG]
  refine callx_of [[1]] [] rfl (ih1) (by first | (simp; done) | (simp [rowsOf_length]; done) | (simp [rowsOf_length]; omega)) (by first | (simp only [ends, ite_true, ite_false, reduceIte, Nat.reduceEqDiff, Nat.reduceLeDiff, Nat.reduceLT, Nat.reduceAdd, reduceCtorEq, num, boo, str, ints, aV, aTab, aInst, aS, aT, aC, aRow, rRow, rG, num, boo, str, aE_eq, aV]; done) | simp [ends, ite_true, ite_false, reduceIte, Nat.reduceEqDiff, Nat.reduceLeDiff, Nat.reduceLT, Nat.reduceAdd, reduceCtorEq, num, boo, str, ints, aV, aTab, aInst, aS, aT, aC, aRow, rRow, rG, num, boo, str, aE_eq, aV]) (by first | rfl | (simp only [ends, ite_true, ite_false, reduceIte, Nat.reduceEqDiff, Nat.reduceLeDiff, Nat.reduceLT, Nat.reduceAdd, reduceCtorEq, num, boo, str, ints, aV, aTab, aInst, aS, aT, aC, aRow, rRow, rG, num, boo, str, aE_eq, aV]; done) | simp [ends, ite_true, ite_false, reduceIte, Nat.reduceEqDiff, Nat.reduceLeDiff, Nat.reduceLT, Nat.reduceAdd, reduceCtorEq, num, boo, str, ints, aV, aTab, aInst, aS, aT, aC, aRow, rRow, rG, num, boo, str, aE_eq, aV]) (by simp only [ends, ite_true, ite_false, reduceIte, Nat.reduceEqDiff, Nat.reduceLeDiff, Nat.reduceLT, Nat.reduceAdd, reduceCtorEq, num, boo, str, ints, aV, aTab, aInst, aS, aT, aC, aRow, rRow, rG]) (by simp [idsOk, lookO, updO, ren1]) ?_
  simp -implicitDefEqProofs only [↓steps, push_cast, reduceIte, Nat.reduceEqDiff, Nat.reduceAdd, Nat.reduceMul, Nat.reduceLT, Nat.reduceLeDiff, Int.reduceToNat, Int.reduceLE, Int.reduceLT, reduceCtorEq, tte, num, boo, str, ints, aV, aTab, aInst, aS, aT, aC, aRow, rRow, rG]
  refine callx_of [[1]] [] rfl (c_canon 0 [] (by decide) (by decide) (fun r h => by cases h)) (by first | (simp; done) | (simp [rowsOf_length]; done) | (simp [rowsOf_length]; omega)) (by first | (simp only [ends, ite_true, ite_false, reduceIte, Nat.reduceEqDiff, Nat.reduceLeDiff, Nat.reduceLT, Nat.reduceAdd, reduceCtorEq, num, boo, str, ints, aV, aTab, aInst, aS, aT, aC, aRow, rRow, rG, num, boo, str, aE_eq, aV]; done) | simp [ends, ite_true, ite_false, reduceIte, Nat.reduceEqDiff, Nat.reduceLeDiff, Nat.reduceLT, Nat.reduceAdd, reduceCtorEq, num, boo, str, ints, aV, aTab, aInst, aS, aT, aC, aRow, rRow, rG, num, boo, str, aE_eq, aV]) (by first | rfl | (simp only [ends, ite_true, ite_false, reduceIte, Nat.reduceEqDiff, Nat.reduceLeDiff, Nat.reduceLT, Nat.reduceAdd, reduceCtorEq, num, boo, str, ints, aV, aTab, aInst, aS, aT, aC, aRow, rRow, rG, num, boo, str, aE_eq, aV]; done) | simp [ends, ite_true, ite_false, reduceIte, Nat.reduceEqDiff, Nat.reduceLeDiff, Nat.reduceLT, Nat.reduceAdd, reduceCtorEq, num, boo, str, ints, aV, aTab, aInst, aS, aT, aC, aRow, rRow, rG, num, boo, str, aE_eq, aV]) (by simp only [ends, ite_true, ite_false, reduceIte, Nat.reduceEqDiff, Nat.reduceLeDiff, Nat.reduceLT, Nat.reduceAdd, reduceCtorEq, num, boo, str, ints, aV, aTab, aInst, aS, aT, aC, aRow, rRow, rG]) (by simp [idsOk, lookO, updO, ren1]) ?_
  simp -implicitDefEqProofs only [canF, ↓steps, push_cast, reduceIte, Nat.reduceEqDiff, Nat.reduceAdd, Nat.reduceMul, Nat.reduceLT, Nat.reduceLeDiff, Int.reduceToNat, Int.reduceLE, Int.reduceLT, reduceCtorEq, tte, num, boo, str, ints, aV, aTab, aInst, aS, aT, aC, aRow, rRow, rG]
  have hX : X.length ≤ 1000 := by omega
  clear ih1 p1
  refine loop_gen mixed ttok (fun x : Nat × List Grp => (⟨[(8, .d (.lit (.int .i64 x.1))), (9, .d (.lit (.int .i64 0))), (7, .vec 500 x.2.length), (5, aTab X), (6, aTab [])], [(500, .vec 138 3 (rowsOf rG x.2) 0)]⟩ : SL)) (fun x => X.length - x.1)
    (fun x => x.1 ≤ X.length ∧ x.2.length ≤ x.1 ∧ x.2 ++ grpM (X.drop x.1) = grpM X) (0, []) ⟨Nat.zero_le _, Nat.le_refl _, rfl⟩ ?_ ?_
  · exact (Weak.nilL 7 500 138 3 rfl rfl).trans (Weak.keepL (by simp [ends, ite_true, ite_false, reduceIte, Nat.reduceEqDiff, Nat.reduceLeDiff, Nat.reduceLT, Nat.reduceAdd, reduceCtorEq, num, boo, str, ints, aV, aTab, aInst, aS, aT, aC, aRow, rRow, rG]) (by simp [ends, ite_true, ite_false, reduceIte, Nat.reduceEqDiff, Nat.reduceLeDiff, Nat.reduceLT, Nat.reduceAdd, reduceCtorEq, num, boo, str, ints, aV, aTab, aInst, aS, aT, aC, aRow, rRow, rG]) (by simp [ends, ite_true, ite_false, reduceIte, Nat.reduceEqDiff, Nat.reduceLeDiff, Nat.reduceLT, Nat.reduceAdd, reduceCtorEq, num, boo, str, ints, aV, aTab, aInst, aS, aT, aC, aRow, rRow, rG]))
  intro I hI ⟨i, out⟩ ⟨hi, hol, hinv⟩
  simp only at hi hol hinv
  simp -implicitDefEqProofs only [↓steps, push_cast, reduceIte, Nat.reduceEqDiff, Nat.reduceAdd, Nat.reduceMul, Nat.reduceLT, Nat.reduceLeDiff, Int.reduceToNat, Int.reduceLE, Int.reduceLT, reduceCtorEq, tte, num, boo, str, ints, aV, aTab, aInst, aS, aT, aC, aRow, rRow, rG]
  refine bcase_intro (fun h1 => ?_) fun h1 => ?_
  · simp only [decide_eq_true_eq] at h1
    have h1' : i < X.length := by omega
    have hdr := drop_cons X i h1'
    have hmr := m1 _ (getD_mem h1')
    rw [hdr, grpM_cons, ← hdr] at hinv
    rw [List.drop_drop] at hinv
    have hcl := cntR_le (X.getD i default) (X.drop i)
    have hcp := cntR_pos (X.getD i default) (X.drop (i + 1))
    rw [← hdr] at hcp
    simp only [List.length_drop] at hcl
    have hcin := cntR_in (X.getD i default) (X.drop i)
    have hcout := cntR_out (X.getD i default) (X.drop i)
    simp only [List.length_drop] at hcout
    generalize cntR (X.getD i default) (X.drop i) = c at hinv hcl hcp hcin hcout
    have hget : ∀ j, (X.drop i).getD j default = X.getD (i + j) default := fun j => by simp [List.getD_eq_getElem?_getD]
    simp only [hget] at hcin hcout
    refine ⟨drawx_intro (by kernel_rfl), ⟨by omega, h1⟩, ?_⟩
    generalize hrr : X.getD i default = r at hinv hcin hcout hmr ⊢
    refine loop_gen mixed ttok (fun x : Nat × Nat => (⟨[(8, .d (.lit (.int .i64 x.1))), (9, .d (.lit (.int .i64 0))), (7, .vec 500 out.length), (5, aTab X), (6, aTab []), (10, aRow r), (11, .ptr 11 0)], [(11, .var [.d (.sl 3 (rowsOf rV r)), .d (.lit (.int .i64 x.2)), .d (.lit (.int .i64 0))]), (500, .vec 138 3 (rowsOf rG out) 0)]⟩ : SL)) (fun x => c - x.2)
      (fun x => x.2 ≤ c ∧ x.1 = i + x.2) (i, 0) ⟨Nat.zero_le _, rfl⟩ ?_ ?_
    · exact Weak.keepL (by simp [ends, ite_true, ite_false, reduceIte, Nat.reduceEqDiff, Nat.reduceLeDiff, Nat.reduceLT, Nat.reduceAdd, reduceCtorEq, num, boo, str, ints, aV, aTab, aInst, aS, aT, aC, aRow, rRow, rG]) (by simp [ends, ite_true, ite_false, reduceIte, Nat.reduceEqDiff, Nat.reduceLeDiff, Nat.reduceLT, Nat.reduceAdd, reduceCtorEq, num, boo, str, ints, aV, aTab, aInst, aS, aT, aC, aRow, rRow, rG]) (by simp [ends, ite_true, ite_false, reduceIte, Nat.reduceEqDiff, Nat.reduceLeDiff, Nat.reduceLT, Nat.reduceAdd, reduceCtorEq, num, boo, str, ints, aV, aTab, aInst, aS, aT, aC, aRow, rRow, rG])
    intro J hJ ⟨q, j⟩ ⟨hj, hq⟩
    simp only at hj hq
    simp -implicitDefEqProofs only [↓steps, push_cast, reduceIte, Nat.reduceEqDiff, Nat.reduceAdd, Nat.reduceMul, Nat.reduceLT, Nat.reduceLeDiff, Int.reduceToNat, Int.reduceLE, Int.reduceLT, reduceCtorEq, tte, num, boo, str, ints, aV, aTab, aInst, aS, aT, aC, aRow, rRow, rG]
    refine bcase_intro (fun g1 => ?_) fun g1 => ?_
    · simp only [decide_eq_true_eq] at g1
      have hwq := wrap_succ (N := X.length) (n := q) (by omega) (by omega)
      have hwj := wrap_succ (N := X.length) (n := j) (by omega) (by omega)
      refine ⟨⟨by omega, g1⟩, ?_⟩
      refine callx_of [[3], [3]] [] rfl (c_cmpRows (X.getD q default) r (Nat.le_trans (m1 _ (getD_mem (by omega))) (by decide))) (by first | (simp; done) | (simp [rowsOf_length]; done) | (simp [rowsOf_length]; omega)) (by first | (simp only [ends, ite_true, ite_false, reduceIte, Nat.reduceEqDiff, Nat.reduceLeDiff, Nat.reduceLT, Nat.reduceAdd, reduceCtorEq, num, boo, str, ints, aV, aTab, aInst, aS, aT, aC, aRow, rRow, rG, num, boo, str, aE_eq, aV]; done) | simp [ends, ite_true, ite_false, reduceIte, Nat.reduceEqDiff, Nat.reduceLeDiff, Nat.reduceLT, Nat.reduceAdd, reduceCtorEq, num, boo, str, ints, aV, aTab, aInst, aS, aT, aC, aRow, rRow, rG, num, boo, str, aE_eq, aV]) (by first | rfl | (simp only [ends, ite_true, ite_false, reduceIte, Nat.reduceEqDiff, Nat.reduceLeDiff, Nat.reduceLT, Nat.reduceAdd, reduceCtorEq, num, boo, str, ints, aV, aTab, aInst, aS, aT, aC, aRow, rRow, rG, num, boo, str, aE_eq, aV]; done) | simp [ends, ite_true, ite_false, reduceIte, Nat.reduceEqDiff, Nat.reduceLeDiff, Nat.reduceLT, Nat.reduceAdd, reduceCtorEq, num, boo, str, ints, aV, aTab, aInst, aS, aT, aC, aRow, rRow, rG, num, boo, str, aE_eq, aV]) (by simp only [ends, ite_true, ite_false, reduceIte, Nat.reduceEqDiff, Nat.reduceLeDiff, Nat.reduceLT, Nat.reduceAdd, reduceCtorEq, num, boo, str, ints, aV, aTab, aInst, aS, aT, aC, aRow, rRow, rG]) (by simp [idsOk, lookO, updO, ren1]) ?_
      simp -implicitDefEqProofs only [↓steps, push_cast, reduceIte, Nat.reduceEqDiff, Nat.reduceAdd, Nat.reduceMul, Nat.reduceLT, Nat.reduceLeDiff, Int.reduceToNat, Int.reduceLE, Int.reduceLT, reduceCtorEq, tte, num, boo, str, ints, aV, aTab, aInst, aS, aT, aC, aRow, rRow, rG]
      refine bcase_intro (fun g2 => ?_) fun g2 => ?_
      · have hjc : j < c := by
          rcases Nat.lt_or_ge j c with h | h
          · exact h
          · exfalso
            have hjc : j = c := by omega
            rw [hq, hjc] at g2
            exact hcout (by omega) (by simpa using g2)
        exact gen_again hJ (q + 1, j + 1) ⟨hjc, by show q + 1 = i + (j + 1); omega⟩ (by show c - (j + 1) < c - j; omega) (Weak.keepL (by simp [hwq, ends, ite_true, ite_false, reduceIte, Nat.reduceEqDiff, Nat.reduceLeDiff, Nat.reduceLT, Nat.reduceAdd, reduceCtorEq, num, boo, str, ints, aV, aTab, aInst, aS, aT, aC, aRow, rRow, rG]) (by simp [hwj, ends, ite_true, ite_false, reduceIte, Nat.reduceEqDiff, Nat.reduceLeDiff, Nat.reduceLT, Nat.reduceAdd, reduceCtorEq, num, boo, str, ints, aV, aTab, aInst, aS, aT, aC, aRow, rRow, rG]) (by simp [ends, ite_true, ite_false, reduceIte, Nat.reduceEqDiff, Nat.reduceLeDiff, Nat.reduceLT, Nat.reduceAdd, reduceCtorEq, num, boo, str, ints, aV, aTab, aInst, aS, aT, aC, aRow, rRow, rG]))
      · have hjc : j = c := by
          rcases Nat.lt_or_ge j c with h | h
          · have := hcin j h
            rw [← hq] at this
            rw [this] at g2
            exact absurd g2 (by decide)
          · omega
        refine loop_gen mixed ttok (fun _ : Unit => (⟨[(8, .d (.lit (.int .i64 q))), (9, .d (.lit (.int .i64 0))), (7, .vec 500 out.length), (5, aTab X), (6, aTab []), (10, aRow r), (11, .ptr 11 0)], [(11, .var [.d (.sl 3 (rowsOf rV r)), .d (.lit (.int .i64 j)), .d (.lit (.int .i64 0))]), (500, .vec 138 3 (rowsOf rG out) 0)]⟩ : SL)) (fun _ => 0)
          (fun _ => True) () trivial ?_ ?_
        · exact Weak.keepL (by simp [ends, ite_true, ite_false, reduceIte, Nat.reduceEqDiff, Nat.reduceLeDiff, Nat.reduceLT, Nat.reduceAdd, reduceCtorEq, num, boo, str, ints, aV, aTab, aInst, aS, aT, aC, aRow, rRow, rG]) (by simp [ends, ite_true, ite_false, reduceIte, Nat.reduceEqDiff, Nat.reduceLeDiff, Nat.reduceLT, Nat.reduceAdd, reduceCtorEq, num, boo, str, ints, aV, aTab, aInst, aS, aT, aC, aRow, rRow, rG]) (by simp [ends, ite_true, ite_false, reduceIte, Nat.reduceEqDiff, Nat.reduceLeDiff, Nat.reduceLT, Nat.reduceAdd, reduceCtorEq, num, boo, str, ints, aV, aTab, aInst, aS, aT, aC, aRow, rRow, rG])
        intro L hL _ _
        simp -implicitDefEqProofs only [↓steps, push_cast, reduceIte, Nat.reduceEqDiff, Nat.reduceAdd, Nat.reduceMul, Nat.reduceLT, Nat.reduceLeDiff, Int.reduceToNat, Int.reduceLE, Int.reduceLT, reduceCtorEq, tte, num, boo, str, ints, aV, aTab, aInst, aS, aT, aC, aRow, rRow, rG]
        subst hjc
        have hrows : rowsOf rG out ++ [[D.sl 3 (rowsOf rV r), D.lit (.int .i64 (j : Int)), D.lit (.int .i64 0)]] = rowsOf rG (out ++ [⟨r, j, 0⟩]) := rowsOf_append rG out [⟨r, j, 0⟩]
        refine ⟨by omega, ?_⟩
        exact gen_again hI (q, out ++ [⟨r, j, 0⟩]) ⟨by show q ≤ X.length; omega, by show (out ++ [(⟨r, j, 0⟩ : Grp)]).length ≤ q; simp; omega, by show (out ++ [(⟨r, j, 0⟩ : Grp)]) ++ grpM (X.drop q) = grpM X; rw [hq, ← hinv, List.append_assoc]; rfl⟩ (by show X.length - q < X.length - i; omega)
          (Weak.keepL (by simp [ends, ite_true, ite_false, reduceIte, Nat.reduceEqDiff, Nat.reduceLeDiff, Nat.reduceLT, Nat.reduceAdd, reduceCtorEq, num, boo, str, ints, aV, aTab, aInst, aS, aT, aC, aRow, rRow, rG]) (by simp only [hrows, ends, ite_true, ite_false, reduceIte, Nat.reduceEqDiff, Nat.reduceLeDiff, Nat.reduceLT, Nat.reduceAdd, reduceCtorEq, num, boo, str, ints, aV, aTab, aInst, aS, aT, aC, aRow, rRow, rG]) (by simp [ends, ite_true, ite_false, reduceIte, Nat.reduceEqDiff, Nat.reduceLeDiff, Nat.reduceLT, Nat.reduceAdd, reduceCtorEq, num, boo, str, ints, aV, aTab, aInst, aS, aT, aC, aRow, rRow, rG]))
    · simp only [decide_eq_false_iff_not] at g1
      have hjc : j = c := by omega
      refine loop_gen mixed ttok (fun _ : Unit => (⟨[(8, .d (.lit (.int .i64 q))), (9, .d (.lit (.int .i64 0))), (7, .vec 500 out.length), (5, aTab X), (6, aTab []), (10, aRow r), (11, .ptr 11 0)], [(11, .var [.d (.sl 3 (rowsOf rV r)), .d (.lit (.int .i64 j)), .d (.lit (.int .i64 0))]), (500, .vec 138 3 (rowsOf rG out) 0)]⟩ : SL)) (fun _ => 0)
        (fun _ => True) () trivial ?_ ?_
      · exact Weak.keepL (by simp [ends, ite_true, ite_false, reduceIte, Nat.reduceEqDiff, Nat.reduceLeDiff, Nat.reduceLT, Nat.reduceAdd, reduceCtorEq, num, boo, str, ints, aV, aTab, aInst, aS, aT, aC, aRow, rRow, rG]) (by simp [ends, ite_true, ite_false, reduceIte, Nat.reduceEqDiff, Nat.reduceLeDiff, Nat.reduceLT, Nat.reduceAdd, reduceCtorEq, num, boo, str, ints, aV, aTab, aInst, aS, aT, aC, aRow, rRow, rG]) (by simp [ends, ite_true, ite_false, reduceIte, Nat.reduceEqDiff, Nat.reduceLeDiff, Nat.reduceLT, Nat.reduceAdd, reduceCtorEq, num, boo, str, ints, aV, aTab, aInst, aS, aT, aC, aRow, rRow, rG])
      intro L hL _ _
      simp -implicitDefEqProofs only [↓steps, push_cast, reduceIte, Nat.reduceEqDiff, Nat.reduceAdd, Nat.reduceMul, Nat.reduceLT, Nat.reduceLeDiff, Int.reduceToNat, Int.reduceLE, Int.reduceLT, reduceCtorEq, tte, num, boo, str, ints, aV, aTab, aInst, aS, aT, aC, aRow, rRow, rG]
      subst hjc
      have hrows : rowsOf rG out ++ [[D.sl 3 (rowsOf rV r), D.lit (.int .i64 (j : Int)), D.lit (.int .i64 0)]] = rowsOf rG (out ++ [⟨r, j, 0⟩]) := rowsOf_append rG out [⟨r, j, 0⟩]
      refine ⟨by omega, ?_⟩
      exact gen_again hI (q, out ++ [⟨r, j, 0⟩]) ⟨by show q ≤ X.length; omega, by show (out ++ [(⟨r, j, 0⟩ : Grp)]).length ≤ q; simp; omega, by show (out ++ [(⟨r, j, 0⟩ : Grp)]) ++ grpM (X.drop q) = grpM X; rw [hq, ← hinv, List.append_assoc]; rfl⟩ (by show X.length - q < X.length - i; omega)
        (Weak.keepL (by simp [ends, ite_true, ite_false, reduceIte, Nat.reduceEqDiff, Nat.reduceLeDiff, Nat.reduceLT, Nat.reduceAdd, reduceCtorEq, num, boo, str, ints, aV, aTab, aInst, aS, aT, aC, aRow, rRow, rG]) (by simp only [hrows, ends, ite_true, ite_false, reduceIte, Nat.reduceEqDiff, Nat.reduceLeDiff, Nat.reduceLT, Nat.reduceAdd, reduceCtorEq, num, boo, str, ints, aV, aTab, aInst, aS, aT, aC, aRow, rRow, rG]) (by simp [ends, ite_true, ite_false, reduceIte, Nat.reduceEqDiff, Nat.reduceLeDiff, Nat.reduceLT, Nat.reduceAdd, reduceCtorEq, num, boo, str, ints, aV, aTab, aInst, aS, aT, aC, aRow, rRow, rG]))
  · simp only [decide_eq_false_iff_not] at h1
    have hx : X.drop i = [] := List.drop_eq_nil_of_le (by omega)
    rw [hx, grpM_nil, List.append_nil] at hinv
    subst hr
    refine retx_of [3] rfl (by simp) (by first | (simp; done) | (simp [rowsOf_length]; done) | (simp [rowsOf_length]; omega)) ?_ (by first | rfl | simp only [ends, ite_true, ite_false, reduceIte, Nat.reduceEqDiff, Nat.reduceLeDiff, Nat.reduceLT, Nat.reduceAdd, reduceCtorEq, num, boo, str, ints, aV, aTab, aInst, aS, aT, aC, aRow, rRow, rG] | (subst_vars; simp only [ends, ite_true, ite_false, reduceIte, Nat.reduceEqDiff, Nat.reduceLeDiff, Nat.reduceLT, Nat.reduceAdd, reduceCtorEq, num, boo, str, ints, aV, aTab, aInst, aS, aT, aC, aRow, rRow, rG])) (by simp only [ends, ite_true, ite_false, reduceIte, Nat.reduceEqDiff, Nat.reduceLeDiff, Nat.reduceLT, Nat.reduceAdd, reduceCtorEq, num, boo, str, ints, aV, aTab, aInst, aS, aT, aC, aRow, rRow, rG]) (by simp only [ends, ite_true, ite_false, reduceIte, Nat.reduceEqDiff, Nat.reduceLeDiff, Nat.reduceLT, Nat.reduceAdd, reduceCtorEq, num, boo, str, ints, aV, aTab, aInst, aS, aT, aC, aRow, rRow, rG])
    rw [← hinv]
end Go.Proofs.YtkccdfaelbepeaaDoor

namespace Go.Proofs.YtkccdfaelbepeaaDoor
open Go.Am
set_option linter.unusedVariables false
set_option maxRecDepth 100000
set_option maxHeartbeats 4000000

def vecT (l : List Row) : Ob := .vec 54 1 (rowsOf rRow l) 0
/-- What is the frame's own is handed back as it is. -/
theorem ret_raw {p : Prop} {a : A} {t : List (Nat × A)} {o os' : List (Nat × Ob)} (hp : p) (hc : a.closed (inO os') = true) (ho : keepO (lookO o) (inO os') os') (hin : keepIn (inO os') o) : retx (some (p, a)) ⟨t, o⟩ a os' :=
  ⟨hp, Weak.keep (σ := ⟨[(0, a)], os'⟩) ⟨⟨rfl, hc⟩, trivial⟩ ho hin⟩
theorem c_times (l : List Row) (r : Row) (hl : l.length ≤ 1000) (hr1 : r.length ≤ 1000) :
    ACall Tryd.prog 112 [.vec 1000 l.length, aRow r, num 1] [(1000, vecT l)] (.vec 1000 (l.length + 1)) [(1000, vecT (l ++ [r]))] := by
  refine ACall.enter mixed ttok Tryd.func112 rfl rfl _ Tryd.ntmps112 (Nat.le_of_ble_eq_true rfl) (by kernel_rfl) _ (congrArg Array.toList Tryd.results112) ?_
  simp -implicitDefEqProofs only [argT, ↓steps, push_cast, reduceIte, Nat.reduceEqDiff, Nat.reduceAdd, Nat.reduceMul, Nat.reduceLT, Nat.reduceLeDiff, Int.reduceToNat, Int.reduceLE, Int.reduceLT, reduceCtorEq, tte, num, boo, str, ints, aV, aTab, aInst, aS, aT, aC, aRow, rRow, rG, vecT]
  refine loop_gen mixed ttok (fun n : Nat => (⟨[(7, .d (.lit (.int .i64 n))), (0, .vec 1000 (l.length + n)), (1, aRow r), (2, num 1)], [(1000, vecT (l ++ List.replicate n r))]⟩ : SL)) (fun n => 1 - n) (fun n => n ≤ 1) 0 (Nat.zero_le _) ?_ ?_
  · exact Weak.keepL (by simp [ends, ite_true, ite_false, reduceIte, Nat.reduceEqDiff, Nat.reduceLeDiff, Nat.reduceLT, Nat.reduceAdd, reduceCtorEq, num, boo, str, ints, aV, aTab, aInst, aS, aT, aC, aRow, rRow, rG, vecT]) (by simp [ends, ite_true, ite_false, reduceIte, Nat.reduceEqDiff, Nat.reduceLeDiff, Nat.reduceLT, Nat.reduceAdd, reduceCtorEq, num, boo, str, ints, aV, aTab, aInst, aS, aT, aC, aRow, rRow, rG, vecT]) (by simp [ends, ite_true, ite_false, reduceIte, Nat.reduceEqDiff, Nat.reduceLeDiff, Nat.reduceLT, Nat.reduceAdd, reduceCtorEq, num, boo, str, ints, aV, aTab, aInst, aS, aT, aC, aRow, rRow, rG, vecT])
  intro I hI n hn
  have hw : n < 1 → IntKind.i64.wrap ((n : Int) + 1) = ((n + 1 : Nat) : Int) := fun h => wrap_succ h (by decide)
  simp -implicitDefEqProofs only [↓steps, push_cast, reduceIte, Nat.reduceEqDiff, Nat.reduceAdd, Nat.reduceMul, Nat.reduceLT, Nat.reduceLeDiff, Int.reduceToNat, Int.reduceLE, Int.reduceLT, reduceCtorEq, tte, num, boo, str, ints, aV, aTab, aInst, aS, aT, aC, aRow, rRow, rG, vecT]
  refine bcase_intro (fun h => ?_) fun h => ?_
  · simp only [decide_eq_true_eq] at h
    have h0 : n = 0 := by omega
    subst h0
    refine callx_of [[3]] [] rfl (c_copied r (by omega)) (by first | (simp; done) | (simp [rowsOf_length]; done) | (simp [rowsOf_length]; omega)) (by first | (simp only [ends, ite_true, ite_false, reduceIte, Nat.reduceEqDiff, Nat.reduceLeDiff, Nat.reduceLT, Nat.reduceAdd, reduceCtorEq, num, boo, str, ints, aV, aTab, aInst, aS, aT, aC, aRow, rRow, rG, vecT, num, boo, str, aE_eq, aV]; done) | simp [ends, ite_true, ite_false, reduceIte, Nat.reduceEqDiff, Nat.reduceLeDiff, Nat.reduceLT, Nat.reduceAdd, reduceCtorEq, num, boo, str, ints, aV, aTab, aInst, aS, aT, aC, aRow, rRow, rG, vecT, num, boo, str, aE_eq, aV]) (by first | rfl | (simp only [ends, ite_true, ite_false, reduceIte, Nat.reduceEqDiff, Nat.reduceLeDiff, Nat.reduceLT, Nat.reduceAdd, reduceCtorEq, num, boo, str, ints, aV, aTab, aInst, aS, aT, aC, aRow, rRow, rG, vecT, num, boo, str, aE_eq, aV]; done) | simp [ends, ite_true, ite_false, reduceIte, Nat.reduceEqDiff, Nat.reduceLeDiff, Nat.reduceLT, Nat.reduceAdd, reduceCtorEq, num, boo, str, ints, aV, aTab, aInst, aS, aT, aC, aRow, rRow, rG, vecT, num, boo, str, aE_eq, aV]) (by simp only [ends, ite_true, ite_false, reduceIte, Nat.reduceEqDiff, Nat.reduceLeDiff, Nat.reduceLT, Nat.reduceAdd, reduceCtorEq, num, boo, str, ints, aV, aTab, aInst, aS, aT, aC, aRow, rRow, rG, vecT]) (by simp [idsOk, lookO, updO, ren1]) ?_
    simp -implicitDefEqProofs only [↓steps, push_cast, reduceIte, Nat.reduceEqDiff, Nat.reduceAdd, Nat.reduceMul, Nat.reduceLT, Nat.reduceLeDiff, Int.reduceToNat, Int.reduceLE, Int.reduceLT, reduceCtorEq, tte, num, boo, str, ints, aV, aTab, aInst, aS, aT, aC, aRow, rRow, rG, vecT]
    have hrows : rowsOf rRow l ++ [[D.sl 3 (rowsOf rV r)]] = rowsOf rRow (l ++ [r]) := rowsOf_append rRow l [r]
    have hw1 : IntKind.i64.wrap (0 + 1) = ((1 : Nat) : Int) := wrap_succ (n := 0) (N := 1) (by decide) (by decide)
    refine ⟨by omega, ?_⟩
    have hw2 : IntKind.i64.wrap 1 = 1 := wrap_eq (by decide) (by decide)
    exact gen_again hI 1 (Nat.le_refl _) (by show 1 - 1 < 1 - 0; decide) (Weak.keepL (by simp [hw2, ends, ite_true, ite_false, reduceIte, Nat.reduceEqDiff, Nat.reduceLeDiff, Nat.reduceLT, Nat.reduceAdd, reduceCtorEq, num, boo, str, ints, aV, aTab, aInst, aS, aT, aC, aRow, rRow, rG, vecT]) (by simp only [hrows, List.replicate_one, ends, ite_true, ite_false, reduceIte, Nat.reduceEqDiff, Nat.reduceLeDiff, Nat.reduceLT, Nat.reduceAdd, reduceCtorEq, num, boo, str, ints, aV, aTab, aInst, aS, aT, aC, aRow, rRow, rG, vecT]) (by simp [ends, ite_true, ite_false, reduceIte, Nat.reduceEqDiff, Nat.reduceLeDiff, Nat.reduceLT, Nat.reduceAdd, reduceCtorEq, num, boo, str, ints, aV, aTab, aInst, aS, aT, aC, aRow, rRow, rG, vecT]))
  · simp only [decide_eq_false_iff_not] at h
    have h1 : n = 1 := by omega
    subst h1
    exact ret_raw trivial (by simp [ends, ite_true, ite_false, reduceIte, Nat.reduceEqDiff, Nat.reduceLeDiff, Nat.reduceLT, Nat.reduceAdd, reduceCtorEq, num, boo, str, ints, aV, aTab, aInst, aS, aT, aC, aRow, rRow, rG, vecT]) (by simp [ends, ite_true, ite_false, reduceIte, Nat.reduceEqDiff, Nat.reduceLeDiff, Nat.reduceLT, Nat.reduceAdd, reduceCtorEq, num, boo, str, ints, aV, aTab, aInst, aS, aT, aC, aRow, rRow, rG, vecT]) (by simp [ends, ite_true, ite_false, reduceIte, Nat.reduceEqDiff, Nat.reduceLeDiff, Nat.reduceLT, Nat.reduceAdd, reduceCtorEq, num, boo, str, ints, aV, aTab, aInst, aS, aT, aC, aRow, rRow, rG, vecT])

theorem c_union (rows : List Row) (hl : rows.length ≤ 1000) (hr1 : ∀ r ∈ rows, r.length ≤ 1000) :
    ACall Tryd.prog 63 [aTab rows, aTab [], boo false] [] (aTab ((grpM (canF rows.length rows)).map (·.row))) [] := by
  refine ACall.enter mixed ttok Tryd.func63 rfl rfl _ Tryd.ntmps63 (Nat.le_of_ble_eq_true rfl) (by kernel_rfl) _ (congrArg Array.toList Tryd.results63) ?_
  have hG := c_groups rows hl hr1
  have hgl := grpM_length _ (canF rows.length rows) (Nat.le_refl _)
  have p1 := canF_perm rows.length rows
  have l1 := p1.length_eq
  have hgr : ∀ g ∈ grpM (canF rows.length rows), g.row.length ≤ 1000 := fun g h => by
    have : ∀ (n : Nat) (l : List Row), l.length ≤ n → ∀ g ∈ grpM l, g.row ∈ l := by
      intro n
      induction n with
      | zero => intro l hl g hg; obtain rfl : l = [] := List.eq_nil_of_length_eq_zero (by omega)
                cases hg
      | succ n ih =>
        intro l hl g hg
        match l, hl, hg with
        | [], _, hg => cases hg
        | r :: l, hl, hg =>
          rw [grpM_cons] at hg
          rcases List.mem_cons.1 hg with rfl | hg
          · simp
          · have hp := cntR_pos r l
            have := ih _ (by simp at hl ⊢; omega) g hg
            exact List.mem_of_mem_drop this
    exact hr1 _ (p1.mem_iff.1 (this _ _ (Nat.le_refl _) g h))
  generalize grpM (canF rows.length rows) = G at hG hgl hgr ⊢
  generalize hr : aTab (G.map (·.row)) = R
  simp -implicitDefEqProofs only [argT, ↓steps, push_cast, reduceIte, Nat.reduceEqDiff, Nat.reduceAdd, Nat.reduceMul, Nat.reduceLT, Nat.reduceLeDiff, Int.reduceToNat, Int.reduceLE, Int.reduceLT, reduceCtorEq, tte, num, boo, str, ints, aV, aTab, aInst, aS, aT, aC, aRow, rRow, rG, vecT]
  refine callx_of [[1], [1]] [] rfl (hG) (by first | (simp; done) | (simp [rowsOf_length]; done) | (simp [rowsOf_length]; omega)) (by first | (simp only [ends, ite_true, ite_false, reduceIte, Nat.reduceEqDiff, Nat.reduceLeDiff, Nat.reduceLT, Nat.reduceAdd, reduceCtorEq, num, boo, str, ints, aV, aTab, aInst, aS, aT, aC, aRow, rRow, rG, vecT, num, boo, str, aE_eq, aV]; done) | simp [ends, ite_true, ite_false, reduceIte, Nat.reduceEqDiff, Nat.reduceLeDiff, Nat.reduceLT, Nat.reduceAdd, reduceCtorEq, num, boo, str, ints, aV, aTab, aInst, aS, aT, aC, aRow, rRow, rG, vecT, num, boo, str, aE_eq, aV]) (by first | rfl | (simp only [ends, ite_true, ite_false, reduceIte, Nat.reduceEqDiff, Nat.reduceLeDiff, Nat.reduceLT, Nat.reduceAdd, reduceCtorEq, num, boo, str, ints, aV, aTab, aInst, aS, aT, aC, aRow, rRow, rG, vecT, num, boo, str, aE_eq, aV]; done) | simp [ends, ite_true, ite_false, reduceIte, Nat.reduceEqDiff, Nat.reduceLeDiff, Nat.reduceLT, Nat.reduceAdd, reduceCtorEq, num, boo, str, ints, aV, aTab, aInst, aS, aT, aC, aRow, rRow, rG, vecT, num, boo, str, aE_eq, aV]) (by simp only [ends, ite_true, ite_false, reduceIte, Nat.reduceEqDiff, Nat.reduceLeDiff, Nat.reduceLT, Nat.reduceAdd, reduceCtorEq, num, boo, str, ints, aV, aTab, aInst, aS, aT, aC, aRow, rRow, rG, vecT]) (by simp [idsOk, lookO, updO, ren1]) ?_
  simp -implicitDefEqProofs only [↓steps, push_cast, reduceIte, Nat.reduceEqDiff, Nat.reduceAdd, Nat.reduceMul, Nat.reduceLT, Nat.reduceLeDiff, Int.reduceToNat, Int.reduceLE, Int.reduceLT, reduceCtorEq, tte, num, boo, str, ints, aV, aTab, aInst, aS, aT, aC, aRow, rRow, rG, vecT]
  refine loop_gen mixed ttok (fun n : Nat => (⟨[(9, .d (.lit (.int .i64 n))), (8, .vec 500 n), (2, boo false), (7, .d (.sl 3 (rowsOf rG G)))], [(500, vecT ((G.take n).map (·.row)))]⟩ : SL)) (fun n => G.length - n) (fun n => n ≤ G.length) 0 (Nat.zero_le _) ?_ ?_
  · exact (Weak.nilL 8 500 54 1 rfl rfl).trans (Weak.keepL (by simp [ends, ite_true, ite_false, reduceIte, Nat.reduceEqDiff, Nat.reduceLeDiff, Nat.reduceLT, Nat.reduceAdd, reduceCtorEq, num, boo, str, ints, aV, aTab, aInst, aS, aT, aC, aRow, rRow, rG, vecT]) (by simp [ends, ite_true, ite_false, reduceIte, Nat.reduceEqDiff, Nat.reduceLeDiff, Nat.reduceLT, Nat.reduceAdd, reduceCtorEq, num, boo, str, ints, aV, aTab, aInst, aS, aT, aC, aRow, rRow, rG, vecT]) (by simp [ends, ite_true, ite_false, reduceIte, Nat.reduceEqDiff, Nat.reduceLeDiff, Nat.reduceLT, Nat.reduceAdd, reduceCtorEq, num, boo, str, ints, aV, aTab, aInst, aS, aT, aC, aRow, rRow, rG, vecT]))
  intro I hI n hn
  simp -implicitDefEqProofs only [↓steps, push_cast, reduceIte, Nat.reduceEqDiff, Nat.reduceAdd, Nat.reduceMul, Nat.reduceLT, Nat.reduceLeDiff, Int.reduceToNat, Int.reduceLE, Int.reduceLT, reduceCtorEq, tte, num, boo, str, ints, aV, aTab, aInst, aS, aT, aC, aRow, rRow, rG, vecT]
  refine bcase_intro (fun h => ?_) fun h => ?_
  · simp only [decide_eq_true_eq] at h
    have h' : n < G.length := by omega
    have hw := wrap_succ h' (by omega)
    refine ⟨⟨by omega, h⟩, ?_⟩
    have hmin : min n G.length = n := Nat.min_eq_left hn
    have hn2 : ((G.take n).map (·.row)).length = n := by simp; omega
    have hsn : (G.take (n + 1)).map (·.row) = (G.take n).map (·.row) ++ [(G.getD n default).row] := by rw [take_snoc _ _ h', List.map_append]; rfl
    refine callx_ofV [(1000, 500)] (view_raw _ _) (c_times ((G.take n).map (·.row)) (G.getD n default).row (by rw [hn2]; omega) (hgr _ (getD_mem h'))) (by simp [hn2, hmin, ends, ite_true, ite_false, reduceIte, Nat.reduceEqDiff, Nat.reduceLeDiff, Nat.reduceLT, Nat.reduceAdd, reduceCtorEq, num, boo, str, ints, aV, aTab, aInst, aS, aT, aC, aRow, rRow, rG, vecT, num, boo, str, aE_eq, aV]) (by simp [ends, ite_true, ite_false, reduceIte, Nat.reduceEqDiff, Nat.reduceLeDiff, Nat.reduceLT, Nat.reduceAdd, reduceCtorEq, num, boo, str, ints, aV, aTab, aInst, aS, aT, aC, aRow, rRow, rG, vecT, num, boo, str, aE_eq, aV]) (by simp [hn2, hmin, ends, ite_true, ite_false, reduceIte, Nat.reduceEqDiff, Nat.reduceLeDiff, Nat.reduceLT, Nat.reduceAdd, reduceCtorEq, num, boo, str, ints, aV, aTab, aInst, aS, aT, aC, aRow, rRow, rG, vecT]) (by simp [idsOk, lookO, updO, ren1]) ?_
    simp -implicitDefEqProofs only [↓steps, push_cast, reduceIte, Nat.reduceEqDiff, Nat.reduceAdd, Nat.reduceMul, Nat.reduceLT, Nat.reduceLeDiff, Int.reduceToNat, Int.reduceLE, Int.reduceLT, reduceCtorEq, tte, num, boo, str, ints, aV, aTab, aInst, aS, aT, aC, aRow, rRow, rG, vecT]
    exact gen_again hI (n + 1) h' (by show G.length - (n + 1) < G.length - n; omega) (Weak.keepL (by simp [hw, hn2, hmin, ends, ite_true, ite_false, reduceIte, Nat.reduceEqDiff, Nat.reduceLeDiff, Nat.reduceLT, Nat.reduceAdd, reduceCtorEq, num, boo, str, ints, aV, aTab, aInst, aS, aT, aC, aRow, rRow, rG, vecT]) (by simp only [hsn, ends, ite_true, ite_false, reduceIte, Nat.reduceEqDiff, Nat.reduceLeDiff, Nat.reduceLT, Nat.reduceAdd, reduceCtorEq, num, boo, str, ints, aV, aTab, aInst, aS, aT, aC, aRow, rRow, rG, vecT]) (by simp [ends, ite_true, ite_false, reduceIte, Nat.reduceEqDiff, Nat.reduceLeDiff, Nat.reduceLT, Nat.reduceAdd, reduceCtorEq, num, boo, str, ints, aV, aTab, aInst, aS, aT, aC, aRow, rRow, rG, vecT]))
  · simp only [decide_eq_false_iff_not] at h
    obtain rfl : n = G.length := by omega
    subst hr
    rw [List.take_length]
    refine retx_of [1] rfl (by simp) (by first | (simp; done) | (simp [rowsOf_length]; done) | (simp [rowsOf_length]; omega)) ?_ (by first | rfl | simp only [ends, ite_true, ite_false, reduceIte, Nat.reduceEqDiff, Nat.reduceLeDiff, Nat.reduceLT, Nat.reduceAdd, reduceCtorEq, num, boo, str, ints, aV, aTab, aInst, aS, aT, aC, aRow, rRow, rG, vecT] | (subst_vars; simp only [ends, ite_true, ite_false, reduceIte, Nat.reduceEqDiff, Nat.reduceLeDiff, Nat.reduceLT, Nat.reduceAdd, reduceCtorEq, num, boo, str, ints, aV, aTab, aInst, aS, aT, aC, aRow, rRow, rG, vecT])) (by simp only [ends, ite_true, ite_false, reduceIte, Nat.reduceEqDiff, Nat.reduceLeDiff, Nat.reduceLT, Nat.reduceAdd, reduceCtorEq, num, boo, str, ints, aV, aTab, aInst, aS, aT, aC, aRow, rRow, rG, vecT]) (by simp only [ends, ite_true, ite_false, reduceIte, Nat.reduceEqDiff, Nat.reduceLeDiff, Nat.reduceLT, Nat.reduceAdd, reduceCtorEq, num, boo, str, ints, aV, aTab, aInst, aS, aT, aC, aRow, rRow, rG, vecT])
    rfl

def distM (rows : List Row) : List Row := (grpM (canF rows.length rows)).map (·.row)
theorem c_distinct (rows : List Row) (hl : rows.length ≤ 1000) (hr1 : ∀ r ∈ rows, r.length ≤ 1000) : ACall Tryd.prog 27 [aTab rows] [] (aTab (distM rows)) [] := by
  refine ACall.enter mixed ttok Tryd.func27 rfl rfl _ Tryd.ntmps27 (Nat.le_of_ble_eq_true rfl) (by kernel_rfl) _ (congrArg Array.toList Tryd.results27) ?_
  generalize hr : aTab (distM rows) = R
  simp -implicitDefEqProofs only [argT, ↓steps, push_cast, reduceIte, Nat.reduceEqDiff, Nat.reduceAdd, Nat.reduceMul, Nat.reduceLT, Nat.reduceLeDiff, Int.reduceToNat, Int.reduceLE, Int.reduceLT, reduceCtorEq, tte, num, boo, str, ints, aV, aTab, aInst, aS, aT, aC, aRow, rRow, rG, vecT]
  refine callx_of [[1], [1], [0]] [] rfl (c_union rows hl hr1) (by first | (simp; done) | (simp [rowsOf_length]; done) | (simp [rowsOf_length]; omega)) (by first | (simp only [ends, ite_true, ite_false, reduceIte, Nat.reduceEqDiff, Nat.reduceLeDiff, Nat.reduceLT, Nat.reduceAdd, reduceCtorEq, num, boo, str, ints, aV, aTab, aInst, aS, aT, aC, aRow, rRow, rG, vecT, num, boo, str, aE_eq, aV]; done) | simp [ends, ite_true, ite_false, reduceIte, Nat.reduceEqDiff, Nat.reduceLeDiff, Nat.reduceLT, Nat.reduceAdd, reduceCtorEq, num, boo, str, ints, aV, aTab, aInst, aS, aT, aC, aRow, rRow, rG, vecT, num, boo, str, aE_eq, aV]) (by first | rfl | (simp only [ends, ite_true, ite_false, reduceIte, Nat.reduceEqDiff, Nat.reduceLeDiff, Nat.reduceLT, Nat.reduceAdd, reduceCtorEq, num, boo, str, ints, aV, aTab, aInst, aS, aT, aC, aRow, rRow, rG, vecT, num, boo, str, aE_eq, aV]; done) | simp [ends, ite_true, ite_false, reduceIte, Nat.reduceEqDiff, Nat.reduceLeDiff, Nat.reduceLT, Nat.reduceAdd, reduceCtorEq, num, boo, str, ints, aV, aTab, aInst, aS, aT, aC, aRow, rRow, rG, vecT, num, boo, str, aE_eq, aV]) (by simp only [ends, ite_true, ite_false, reduceIte, Nat.reduceEqDiff, Nat.reduceLeDiff, Nat.reduceLT, Nat.reduceAdd, reduceCtorEq, num, boo, str, ints, aV, aTab, aInst, aS, aT, aC, aRow, rRow, rG, vecT]) (by simp [idsOk, lookO, updO, ren1]) ?_
  simp -implicitDefEqProofs only [↓steps, push_cast, reduceIte, Nat.reduceEqDiff, Nat.reduceAdd, Nat.reduceMul, Nat.reduceLT, Nat.reduceLeDiff, Int.reduceToNat, Int.reduceLE, Int.reduceLT, reduceCtorEq, tte, num, boo, str, ints, aV, aTab, aInst, aS, aT, aC, aRow, rRow, rG, vecT]
  exact ret_d trivial (by rw [← hr]; rfl) (by simp only [ends, ite_true, ite_false, reduceIte, Nat.reduceEqDiff, Nat.reduceLeDiff, Nat.reduceLT, Nat.reduceAdd, reduceCtorEq, num, boo, str, ints, aV, aTab, aInst, aS, aT, aC, aRow, rRow, rG, vecT])
end Go.Proofs.YtkccdfaelbepeaaDoor

namespace Go.Proofs.YtkccdfaelbepeaaDoor
open Go.Am
set_option linter.unusedVariables false
set_option maxRecDepth 100000
set_option maxHeartbeats 4000000

def sing (l : List Val) : List Row := l.map fun v => [v]
@[simp] theorem sing_length (l : List Val) : (sing l).length = l.length := by simp [sing]
theorem sing_small (l : List Val) : ∀ r ∈ sing l, r.length ≤ 1000 := by
  intro r h
  obtain ⟨v, _, rfl⟩ := List.mem_map.1 h
  simp
theorem sing_get (l : List Val) {n : Nat} (h : n < l.length) : (sing l).getD n default = [l.getD n default] := by
  simp [sing, List.getD_eq_getElem?_getD, h]

theorem c_rsum (S : List Val) (hl : S.length ≤ 1000) (hv : ∀ v ∈ S, okV v) : ACall Tryd.prog 28 [aTab (sing S)] [] (aV (sumS S)) [] := by
  refine ACall.enter mixed ttok Tryd.func28 rfl rfl _ Tryd.ntmps28 (Nat.le_of_ble_eq_true rfl) (by kernel_rfl) _ (congrArg Array.toList Tryd.results28) ?_
  generalize hr : aV (sumS S) = R
  simp -implicitDefEqProofs only [argT, ↓steps, push_cast, reduceIte, Nat.reduceEqDiff, Nat.reduceAdd, Nat.reduceMul, Nat.reduceLT, Nat.reduceLeDiff, Int.reduceToNat, Int.reduceLE, Int.reduceLT, reduceCtorEq, tte, num, boo, str, ints, aV, aTab, aInst, aS, aT, aC, aRow, rRow]
  refine loop_gen mixed ttok (fun x : Nat × Bool × Int × Int => (⟨[(6, .d (.lit (.int .i64 x.1))), (3, boo x.2.1), (4, num x.2.2.1), (5, num x.2.2.2), (0, aTab (sing S)), (2, .ptr 2 0)], [(2, .var [.d (.lit (.int .i64 0)), .d (.lit (.int .i64 0)), .d (.lit (.string ByteArray.empty))])]⟩ : SL)) (fun x => S.length - x.1)
    (fun x => x.1 ≤ S.length ∧ x.2.1 = !(goodL (S.take x.1)).isEmpty ∧ x.2.2.1 * 1000000000000 + x.2.2.2 = totS (goodL (S.take x.1)) ∧ (-999999999999 ≤ x.2.2.2 ∧ x.2.2.2 ≤ 999999999999) ∧ (-(9300000 * (x.1 : Int)) ≤ x.2.2.1 ∧ x.2.2.1 ≤ 9300000 * (x.1 : Int))) (0, false, 0, 0) ⟨Nat.zero_le _, rfl, rfl, by decide, by decide⟩ ?_ ?_
  · exact Weak.keepL (by simp [ends, ite_true, ite_false, reduceIte, Nat.reduceEqDiff, Nat.reduceLeDiff, Nat.reduceLT, Nat.reduceAdd, reduceCtorEq, num, boo, str, ints, aV, aTab, aInst, aS, aT, aC, aRow, rRow]) (by simp [ends, ite_true, ite_false, reduceIte, Nat.reduceEqDiff, Nat.reduceLeDiff, Nat.reduceLT, Nat.reduceAdd, reduceCtorEq, num, boo, str, ints, aV, aTab, aInst, aS, aT, aC, aRow, rRow]) (by simp [ends, ite_true, ite_false, reduceIte, Nat.reduceEqDiff, Nat.reduceLeDiff, Nat.reduceLT, Nat.reduceAdd, reduceCtorEq, num, boo, str, ints, aV, aTab, aInst, aS, aT, aC, aRow, rRow])
  intro I hI ⟨n, f, hi, lo⟩ ⟨hn, hf, ht, hlo, hhi⟩
  simp only at hn hf ht hlo hhi
  simp -implicitDefEqProofs only [sing_length, ↓steps, push_cast, reduceIte, Nat.reduceEqDiff, Nat.reduceAdd, Nat.reduceMul, Nat.reduceLT, Nat.reduceLeDiff, Int.reduceToNat, Int.reduceLE, Int.reduceLT, reduceCtorEq, tte, num, boo, str, ints, aV, aTab, aInst, aS, aT, aC, aRow, rRow]
  refine bcase_intro (fun h => ?_) fun h => ?_
  · simp only [decide_eq_true_eq] at h
    have h' : n < S.length := by omega
    have hw := wrap_succ h' (by omega)
    have hg := sing_get S h'
    have hsuc := goodL_take_succ S n h'
    simp -implicitDefEqProofs only [hg, ↓steps, push_cast, reduceIte, Nat.reduceEqDiff, Nat.reduceAdd, Nat.reduceMul, Nat.reduceLT, Nat.reduceLeDiff, Int.reduceToNat, Int.reduceLE, Int.reduceLT, reduceCtorEq, tte, num, boo, str, ints, aV, aTab, aInst, aS, aT, aC, aRow, rRow]
    generalize hx : S.getD n default = x at hsuc ⊢
    have hxm : okV x := by rw [← hx]; exact hv _ (getD_mem h')
    have hng : (x.kind != 1) = ngV x := rfl
    refine ⟨⟨by omega, h⟩, by decide, ?_⟩
    refine bcase_intro (fun g => ?_) fun g => ?_
    · rw [if_pos (by rw [← hng]; exact g)] at hsuc
      exact gen_again hI (n + 1, f, hi, lo) ⟨h', by show f = _; rw [hsuc]; exact hf, by show hi * 1000000000000 + lo = _; rw [hsuc]; exact ht, hlo, by show -(9300000 * ((n + 1 : Nat) : Int)) ≤ hi ∧ hi ≤ 9300000 * ((n + 1 : Nat) : Int); omega⟩ (by show S.length - (n + 1) < S.length - n; omega)
        (Weak.keepL (by simp [hw, ends, ite_true, ite_false, reduceIte, Nat.reduceEqDiff, Nat.reduceLeDiff, Nat.reduceLT, Nat.reduceAdd, reduceCtorEq, num, boo, str, ints, aV, aTab, aInst, aS, aT, aC, aRow, rRow]) (by simp [ends, ite_true, ite_false, reduceIte, Nat.reduceEqDiff, Nat.reduceLeDiff, Nat.reduceLT, Nat.reduceAdd, reduceCtorEq, num, boo, str, ints, aV, aTab, aInst, aS, aT, aC, aRow, rRow]) (by simp [ends, ite_true, ite_false, reduceIte, Nat.reduceEqDiff, Nat.reduceLeDiff, Nat.reduceLT, Nat.reduceAdd, reduceCtorEq, num, boo, str, ints, aV, aTab, aInst, aS, aT, aC, aRow, rRow]))
    · rw [if_neg (by rw [← hng, g]; decide)] at hsuc
      have e1 := Int.tdiv_mul_add_tmod x.num 1000000000000
      have b1 := hiF_le x 1000000000000 (by decide) hxm 9223373 (by decide)
      have b2 := loF_lt x 1000000000000 (by decide)
      unfold hiF at b1
      unfold loF at b2
      generalize hq : x.num.tdiv 1000000000000 = q at e1 b1
      generalize hrr : x.num.tmod 1000000000000 = r at e1 b2
      have w1 := wrap_eq (n := q) (by omega) (by omega)
      have w2 := wrap_eq (n := hi + q) (by omega) (by omega)
      have w3 := wrap_eq (n := lo + r) (by omega) (by omega)
      have e2 := Int.tdiv_mul_add_tmod (lo + r) 1000000000000
      have b3 := loF_lt ⟨0, lo + r, ByteArray.empty⟩ 1000000000000 (by decide)
      unfold loF at b3
      simp only at b3
      generalize hp : (lo + r).tdiv 1000000000000 = p at e2
      generalize hs : (lo + r).tmod 1000000000000 = t at e2 b3
      have w4 := wrap_eq (n := p) (by omega) (by omega)
      have w5 := wrap_eq (n := hi + q + p) (by omega) (by omega)
      simp only [hq, hrr, w1, w2, w3, hp, hs, w4, w5]
      refine ⟨⟨by omega, h⟩, by decide, by decide, ⟨by omega, h⟩, by decide, by decide, by decide, by decide, ?_⟩
      have hxs : totS (goodL (S.take (n + 1))) = totS (goodL (S.take n)) + x.num := by rw [hsuc]; exact sumF_snoc _ _ _
      exact gen_again hI (n + 1, true, hi + q + p, t) ⟨h', by show true = _; rw [hsuc]; simp, by show (hi + q + p) * 1000000000000 + t = _; rw [hxs, ← ht]; omega, by show -999999999999 ≤ t ∧ t ≤ 999999999999; omega,
          by show -(9300000 * ((n + 1 : Nat) : Int)) ≤ hi + q + p ∧ hi + q + p ≤ 9300000 * ((n + 1 : Nat) : Int); omega⟩ (by show S.length - (n + 1) < S.length - n; omega)
        (Weak.keepL (by simp [hw, ends, ite_true, ite_false, reduceIte, Nat.reduceEqDiff, Nat.reduceLeDiff, Nat.reduceLT, Nat.reduceAdd, reduceCtorEq, num, boo, str, ints, aV, aTab, aInst, aS, aT, aC, aRow, rRow]) (by simp [ends, ite_true, ite_false, reduceIte, Nat.reduceEqDiff, Nat.reduceLeDiff, Nat.reduceLT, Nat.reduceAdd, reduceCtorEq, num, boo, str, ints, aV, aTab, aInst, aS, aT, aC, aRow, rRow]) (by simp [ends, ite_true, ite_false, reduceIte, Nat.reduceEqDiff, Nat.reduceLeDiff, Nat.reduceLT, Nat.reduceAdd, reduceCtorEq, num, boo, str, ints, aV, aTab, aInst, aS, aT, aC, aRow, rRow]))
  · simp only [decide_eq_false_iff_not] at h
    obtain rfl : n = S.length := by omega
    rw [List.take_length] at hf ht
    unfold sumS at hr
    generalize goodL S = G at hf ht hr
    generalize totS G = T at ht hr
    have hT : T = hi * 1000000000000 + lo := ht.symm
    subst hT
    refine bcase_intro (fun k1 => ?_) fun k1 => ?_
    · have hG : G = [] := by
        rw [hf] at k1
        simpa using k1
      rw [if_pos hG] at hr
      exact ret_v (by first | trivial | (simp; done) | (simp; omega)) (by rw [← hr] <;> first | rfl | (simp [nullV]; done) | (simp_all [nullV]; done)) (by simp only [ends, ite_true, ite_false, reduceIte, Nat.reduceEqDiff, Nat.reduceLeDiff, Nat.reduceLT, Nat.reduceAdd, reduceCtorEq, num, boo, str, ints, aV, aTab, aInst, aS, aT, aC, aRow, rRow])
    have hG : ¬ G = [] := by
      rw [hf] at k1
      simpa using k1
    rw [if_neg hG] at hr
    refine bcase_intro (fun k2 => ?_) fun k2 => ?_
    · simp only [gt_iff_lt, decide_eq_true_eq] at k2
      rw [if_neg (by omega)] at hr
      exact ret_v (by first | trivial | (simp; done) | (simp; omega)) (by rw [← hr] <;> first | rfl | (simp [nullV]; done) | (simp_all [nullV]; done)) (by simp only [ends, ite_true, ite_false, reduceIte, Nat.reduceEqDiff, Nat.reduceLeDiff, Nat.reduceLT, Nat.reduceAdd, reduceCtorEq, num, boo, str, ints, aV, aTab, aInst, aS, aT, aC, aRow, rRow])
    refine bcase_intro (fun k3 => ?_) fun k3 => ?_
    · simp only [decide_eq_true_eq] at k3
      rw [if_neg (by omega)] at hr
      exact ret_v (by first | trivial | (simp; done) | (simp; omega)) (by rw [← hr] <;> first | rfl | (simp [nullV]; done) | (simp_all [nullV]; done)) (by simp only [ends, ite_true, ite_false, reduceIte, Nat.reduceEqDiff, Nat.reduceLeDiff, Nat.reduceLT, Nat.reduceAdd, reduceCtorEq, num, boo, str, ints, aV, aTab, aInst, aS, aT, aC, aRow, rRow])
    simp only [gt_iff_lt, decide_eq_false_iff_not] at k2 k3
    have w1 := wrap_eq (n := hi * 1000000000000) (by omega) (by omega)
    have w2 := wrap_eq (n := hi * 1000000000000 + lo) (by omega) (by omega)
    simp only [w1, w2]
    refine bcase_intro (fun k4 => ?_) fun k4 => ?_
    · simp only [gt_iff_lt, decide_eq_true_eq] at k4
      rw [if_neg (by omega)] at hr
      exact ret_v (by first | trivial | (simp; done) | (simp; omega)) (by rw [← hr] <;> first | rfl | (simp [nullV]; done) | (simp_all [nullV]; done)) (by simp only [ends, ite_true, ite_false, reduceIte, Nat.reduceEqDiff, Nat.reduceLeDiff, Nat.reduceLT, Nat.reduceAdd, reduceCtorEq, num, boo, str, ints, aV, aTab, aInst, aS, aT, aC, aRow, rRow])
    refine bcase_intro (fun k5 => ?_) fun k5 => ?_
    · simp only [decide_eq_true_eq] at k5
      rw [if_neg (by omega)] at hr
      exact ret_v (by first | trivial | (simp; done) | (simp; omega)) (by rw [← hr] <;> first | rfl | (simp [nullV]; done) | (simp_all [nullV]; done)) (by simp only [ends, ite_true, ite_false, reduceIte, Nat.reduceEqDiff, Nat.reduceLeDiff, Nat.reduceLT, Nat.reduceAdd, reduceCtorEq, num, boo, str, ints, aV, aTab, aInst, aS, aT, aC, aRow, rRow])
    simp only [gt_iff_lt, decide_eq_false_iff_not] at k4 k5
    rw [if_pos (by omega)] at hr
    exact ret_v (by first | trivial | (simp; done) | (simp; omega)) (by rw [← hr] <;> first | rfl | (simp [nullV]; done) | (simp_all [nullV]; done)) (by simp only [ends, ite_true, ite_false, reduceIte, Nat.reduceEqDiff, Nat.reduceLeDiff, Nat.reduceLT, Nat.reduceAdd, reduceCtorEq, num, boo, str, ints, aV, aTab, aInst, aS, aT, aC, aRow, rRow])
end Go.Proofs.YtkccdfaelbepeaaDoor
