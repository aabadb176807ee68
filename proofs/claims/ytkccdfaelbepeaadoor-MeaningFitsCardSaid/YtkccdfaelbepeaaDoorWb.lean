/- Whether an instance can be asked about a schema: a proof over an abstract machine of our own (part Wb) -/
import Derived.Test.YtkccdfaelbepeaaDoorWa
import Derived.Test.YtkccdfaelbepeaaDoorLd
set_option linter.all false

namespace Go.Proofs.YtkccdfaelbepeaaDoor
open Go.Am
set_option linter.unusedVariables false
set_option maxRecDepth 100000
set_option maxHeartbeats 4000000

/-- The byte at a place. -/
def byteAt (s : ByteArray) (i : Nat) : Int := ((s.data.getD i 0).toNat : Nat)
theorem get_byte (s : ByteArray) (i : Nat) (h : i < s.size) : ((s.get! i).toNat : Int) = byteAt s i := by
  have h' : i < s.data.size := h
  show (((s.data[i]!).toNat : Nat) : Int) = _
  rw [byteAt, Array.getD_eq_getD_getElem?, Array.getElem?_eq_getElem h', getElem!_pos s.data i h']
  rfl
theorem decode_low (s : ByteArray) (p : Nat) (h : (s.get! p).toNat < 128) : Utf8.decode s p = ((s.get! p).toNat, 1) := by
  unfold Utf8.decode
  simp only [Nat.add_zero]
  rw [if_pos h]
theorem decode_high (s : ByteArray) (p : Nat) (h : ¬ (s.get! p).toNat < 128) : 127 < (Utf8.decode s p).1 := by
  unfold Utf8.decode
  simp only [Nat.add_zero]
  rw [if_neg h]
  repeat' split
  all_goals first | (simp [Utf8.runeError]; done) | (simp only [Bool.and_eq_true, decide_eq_true_eq, ge_iff_le] at *; omega)
theorem oddR_high {c : Int} (h : 126 < c) : oddR c = true := by rw [oddR, decide_eq_true (by omega : c > 126), Bool.or_true, Bool.true_or]
theorem oddFrom_neg (s : ByteArray) : ∀ (n p : Nat), s.size - p ≤ n → (oddFrom s p n < 0 ↔ ∀ i, p ≤ i → i < s.size → oddR (byteAt s i) = false)
  | 0, p, h => ⟨fun _ i h1 h2 => by omega, fun _ => by show (-1 : Int) < 0; decide⟩
  | n + 1, p, h => by
    simp only [oddFrom]
    by_cases hp : p < s.size
    · rw [if_pos hp]
      by_cases hl : (s.get! p).toNat < 128
      · rw [decode_low s p hl]
        simp only []
        rw [get_byte s p hp]
        by_cases ho : oddR (byteAt s p) = true
        · rw [if_pos ho]
          exact ⟨fun h => by omega, fun h => by rw [h p (Nat.le_refl _) hp] at ho; cases ho⟩
        · rw [if_neg ho, oddFrom_neg s n (p + 1) (by omega)]
          simp only [Bool.not_eq_true] at ho
          exact ⟨fun h i h1 h2 => if hi : i = p then hi ▸ ho else h i (by omega) h2, fun h i h1 h2 => h i (by omega) h2⟩
      · have := decode_high s p hl
        rw [if_pos (oddR_high (by omega))]
        refine ⟨fun h => by omega, fun h => ?_⟩
        have h2 := h p (Nat.le_refl _) hp
        rw [← get_byte s p hp, oddR_high (by omega)] at h2
        cases h2
    · rw [if_neg hp]
      exact ⟨fun _ i h1 h2 => by omega, fun _ => by decide⟩

def okBytes (s : ByteArray) : Bool := (List.range s.size).all fun i => !oddR (byteAt s i)
theorem textM_eq (s : ByteArray) : textM s = (decide (s.size ≤ 24) && okBytes s) := by
  have h := oddFrom_neg s s.size 0 (by omega)
  rw [textM]
  congr 1
  rw [Bool.eq_iff_iff, decide_eq_true_eq]
  show oddFrom s 0 s.size < 0 ↔ _
  rw [h, okBytes, all_range]
  exact ⟨fun h i hi => by rw [h i (Nat.zero_le _) hi]; rfl, fun h i _ hi => by simpa using h i hi⟩

theorem c_rvalid (v : Val) : ACall Tryd.prog 16 [aV v] [] (boo (validM v)) [] := by
  refine ACall.enter mixed ttok Tryd.func16 rfl rfl _ Tryd.ntmps16 (Nat.le_of_ble_eq_true rfl) (by kernel_rfl) _ (congrArg Array.toList Tryd.results16) ?_
  generalize hr : boo (validM v) = R
  have he : (ByteArray.mk #[]).toList = [] := by simp [ByteArray.toList_eq]
  simp -implicitDefEqProofs only [argT, he, ↓steps, push_cast, reduceIte, Nat.reduceEqDiff, Nat.reduceAdd, Nat.reduceMul, Nat.reduceLT, Nat.reduceLeDiff, Int.reduceToNat, Int.reduceLE, Int.reduceLT, reduceCtorEq, tte, num, boo, str, ints, aV, aTab, aInst, aS, aT, aC]
  refine bcase_intro (fun k0 => ?_) fun k0 => ?_
  · have hk : v.kind = 0 := by simpa using k0
    have hM : validM v = ((v.num == 0) && (v.text.toList == [])) := by rw [validM, if_pos hk]
    refine bcase_intro (fun g => ?_) fun g => ?_
    · exact ret_d trivial (by rw [← hr, hM, g, Bool.true_and]; rfl) (by simp only [ends, ite_true, ite_false, reduceIte, Nat.reduceEqDiff, Nat.reduceLeDiff, Nat.reduceLT, Nat.reduceAdd, reduceCtorEq, num, boo, str, ints, aV, aTab, aInst, aS, aT, aC])
    · exact ret_d trivial (by rw [← hr, hM, g, Bool.false_and]; rfl) (by simp only [ends, ite_true, ite_false, reduceIte, Nat.reduceEqDiff, Nat.reduceLeDiff, Nat.reduceLT, Nat.reduceAdd, reduceCtorEq, num, boo, str, ints, aV, aTab, aInst, aS, aT, aC])
  have hk0 : ¬ v.kind = 0 := by simpa using k0
  refine bcase_intro (fun k1 => ?_) fun k1 => ?_
  · have hk : v.kind = 1 := by simpa using k1
    have hM : validM v = ((decide (v.num ≥ -1000000000000) && decide (v.num ≤ 1000000000000)) && (v.text.toList == [])) := by rw [validM, if_neg hk0, if_pos hk]
    refine bcase_intro (fun g => ?_) fun g => ?_
    · refine bcase_intro (fun g2 => ?_) fun g2 => ?_
      · exact ret_d trivial (by rw [← hr, hM, g, g2, Bool.true_and, Bool.true_and]; rfl) (by simp only [ends, ite_true, ite_false, reduceIte, Nat.reduceEqDiff, Nat.reduceLeDiff, Nat.reduceLT, Nat.reduceAdd, reduceCtorEq, num, boo, str, ints, aV, aTab, aInst, aS, aT, aC])
      · exact ret_d trivial (by rw [← hr, hM, g, g2, Bool.true_and, Bool.false_and]; rfl) (by simp only [ends, ite_true, ite_false, reduceIte, Nat.reduceEqDiff, Nat.reduceLeDiff, Nat.reduceLT, Nat.reduceAdd, reduceCtorEq, num, boo, str, ints, aV, aTab, aInst, aS, aT, aC])
    · exact ret_d trivial (by rw [← hr, hM, g, Bool.false_and, Bool.false_and]; rfl) (by simp only [ends, ite_true, ite_false, reduceIte, Nat.reduceEqDiff, Nat.reduceLeDiff, Nat.reduceLT, Nat.reduceAdd, reduceCtorEq, num, boo, str, ints, aV, aTab, aInst, aS, aT, aC])
  have hk1 : ¬ v.kind = 1 := by simpa using k1
  refine bcase_intro (fun k2 => ?_) fun k2 => ?_
  · have hk : v.kind = 2 := by simpa using k2
    have hM : validM v = (((v.num == 0) || (v.num == 1)) && (v.text.toList == [])) := by rw [validM, if_neg hk0, if_neg hk1, if_pos hk]
    refine bcase_intro (fun g => ?_) fun g => ?_
    · exact ret_d trivial (by rw [← hr, hM, g, Bool.true_or, Bool.true_and]; rfl) (by simp only [ends, ite_true, ite_false, reduceIte, Nat.reduceEqDiff, Nat.reduceLeDiff, Nat.reduceLT, Nat.reduceAdd, reduceCtorEq, num, boo, str, ints, aV, aTab, aInst, aS, aT, aC])
    · refine bcase_intro (fun g2 => ?_) fun g2 => ?_
      · exact ret_d trivial (by rw [← hr, hM, g, g2, Bool.false_or, Bool.true_and]; rfl) (by simp only [ends, ite_true, ite_false, reduceIte, Nat.reduceEqDiff, Nat.reduceLeDiff, Nat.reduceLT, Nat.reduceAdd, reduceCtorEq, num, boo, str, ints, aV, aTab, aInst, aS, aT, aC])
      · exact ret_d trivial (by rw [← hr, hM, g, g2, Bool.false_or, Bool.false_and]; rfl) (by simp only [ends, ite_true, ite_false, reduceIte, Nat.reduceEqDiff, Nat.reduceLeDiff, Nat.reduceLT, Nat.reduceAdd, reduceCtorEq, num, boo, str, ints, aV, aTab, aInst, aS, aT, aC])
  have hk2 : ¬ v.kind = 2 := by simpa using k2
  refine bcase_intro (fun k3 => ?_) fun k3 => ?_
  · have hk : v.kind = 3 := by simpa using k3
    have hM : validM v = ((v.num == 0) && (decide (v.text.size ≤ 24) && okBytes v.text)) := by rw [validM, if_neg hk0, if_neg hk1, if_neg hk2, if_pos hk, textM_eq]
    refine bcase_intro (fun g1 => ?_) fun g1 => ?_
    · have : (v.num == 0) = false := by simpa [bne] using g1
      exact ret_d trivial (by rw [← hr, hM, this, Bool.false_and]; rfl) (by simp only [ends, ite_true, ite_false, reduceIte, Nat.reduceEqDiff, Nat.reduceLeDiff, Nat.reduceLT, Nat.reduceAdd, reduceCtorEq, num, boo, str, ints, aV, aTab, aInst, aS, aT, aC])
    have g1' : (v.num == 0) = true := by simpa [bne] using g1
    refine bcase_intro (fun g2 => ?_) fun g2 => ?_
    · simp only [decide_eq_true_eq] at g2
      exact ret_d trivial (by rw [← hr, hM, decide_eq_false (by omega : ¬ v.text.size ≤ 24), Bool.false_and, Bool.and_false]; rfl) (by simp only [ends, ite_true, ite_false, reduceIte, Nat.reduceEqDiff, Nat.reduceLeDiff, Nat.reduceLT, Nat.reduceAdd, reduceCtorEq, num, boo, str, ints, aV, aTab, aInst, aS, aT, aC])
    simp only [decide_eq_false_iff_not] at g2
    have hM2 : validM v = okBytes v.text := by rw [hM, g1', decide_eq_true (by omega : v.text.size ≤ 24), Bool.true_and, Bool.true_and]
    refine loop_count mixed ttok 3 [1] [1] (by simp only [pickT, ends, ite_true, ite_false, reduceIte, Nat.reduceEqDiff, Nat.reduceLeDiff, Nat.reduceLT, Nat.reduceAdd, reduceCtorEq, num, boo, str, ints, aV, aTab, aInst, aS, aT, aC]; rfl) (by simp only [pickO, consO_some, ends, ite_true, ite_false, reduceIte, Nat.reduceEqDiff, Nat.reduceLeDiff, Nat.reduceLT, Nat.reduceAdd, reduceCtorEq, num, boo, str, ints, aV, aTab, aInst, aS, aT, aC]; rfl) v.text.size (fun n => ∀ i, i < n → (!oddR (byteAt v.text i)) = true) (fun _ => []) (fun _ => []) (fun i h => absurd h (Nat.not_lt_zero _)) ?_ ?_
    · exact Weak.keepL (by simp [cst, ends, ite_true, ite_false, reduceIte, Nat.reduceEqDiff, Nat.reduceLeDiff, Nat.reduceLT, Nat.reduceAdd, reduceCtorEq, num, boo, str, ints, aV, aTab, aInst, aS, aT, aC]) (by simp [cst, ends, ite_true, ite_false, reduceIte, Nat.reduceEqDiff, Nat.reduceLeDiff, Nat.reduceLT, Nat.reduceAdd, reduceCtorEq, num, boo, str, ints, aV, aTab, aInst, aS, aT, aC]) (by simp [cst, ends, ite_true, ite_false, reduceIte, Nat.reduceEqDiff, Nat.reduceLeDiff, Nat.reduceLT, Nat.reduceAdd, reduceCtorEq, num, boo, str, ints, aV, aTab, aInst, aS, aT, aC])
    intro I hI n hn hi
    simp -implicitDefEqProofs only [cst, ↓steps, push_cast, reduceIte, Nat.reduceEqDiff, Nat.reduceAdd, Nat.reduceMul, Nat.reduceLT, Nat.reduceLeDiff, Int.reduceToNat, Int.reduceLE, Int.reduceLT, reduceCtorEq, tte, num, boo, str, ints, aV, aTab, aInst, aS, aT, aC]
    refine bcase_intro (fun h => ?_) fun h => ?_
    · simp only [decide_eq_true_eq] at h
      have h' : n < v.text.size := by omega
      have hw := wrap_succ h' (by omega)
      have bad : oddR (byteAt v.text n) = true → validM v = false := fun h => by rw [hM2, okBytes, bad_range h' (by rw [h]; rfl)]
      refine ⟨(by first | omega | trivial | (refine ⟨?_, ?_⟩ <;> first | omega | trivial | (refine ⟨?_, ?_⟩ <;> first | omega | trivial | (refine ⟨?_, ?_⟩ <;> first | omega | trivial | rfl)))), ?_⟩
      generalize hcc : (((v.text.data.getD n 0).toNat : Nat) : Int) = c
      have hcb : byteAt v.text n = c := hcc
      rw [hcb] at bad
      refine bcase_intro (fun g3 => ?_) fun g3 => ?_
      · exact ret_d trivial (by rw [← hr, bad (by rw [oddR, g3]; rfl)]; rfl) (by simp only [ends, ite_true, ite_false, reduceIte, Nat.reduceEqDiff, Nat.reduceLeDiff, Nat.reduceLT, Nat.reduceAdd, reduceCtorEq, num, boo, str, ints, aV, aTab, aInst, aS, aT, aC])
      refine ⟨(by first | omega | trivial | (refine ⟨?_, ?_⟩ <;> first | omega | trivial | (refine ⟨?_, ?_⟩ <;> first | omega | trivial | (refine ⟨?_, ?_⟩ <;> first | omega | trivial | rfl)))), ?_⟩
      refine bcase_intro (fun g4 => ?_) fun g4 => ?_
      · exact ret_d trivial (by rw [← hr, bad (by rw [oddR, g3, g4]; rfl)]; rfl) (by simp only [ends, ite_true, ite_false, reduceIte, Nat.reduceEqDiff, Nat.reduceLeDiff, Nat.reduceLT, Nat.reduceAdd, reduceCtorEq, num, boo, str, ints, aV, aTab, aInst, aS, aT, aC])
      refine ⟨(by first | omega | trivial | (refine ⟨?_, ?_⟩ <;> first | omega | trivial | (refine ⟨?_, ?_⟩ <;> first | omega | trivial | (refine ⟨?_, ?_⟩ <;> first | omega | trivial | rfl)))), ?_⟩
      refine bcase_intro (fun g5 => ?_) fun g5 => ?_
      · exact ret_d trivial (by rw [← hr, bad (by rw [oddR, g3, g4, g5]; rfl)]; rfl) (by simp only [ends, ite_true, ite_false, reduceIte, Nat.reduceEqDiff, Nat.reduceLeDiff, Nat.reduceLT, Nat.reduceAdd, reduceCtorEq, num, boo, str, ints, aV, aTab, aInst, aS, aT, aC])
      · exact cnt_again hI n rfl h' (fun i h2 => if h3 : i = n then by rw [h3, hcb, oddR, g3, g4, g5]; rfl else hi i (by omega)) (by simp only [hw, ends, ite_true, ite_false, reduceIte, Nat.reduceEqDiff, Nat.reduceLeDiff, Nat.reduceLT, Nat.reduceAdd, reduceCtorEq, num, boo, str, ints, aV, aTab, aInst, aS, aT, aC]) (by simp [hw, ends, ite_true, ite_false, reduceIte, Nat.reduceEqDiff, Nat.reduceLeDiff, Nat.reduceLT, Nat.reduceAdd, reduceCtorEq, num, boo, str, ints, aV, aTab, aInst, aS, aT, aC]) (by simp [hw, ends, ite_true, ite_false, reduceIte, Nat.reduceEqDiff, Nat.reduceLeDiff, Nat.reduceLT, Nat.reduceAdd, reduceCtorEq, num, boo, str, ints, aV, aTab, aInst, aS, aT, aC]) (by simp [hw, ends, ite_true, ite_false, reduceIte, Nat.reduceEqDiff, Nat.reduceLeDiff, Nat.reduceLT, Nat.reduceAdd, reduceCtorEq, num, boo, str, ints, aV, aTab, aInst, aS, aT, aC])
    · simp only [decide_eq_false_iff_not] at h
      obtain rfl : n = v.text.size := by omega
      exact ret_d trivial (by rw [← hr, hM2, okBytes, all_range.2 hi]; rfl) (by simp only [ends, ite_true, ite_false, reduceIte, Nat.reduceEqDiff, Nat.reduceLeDiff, Nat.reduceLT, Nat.reduceAdd, reduceCtorEq, num, boo, str, ints, aV, aTab, aInst, aS, aT, aC])
  · have hk3 : ¬ v.kind = 3 := by simpa using k3
    have hM : validM v = false := by rw [validM, if_neg hk0, if_neg hk1, if_neg hk2, if_neg hk3]
    exact ret_d trivial (by rw [← hr, hM]; rfl) (by simp only [ends, ite_true, ite_false, reduceIte, Nat.reduceEqDiff, Nat.reduceLeDiff, Nat.reduceLT, Nat.reduceAdd, reduceCtorEq, num, boo, str, ints, aV, aTab, aInst, aS, aT, aC])
end Go.Proofs.YtkccdfaelbepeaaDoor

namespace Go.Proofs.YtkccdfaelbepeaaDoor
open Go.Am
set_option linter.unusedVariables false
set_option maxRecDepth 100000
set_option maxHeartbeats 4000000

theorem depthL_snoc (e : Ex) : ∀ (l : List Ex) (n : Int), depthL n (l ++ [e]) = (if depthW e > depthL n l then depthW e else depthL n l)
  | [], n => by simp [depthL]
  | x :: l, n => by simp only [List.cons_append, depthL]; exact depthL_snoc e l _

theorem c_size : ∀ e : Ex, Ok12 e → ACall Tryd.prog 120 [aE e] [] (num (sizeW e)) [] :=
  ex_ind (p := fun e => Ok12 e → ACall Tryd.prog 120 [aE e] [] (num (sizeW e)) []) fun e ih ho => by
  refine ACall.enter mixed ttok Tryd.func120 rfl rfl _ Tryd.ntmps120 (Nat.le_of_ble_eq_true rfl) (by kernel_rfl) _ (congrArg Array.toList Tryd.results120) ?_
  generalize hr : num (sizeW e) = R
  have hl := ho.kids
  simp -implicitDefEqProofs only [argT, ↓steps, push_cast, reduceIte, Nat.reduceEqDiff, Nat.reduceAdd, Nat.reduceMul, Nat.reduceLT, Nat.reduceLeDiff, Int.reduceToNat, Int.reduceLE, Int.reduceLT, reduceCtorEq, tte, num, boo, str, ints, aV, aTab, aInst, aS, aT, aC]
  refine loop_count mixed ttok 9 [7, 8] [] (by simp only [pickT, ends, ite_true, ite_false, reduceIte, Nat.reduceEqDiff, Nat.reduceLeDiff, Nat.reduceLT, Nat.reduceAdd, reduceCtorEq, num, boo, str, ints, aV, aTab, aInst, aS, aT, aC]; rfl) (by simp only [pickO, consO_some, ends, ite_true, ite_false, reduceIte, Nat.reduceEqDiff, Nat.reduceLeDiff, Nat.reduceLT, Nat.reduceAdd, reduceCtorEq, num, boo, str, ints, aV, aTab, aInst, aS, aT, aC]; rfl) e.kids.length (fun n => sizeL (sizeL 1 (e.kids.take n)) (e.kids.drop n) = sizeL 1 e.kids) (fun n => [(3, num (sizeL 1 (e.kids.take n)))]) (fun _ => []) rfl ?_ ?_
  · exact Weak.keepL (by simp [cst, sizeL, ends, ite_true, ite_false, reduceIte, Nat.reduceEqDiff, Nat.reduceLeDiff, Nat.reduceLT, Nat.reduceAdd, reduceCtorEq, num, boo, str, ints, aV, aTab, aInst, aS, aT, aC]) (by simp [cst, ends, ite_true, ite_false, reduceIte, Nat.reduceEqDiff, Nat.reduceLeDiff, Nat.reduceLT, Nat.reduceAdd, reduceCtorEq, num, boo, str, ints, aV, aTab, aInst, aS, aT, aC]) (by simp [cst, ends, ite_true, ite_false, reduceIte, Nat.reduceEqDiff, Nat.reduceLeDiff, Nat.reduceLT, Nat.reduceAdd, reduceCtorEq, num, boo, str, ints, aV, aTab, aInst, aS, aT, aC])
  intro I hI n hn hi
  simp -implicitDefEqProofs only [cst, ↓steps, push_cast, reduceIte, Nat.reduceEqDiff, Nat.reduceAdd, Nat.reduceMul, Nat.reduceLT, Nat.reduceLeDiff, Int.reduceToNat, Int.reduceLE, Int.reduceLT, reduceCtorEq, tte, num, boo, str, ints, aV, aTab, aInst, aS, aT, aC]
  refine bcase_intro (fun h => ?_) fun h => ?_
  · simp only [decide_eq_true_eq] at h
    have h' : n < e.kids.length := by omega
    have hw := wrap_succ h' (by omega)
    have ht := sizeL_snoc (e.kids.getD n default) (e.kids.take n) 1
    rw [← take_snoc _ _ h'] at ht
    refine ⟨(by first | omega | trivial | (refine ⟨?_, ?_⟩ <;> first | omega | trivial | (refine ⟨?_, ?_⟩ <;> first | omega | trivial | (refine ⟨?_, ?_⟩ <;> first | omega | trivial | rfl)))), ?_⟩
    refine callx_of [[0, 0, 0, 0, 0, 6]] [] rfl (ih _ (getD_mem h') (ho.kid (getD_mem h'))) (by first | (simp; done) | (simp [rowsOf_length]; done) | (simp [rowsOf_length]; omega)) (by first | (simp only [ends, ite_true, ite_false, reduceIte, Nat.reduceEqDiff, Nat.reduceLeDiff, Nat.reduceLT, Nat.reduceAdd, reduceCtorEq, num, boo, str, ints, aV, aTab, aInst, aS, aT, aC, num, boo, str, aE_eq, aV]; done) | simp [ends, ite_true, ite_false, reduceIte, Nat.reduceEqDiff, Nat.reduceLeDiff, Nat.reduceLT, Nat.reduceAdd, reduceCtorEq, num, boo, str, ints, aV, aTab, aInst, aS, aT, aC, num, boo, str, aE_eq, aV]) (by first | rfl | (simp only [ends, ite_true, ite_false, reduceIte, Nat.reduceEqDiff, Nat.reduceLeDiff, Nat.reduceLT, Nat.reduceAdd, reduceCtorEq, num, boo, str, ints, aV, aTab, aInst, aS, aT, aC, num, boo, str, aE_eq, aV]; done) | simp [ends, ite_true, ite_false, reduceIte, Nat.reduceEqDiff, Nat.reduceLeDiff, Nat.reduceLT, Nat.reduceAdd, reduceCtorEq, num, boo, str, ints, aV, aTab, aInst, aS, aT, aC, num, boo, str, aE_eq, aV]) (by simp only [ends, ite_true, ite_false, reduceIte, Nat.reduceEqDiff, Nat.reduceLeDiff, Nat.reduceLT, Nat.reduceAdd, reduceCtorEq, num, boo, str, ints, aV, aTab, aInst, aS, aT, aC]) (by simp [idsOk, lookO, updO, ren1]) ?_
    simp -implicitDefEqProofs only [↓steps, push_cast, reduceIte, Nat.reduceEqDiff, Nat.reduceAdd, Nat.reduceMul, Nat.reduceLT, Nat.reduceLeDiff, Int.reduceToNat, Int.reduceLE, Int.reduceLT, reduceCtorEq, tte, num, boo, str, ints, aV, aTab, aInst, aS, aT, aC]
    exact cnt_again hI n rfl h' (by rw [drop_cons _ n h', sizeL] at hi; rw [ht]; exact hi) (by simp only [hw, ht, ends, ite_true, ite_false, reduceIte, Nat.reduceEqDiff, Nat.reduceLeDiff, Nat.reduceLT, Nat.reduceAdd, reduceCtorEq, num, boo, str, ints, aV, aTab, aInst, aS, aT, aC]) (by simp [hw, ht, ends, ite_true, ite_false, reduceIte, Nat.reduceEqDiff, Nat.reduceLeDiff, Nat.reduceLT, Nat.reduceAdd, reduceCtorEq, num, boo, str, ints, aV, aTab, aInst, aS, aT, aC]) (by simp [hw, ht, ends, ite_true, ite_false, reduceIte, Nat.reduceEqDiff, Nat.reduceLeDiff, Nat.reduceLT, Nat.reduceAdd, reduceCtorEq, num, boo, str, ints, aV, aTab, aInst, aS, aT, aC]) (by simp [hw, ht, ends, ite_true, ite_false, reduceIte, Nat.reduceEqDiff, Nat.reduceLeDiff, Nat.reduceLT, Nat.reduceAdd, reduceCtorEq, num, boo, str, ints, aV, aTab, aInst, aS, aT, aC])
  · simp only [decide_eq_false_iff_not] at h
    obtain rfl : n = e.kids.length := by omega
    exact ret_d trivial (by rw [← hr, sizeW_eq, List.take_length]; rfl) (by simp only [ends, ite_true, ite_false, reduceIte, Nat.reduceEqDiff, Nat.reduceLeDiff, Nat.reduceLT, Nat.reduceAdd, reduceCtorEq, num, boo, str, ints, aV, aTab, aInst, aS, aT, aC])

theorem c_depth : ∀ e : Ex, Ok12 e → ACall Tryd.prog 121 [aE e] [] (num (depthW e)) [] :=
  ex_ind (p := fun e => Ok12 e → ACall Tryd.prog 121 [aE e] [] (num (depthW e)) []) fun e ih ho => by
  refine ACall.enter mixed ttok Tryd.func121 rfl rfl _ Tryd.ntmps121 (Nat.le_of_ble_eq_true rfl) (by kernel_rfl) _ (congrArg Array.toList Tryd.results121) ?_
  generalize hr : num (depthW e) = R
  have hl := ho.kids
  simp -implicitDefEqProofs only [argT, ↓steps, push_cast, reduceIte, Nat.reduceEqDiff, Nat.reduceAdd, Nat.reduceMul, Nat.reduceLT, Nat.reduceLeDiff, Int.reduceToNat, Int.reduceLE, Int.reduceLT, reduceCtorEq, tte, num, boo, str, ints, aV, aTab, aInst, aS, aT, aC]
  refine loop_count mixed ttok 9 [7, 8] [] (by simp only [pickT, ends, ite_true, ite_false, reduceIte, Nat.reduceEqDiff, Nat.reduceLeDiff, Nat.reduceLT, Nat.reduceAdd, reduceCtorEq, num, boo, str, ints, aV, aTab, aInst, aS, aT, aC]; rfl) (by simp only [pickO, consO_some, ends, ite_true, ite_false, reduceIte, Nat.reduceEqDiff, Nat.reduceLeDiff, Nat.reduceLT, Nat.reduceAdd, reduceCtorEq, num, boo, str, ints, aV, aTab, aInst, aS, aT, aC]; rfl) e.kids.length (fun n => depthL (depthL 0 (e.kids.take n)) (e.kids.drop n) = depthL 0 e.kids) (fun n => [(3, num (depthL 0 (e.kids.take n)))]) (fun _ => []) rfl ?_ ?_
  · exact Weak.keepL (by simp [cst, depthL, ends, ite_true, ite_false, reduceIte, Nat.reduceEqDiff, Nat.reduceLeDiff, Nat.reduceLT, Nat.reduceAdd, reduceCtorEq, num, boo, str, ints, aV, aTab, aInst, aS, aT, aC]) (by simp [cst, ends, ite_true, ite_false, reduceIte, Nat.reduceEqDiff, Nat.reduceLeDiff, Nat.reduceLT, Nat.reduceAdd, reduceCtorEq, num, boo, str, ints, aV, aTab, aInst, aS, aT, aC]) (by simp [cst, ends, ite_true, ite_false, reduceIte, Nat.reduceEqDiff, Nat.reduceLeDiff, Nat.reduceLT, Nat.reduceAdd, reduceCtorEq, num, boo, str, ints, aV, aTab, aInst, aS, aT, aC])
  intro I hI n hn hi
  simp -implicitDefEqProofs only [cst, ↓steps, push_cast, reduceIte, Nat.reduceEqDiff, Nat.reduceAdd, Nat.reduceMul, Nat.reduceLT, Nat.reduceLeDiff, Int.reduceToNat, Int.reduceLE, Int.reduceLT, reduceCtorEq, tte, num, boo, str, ints, aV, aTab, aInst, aS, aT, aC]
  refine bcase_intro (fun h => ?_) fun h => ?_
  · simp only [decide_eq_true_eq] at h
    have h' : n < e.kids.length := by omega
    have hw := wrap_succ h' (by omega)
    have ht := depthL_snoc (e.kids.getD n default) (e.kids.take n) 0
    rw [← take_snoc _ _ h'] at ht
    refine ⟨(by first | omega | trivial | (refine ⟨?_, ?_⟩ <;> first | omega | trivial | (refine ⟨?_, ?_⟩ <;> first | omega | trivial | (refine ⟨?_, ?_⟩ <;> first | omega | trivial | rfl)))), ?_⟩
    refine callx_of [[0, 0, 0, 0, 0, 6]] [] rfl (ih _ (getD_mem h') (ho.kid (getD_mem h'))) (by first | (simp; done) | (simp [rowsOf_length]; done) | (simp [rowsOf_length]; omega)) (by first | (simp only [ends, ite_true, ite_false, reduceIte, Nat.reduceEqDiff, Nat.reduceLeDiff, Nat.reduceLT, Nat.reduceAdd, reduceCtorEq, num, boo, str, ints, aV, aTab, aInst, aS, aT, aC, num, boo, str, aE_eq, aV]; done) | simp [ends, ite_true, ite_false, reduceIte, Nat.reduceEqDiff, Nat.reduceLeDiff, Nat.reduceLT, Nat.reduceAdd, reduceCtorEq, num, boo, str, ints, aV, aTab, aInst, aS, aT, aC, num, boo, str, aE_eq, aV]) (by first | rfl | (simp only [ends, ite_true, ite_false, reduceIte, Nat.reduceEqDiff, Nat.reduceLeDiff, Nat.reduceLT, Nat.reduceAdd, reduceCtorEq, num, boo, str, ints, aV, aTab, aInst, aS, aT, aC, num, boo, str, aE_eq, aV]; done) | simp [ends, ite_true, ite_false, reduceIte, Nat.reduceEqDiff, Nat.reduceLeDiff, Nat.reduceLT, Nat.reduceAdd, reduceCtorEq, num, boo, str, ints, aV, aTab, aInst, aS, aT, aC, num, boo, str, aE_eq, aV]) (by simp only [ends, ite_true, ite_false, reduceIte, Nat.reduceEqDiff, Nat.reduceLeDiff, Nat.reduceLT, Nat.reduceAdd, reduceCtorEq, num, boo, str, ints, aV, aTab, aInst, aS, aT, aC]) (by simp [idsOk, lookO, updO, ren1]) ?_
    simp -implicitDefEqProofs only [↓steps, push_cast, reduceIte, Nat.reduceEqDiff, Nat.reduceAdd, Nat.reduceMul, Nat.reduceLT, Nat.reduceLeDiff, Int.reduceToNat, Int.reduceLE, Int.reduceLT, reduceCtorEq, tte, num, boo, str, ints, aV, aTab, aInst, aS, aT, aC]
    exact cnt_again hI n rfl h' (by rw [drop_cons _ n h', depthL] at hi; rw [ht]; exact hi) (by simp only [hw, ht, ends, ite_true, ite_false, reduceIte, Nat.reduceEqDiff, Nat.reduceLeDiff, Nat.reduceLT, Nat.reduceAdd, reduceCtorEq, num, boo, str, ints, aV, aTab, aInst, aS, aT, aC]) (by simp [hw, ht, ends, ite_true, ite_false, reduceIte, Nat.reduceEqDiff, Nat.reduceLeDiff, Nat.reduceLT, Nat.reduceAdd, reduceCtorEq, num, boo, str, ints, aV, aTab, aInst, aS, aT, aC]) (by simp [hw, ht, ends, ite_true, ite_false, reduceIte, Nat.reduceEqDiff, Nat.reduceLeDiff, Nat.reduceLT, Nat.reduceAdd, reduceCtorEq, num, boo, str, ints, aV, aTab, aInst, aS, aT, aC]) (by simp [hw, ht, ends, ite_true, ite_false, reduceIte, Nat.reduceEqDiff, Nat.reduceLeDiff, Nat.reduceLT, Nat.reduceAdd, reduceCtorEq, num, boo, str, ints, aV, aTab, aInst, aS, aT, aC])
  · simp only [decide_eq_false_iff_not] at h
    obtain rfl : n = e.kids.length := by omega
    exact ret_d trivial (by rw [← hr, depthW_eq, List.take_length]; rfl) (by simp only [ends, ite_true, ite_false, reduceIte, Nat.reduceEqDiff, Nat.reduceLeDiff, Nat.reduceLT, Nat.reduceAdd, reduceCtorEq, num, boo, str, ints, aV, aTab, aInst, aS, aT, aC])

theorem c_rdepth : ∀ e : Ex, Ok12 e → ACall Tryd.prog 124 [aE e] [] (num (depthW e)) [] :=
  ex_ind (p := fun e => Ok12 e → ACall Tryd.prog 124 [aE e] [] (num (depthW e)) []) fun e ih ho => by
  refine ACall.enter mixed ttok Tryd.func124 rfl rfl _ Tryd.ntmps124 (Nat.le_of_ble_eq_true rfl) (by kernel_rfl) _ (congrArg Array.toList Tryd.results124) ?_
  generalize hr : num (depthW e) = R
  have hl := ho.kids
  simp -implicitDefEqProofs only [argT, ↓steps, push_cast, reduceIte, Nat.reduceEqDiff, Nat.reduceAdd, Nat.reduceMul, Nat.reduceLT, Nat.reduceLeDiff, Int.reduceToNat, Int.reduceLE, Int.reduceLT, reduceCtorEq, tte, num, boo, str, ints, aV, aTab, aInst, aS, aT, aC]
  refine loop_count mixed ttok 4 [1] [1] (by simp only [pickT, ends, ite_true, ite_false, reduceIte, Nat.reduceEqDiff, Nat.reduceLeDiff, Nat.reduceLT, Nat.reduceAdd, reduceCtorEq, num, boo, str, ints, aV, aTab, aInst, aS, aT, aC]; rfl) (by simp only [pickO, consO_some, ends, ite_true, ite_false, reduceIte, Nat.reduceEqDiff, Nat.reduceLeDiff, Nat.reduceLT, Nat.reduceAdd, reduceCtorEq, num, boo, str, ints, aV, aTab, aInst, aS, aT, aC]; rfl) e.kids.length (fun n => depthL (depthL 0 (e.kids.take n)) (e.kids.drop n) = depthL 0 e.kids) (fun n => [(3, num (depthL 0 (e.kids.take n)))]) (fun _ => []) rfl ?_ ?_
  · exact Weak.keepL (by simp [cst, depthL, ends, ite_true, ite_false, reduceIte, Nat.reduceEqDiff, Nat.reduceLeDiff, Nat.reduceLT, Nat.reduceAdd, reduceCtorEq, num, boo, str, ints, aV, aTab, aInst, aS, aT, aC]) (by simp [cst, ends, ite_true, ite_false, reduceIte, Nat.reduceEqDiff, Nat.reduceLeDiff, Nat.reduceLT, Nat.reduceAdd, reduceCtorEq, num, boo, str, ints, aV, aTab, aInst, aS, aT, aC]) (by simp [cst, ends, ite_true, ite_false, reduceIte, Nat.reduceEqDiff, Nat.reduceLeDiff, Nat.reduceLT, Nat.reduceAdd, reduceCtorEq, num, boo, str, ints, aV, aTab, aInst, aS, aT, aC])
  intro I hI n hn hi
  simp -implicitDefEqProofs only [cst, ↓steps, push_cast, reduceIte, Nat.reduceEqDiff, Nat.reduceAdd, Nat.reduceMul, Nat.reduceLT, Nat.reduceLeDiff, Int.reduceToNat, Int.reduceLE, Int.reduceLT, reduceCtorEq, tte, num, boo, str, ints, aV, aTab, aInst, aS, aT, aC]
  refine bcase_intro (fun h => ?_) fun h => ?_
  · simp only [decide_eq_true_eq] at h
    have h' : n < e.kids.length := by omega
    have hw := wrap_succ h' (by omega)
    have ht := depthL_snoc (e.kids.getD n default) (e.kids.take n) 0
    rw [← take_snoc _ _ h'] at ht
    refine ⟨(by first | omega | trivial | (refine ⟨?_, ?_⟩ <;> first | omega | trivial | (refine ⟨?_, ?_⟩ <;> first | omega | trivial | (refine ⟨?_, ?_⟩ <;> first | omega | trivial | rfl)))), ?_⟩
    refine callx_of [[0, 0, 0, 0, 0, 6]] [] rfl (ih _ (getD_mem h') (ho.kid (getD_mem h'))) (by first | (simp; done) | (simp [rowsOf_length]; done) | (simp [rowsOf_length]; omega)) (by first | (simp only [ends, ite_true, ite_false, reduceIte, Nat.reduceEqDiff, Nat.reduceLeDiff, Nat.reduceLT, Nat.reduceAdd, reduceCtorEq, num, boo, str, ints, aV, aTab, aInst, aS, aT, aC, num, boo, str, aE_eq, aV]; done) | simp [ends, ite_true, ite_false, reduceIte, Nat.reduceEqDiff, Nat.reduceLeDiff, Nat.reduceLT, Nat.reduceAdd, reduceCtorEq, num, boo, str, ints, aV, aTab, aInst, aS, aT, aC, num, boo, str, aE_eq, aV]) (by first | rfl | (simp only [ends, ite_true, ite_false, reduceIte, Nat.reduceEqDiff, Nat.reduceLeDiff, Nat.reduceLT, Nat.reduceAdd, reduceCtorEq, num, boo, str, ints, aV, aTab, aInst, aS, aT, aC, num, boo, str, aE_eq, aV]; done) | simp [ends, ite_true, ite_false, reduceIte, Nat.reduceEqDiff, Nat.reduceLeDiff, Nat.reduceLT, Nat.reduceAdd, reduceCtorEq, num, boo, str, ints, aV, aTab, aInst, aS, aT, aC, num, boo, str, aE_eq, aV]) (by simp only [ends, ite_true, ite_false, reduceIte, Nat.reduceEqDiff, Nat.reduceLeDiff, Nat.reduceLT, Nat.reduceAdd, reduceCtorEq, num, boo, str, ints, aV, aTab, aInst, aS, aT, aC]) (by simp [idsOk, lookO, updO, ren1]) ?_
    simp -implicitDefEqProofs only [↓steps, push_cast, reduceIte, Nat.reduceEqDiff, Nat.reduceAdd, Nat.reduceMul, Nat.reduceLT, Nat.reduceLeDiff, Int.reduceToNat, Int.reduceLE, Int.reduceLT, reduceCtorEq, tte, num, boo, str, ints, aV, aTab, aInst, aS, aT, aC]
    exact cnt_again hI n rfl h' (by rw [drop_cons _ n h', depthL] at hi; rw [ht]; exact hi) (by simp only [hw, ht, ends, ite_true, ite_false, reduceIte, Nat.reduceEqDiff, Nat.reduceLeDiff, Nat.reduceLT, Nat.reduceAdd, reduceCtorEq, num, boo, str, ints, aV, aTab, aInst, aS, aT, aC]) (by simp [hw, ht, ends, ite_true, ite_false, reduceIte, Nat.reduceEqDiff, Nat.reduceLeDiff, Nat.reduceLT, Nat.reduceAdd, reduceCtorEq, num, boo, str, ints, aV, aTab, aInst, aS, aT, aC]) (by simp [hw, ht, ends, ite_true, ite_false, reduceIte, Nat.reduceEqDiff, Nat.reduceLeDiff, Nat.reduceLT, Nat.reduceAdd, reduceCtorEq, num, boo, str, ints, aV, aTab, aInst, aS, aT, aC]) (by simp [hw, ht, ends, ite_true, ite_false, reduceIte, Nat.reduceEqDiff, Nat.reduceLeDiff, Nat.reduceLT, Nat.reduceAdd, reduceCtorEq, num, boo, str, ints, aV, aTab, aInst, aS, aT, aC])
  · simp only [decide_eq_false_iff_not] at h
    obtain rfl : n = e.kids.length := by omega
    exact ret_d trivial (by rw [← hr, depthW_eq, List.take_length]; rfl) (by simp only [ends, ite_true, ite_false, reduceIte, Nat.reduceEqDiff, Nat.reduceLeDiff, Nat.reduceLT, Nat.reduceAdd, reduceCtorEq, num, boo, str, ints, aV, aTab, aInst, aS, aT, aC])

theorem c_isType (k : Int) : ACall Tryd.prog 137 [num k] [] (boo ((k == 1 || k == 2) || k == 3)) [] := by
  refine ACall.enter mixed ttok Tryd.func137 rfl rfl _ Tryd.ntmps137 (Nat.le_of_ble_eq_true rfl) (by kernel_rfl) _ (congrArg Array.toList Tryd.results137) ?_
  generalize hr : boo ((k == 1 || k == 2) || k == 3) = R
  simp -implicitDefEqProofs only [argT, ↓steps, push_cast, reduceIte, Nat.reduceEqDiff, Nat.reduceAdd, Nat.reduceMul, Nat.reduceLT, Nat.reduceLeDiff, Int.reduceToNat, Int.reduceLE, Int.reduceLT, reduceCtorEq, tte, num, boo, str, ints, aV, aTab, aInst, aS, aT, aC]
  refine bcase_intro (fun h1 => ?_) fun h1 => ?_
  · exact ret_d trivial (by rw [← hr, h1, Bool.true_or, Bool.true_or]; rfl) (by simp only [ends, ite_true, ite_false, reduceIte, Nat.reduceEqDiff, Nat.reduceLeDiff, Nat.reduceLT, Nat.reduceAdd, reduceCtorEq, num, boo, str, ints, aV, aTab, aInst, aS, aT, aC])
  refine bcase_intro (fun h2 => ?_) fun h2 => ?_
  · exact ret_d trivial (by rw [← hr, h1, h2, Bool.or_true, Bool.true_or]; rfl) (by simp only [ends, ite_true, ite_false, reduceIte, Nat.reduceEqDiff, Nat.reduceLeDiff, Nat.reduceLT, Nat.reduceAdd, reduceCtorEq, num, boo, str, ints, aV, aTab, aInst, aS, aT, aC])
  · exact ret_d trivial (by rw [← hr, h1, h2, Bool.or_false, Bool.false_or]; rfl) (by simp only [ends, ite_true, ite_false, reduceIte, Nat.reduceEqDiff, Nat.reduceLeDiff, Nat.reduceLT, Nat.reduceAdd, reduceCtorEq, num, boo, str, ints, aV, aTab, aInst, aS, aT, aC])

/-- What an operation is; and whether there is one. -/
def opAt (op : Int) : OpD := opTab.getD op.toNat default
def isOp (op : Int) : Bool := decide (1 ≤ op) && decide (op ≤ 28)
def findM (op : Int) : OpD := if isOp op then opAt op else default
def aOp (o : OpD) : A := .agg [.d (.lit (.string o.word)), .d (.lit (.int .i64 o.kids)), .d (.lit (.int .i64 o.types)), .d (.lit (.int .i64 o.own))]

theorem flat4 : ∀ (l : List OpD) (n j : Nat), j < 4 → n < l.length → (List.map A.d (l.map rOp).flatten)[n * 4 + j]? = ((rOp (l.getD n default)).map A.d)[j]?
  | [], n, j, hj, h => by simp at h
  | o :: l, 0, j, hj, _ => by
    rw [List.map_cons, List.flatten_cons, List.map_append, Nat.zero_mul, Nat.zero_add, List.getElem?_append_left (by simpa [rOp] using hj)]
    rfl
  | o :: l, n + 1, j, hj, h => by
    rw [List.map_cons, List.flatten_cons, List.map_append, List.getElem?_append_right (by simp [rOp]; omega)]
    have : (n + 1) * 4 + j - (List.map A.d (rOp o)).length = n * 4 + j := by simp [rOp]; omega
    rw [this, flat4 l n j hj (by simpa using h)]
    simp
theorem flat4_drop : ∀ (l : List OpD) (n : Nat), n < l.length → ((List.map A.d (l.map rOp).flatten).drop (n * 4)).take 4 = (rOp (l.getD n default)).map A.d
  | [], n, h => by simp at h
  | o :: l, 0, _ => by
    rw [List.map_cons, List.flatten_cons, List.map_append, Nat.zero_mul, List.drop_zero, List.take_append_of_le_length (by simp [rOp])]
    simp [rOp]
  | o :: l, n + 1, h => by
    rw [List.map_cons, List.flatten_cons, List.map_append]
    have : (n + 1) * 4 = (List.map A.d (rOp o)).length + n * 4 := by simp [rOp]; omega
    rw [this, List.drop_append]
    simp only [List.drop_eq_nil_of_le (Nat.le_add_right _ _), Nat.add_sub_cancel_left, List.nil_append]
    rw [flat4_drop l n (by simpa using h)]
    simp
theorem word_some : ∀ n : Nat, 1 ≤ n → n < 29 → ((opTab.getD n default).word.toList == []) = false := by
  have h : (List.range 29).all (fun n => decide (n = 0) || !(opTab.getD n default).word.data.toList.isEmpty) = true := by decide
  intro n h1 h2
  have := all_range.1 h n h2
  rw [decide_eq_false (by omega), Bool.false_or] at this
  rw [ByteArray.toList_eq]
  cases hw : (opTab.getD n default).word.data.toList with
  | nil => rw [hw] at this; cases this
  | cons _ _ => rfl

theorem c_ofind (op : Int) : ACall Tryd.prog 83 [num op] [] (.tup [aOp (findM op), boo (isOp op)]) [] := by
  refine ACall.enter mixed ttok Tryd.func83 rfl rfl _ Tryd.ntmps83 (Nat.le_of_ble_eq_true rfl) (by kernel_rfl) _ (congrArg Array.toList Tryd.results83) ?_
  generalize hr : A.tup [aOp (findM op), boo (isOp op)] = R
  have he : (ByteArray.mk #[]).toList = [] := by simp [ByteArray.toList_eq]
  by_cases ho : 0 ≤ op ∧ op < 29
  · obtain ⟨h0, h29⟩ := ho
    have h1 : (List.map A.d opRow)[op.toNat * 4]? = some (.d (.lit (.string (opAt op).word))) := by
      have := flat4 opTab op.toNat 0 (by omega) (by rw [opTab_length]; omega)
      rw [Nat.add_zero] at this
      exact this
    have h4 := flat4_drop opTab op.toNat (by rw [opTab_length]; omega)
    have h3 : ((List.map A.d opRow).drop (op.toNat * 4)).take 4 = [.d (.lit (.string (opAt op).word)), .d (.lit (.int .i64 (opAt op).kids)), .d (.lit (.int .i64 (opAt op).types)), .d (.lit (.int .i64 (opAt op).own))] := h4
    simp -implicitDefEqProofs only [argT, tab0, he, h1, h3, ↓steps, push_cast, reduceIte, Nat.reduceEqDiff, Nat.reduceAdd, Nat.reduceMul, Nat.reduceLT, Nat.reduceLeDiff, Int.reduceToNat, Int.reduceLE, Int.reduceLT, reduceCtorEq, tte, num, boo, str, ints, aV, aTab, aInst, aS, aT, aC]
    refine bcase_intro (fun h => absurd h (by simp; omega)) fun _ => bcase_intro (fun h => absurd h (by simp; omega)) fun _ => ?_
    refine ⟨⟨h0, by omega⟩, ?_⟩
    subst hr
    by_cases hz : op = 0
    · subst hz
      have hw : ((opAt 0).word.toList == []) = true := by rw [ByteArray.toList_eq]; rfl
      refine bcase_intro (fun _ => ?_) fun h => absurd h (by rw [hw]; decide)
      refine retx_tup [[0, 0, 0, 0], [0]] rfl (by simp) (by first | (simp; done) | (simp [rowsOf_length]; done) | (simp [rowsOf_length]; omega)) ?_ (by first | rfl | simp only [ends, ite_true, ite_false, reduceIte, Nat.reduceEqDiff, Nat.reduceLeDiff, Nat.reduceLT, Nat.reduceAdd, reduceCtorEq, num, boo, str, ints, aV, aTab, aInst, aS, aT, aC] | (subst_vars; simp only [ends, ite_true, ite_false, reduceIte, Nat.reduceEqDiff, Nat.reduceLeDiff, Nat.reduceLT, Nat.reduceAdd, reduceCtorEq, num, boo, str, ints, aV, aTab, aInst, aS, aT, aC])) (by simp only [ends, ite_true, ite_false, reduceIte, Nat.reduceEqDiff, Nat.reduceLeDiff, Nat.reduceLT, Nat.reduceAdd, reduceCtorEq, num, boo, str, ints, aV, aTab, aInst, aS, aT, aC]) (by simp only [ends, ite_true, ite_false, reduceIte, Nat.reduceEqDiff, Nat.reduceLeDiff, Nat.reduceLT, Nat.reduceAdd, reduceCtorEq, num, boo, str, ints, aV, aTab, aInst, aS, aT, aC])
      rfl
    · have hw : ((opAt op).word.toList == []) = false := word_some op.toNat (by omega) (by omega)
      refine bcase_intro (fun h => absurd h (by rw [hw]; decide)) fun _ => ?_
      have hy : isOp op = true := by rw [isOp, decide_eq_true (by omega), decide_eq_true (by omega)]; rfl
      have hlen : (List.map A.d opRow).length = 116 := rfl
      refine ⟨⟨h0, by omega⟩, by rw [hlen]; omega, ?_⟩
      rw [findM, hy]
      refine retx_tup [[0, 0, 0, 0], [0]] rfl (by simp) (by first | (simp; done) | (simp [rowsOf_length]; done) | (simp [rowsOf_length]; omega)) ?_ (by first | rfl | simp only [ends, ite_true, ite_false, reduceIte, Nat.reduceEqDiff, Nat.reduceLeDiff, Nat.reduceLT, Nat.reduceAdd, reduceCtorEq, num, boo, str, ints, aV, aTab, aInst, aS, aT, aC] | (subst_vars; simp only [ends, ite_true, ite_false, reduceIte, Nat.reduceEqDiff, Nat.reduceLeDiff, Nat.reduceLT, Nat.reduceAdd, reduceCtorEq, num, boo, str, ints, aV, aTab, aInst, aS, aT, aC])) (by simp only [ends, ite_true, ite_false, reduceIte, Nat.reduceEqDiff, Nat.reduceLeDiff, Nat.reduceLT, Nat.reduceAdd, reduceCtorEq, num, boo, str, ints, aV, aTab, aInst, aS, aT, aC]) (by simp only [ends, ite_true, ite_false, reduceIte, Nat.reduceEqDiff, Nat.reduceLeDiff, Nat.reduceLT, Nat.reduceAdd, reduceCtorEq, num, boo, str, ints, aV, aTab, aInst, aS, aT, aC])
      rfl
  · have hn : isOp op = false := by
      rw [isOp, Bool.and_eq_false_iff, decide_eq_false_iff_not, decide_eq_false_iff_not]; omega
    simp -implicitDefEqProofs only [argT, tab0, he, ↓steps, push_cast, reduceIte, Nat.reduceEqDiff, Nat.reduceAdd, Nat.reduceMul, Nat.reduceLT, Nat.reduceLeDiff, Int.reduceToNat, Int.reduceLE, Int.reduceLT, reduceCtorEq, tte, num, boo, str, ints, aV, aTab, aInst, aS, aT, aC]
    have hf : A.tup [aOp default, boo false] = R := by rw [← hr, findM, hn]; rfl
    subst hf
    refine bcase_intro (fun g => ?_) fun g => ?_
    · refine retx_tup [[0, 0, 0, 0], [0]] rfl (by simp) (by first | (simp; done) | (simp [rowsOf_length]; done) | (simp [rowsOf_length]; omega)) ?_ (by first | rfl | simp only [ends, ite_true, ite_false, reduceIte, Nat.reduceEqDiff, Nat.reduceLeDiff, Nat.reduceLT, Nat.reduceAdd, reduceCtorEq, num, boo, str, ints, aV, aTab, aInst, aS, aT, aC] | (subst_vars; simp only [ends, ite_true, ite_false, reduceIte, Nat.reduceEqDiff, Nat.reduceLeDiff, Nat.reduceLT, Nat.reduceAdd, reduceCtorEq, num, boo, str, ints, aV, aTab, aInst, aS, aT, aC])) (by simp only [ends, ite_true, ite_false, reduceIte, Nat.reduceEqDiff, Nat.reduceLeDiff, Nat.reduceLT, Nat.reduceAdd, reduceCtorEq, num, boo, str, ints, aV, aTab, aInst, aS, aT, aC]) (by simp only [ends, ite_true, ite_false, reduceIte, Nat.reduceEqDiff, Nat.reduceLeDiff, Nat.reduceLT, Nat.reduceAdd, reduceCtorEq, num, boo, str, ints, aV, aTab, aInst, aS, aT, aC])
      rfl
    · refine bcase_intro (fun _ => ?_) fun h => absurd h (by simp at g; simp; omega)
      refine retx_tup [[0, 0, 0, 0], [0]] rfl (by simp) (by first | (simp; done) | (simp [rowsOf_length]; done) | (simp [rowsOf_length]; omega)) ?_ (by first | rfl | simp only [ends, ite_true, ite_false, reduceIte, Nat.reduceEqDiff, Nat.reduceLeDiff, Nat.reduceLT, Nat.reduceAdd, reduceCtorEq, num, boo, str, ints, aV, aTab, aInst, aS, aT, aC] | (subst_vars; simp only [ends, ite_true, ite_false, reduceIte, Nat.reduceEqDiff, Nat.reduceLeDiff, Nat.reduceLT, Nat.reduceAdd, reduceCtorEq, num, boo, str, ints, aV, aTab, aInst, aS, aT, aC])) (by simp only [ends, ite_true, ite_false, reduceIte, Nat.reduceEqDiff, Nat.reduceLeDiff, Nat.reduceLT, Nat.reduceAdd, reduceCtorEq, num, boo, str, ints, aV, aTab, aInst, aS, aT, aC]) (by simp only [ends, ite_true, ite_false, reduceIte, Nat.reduceEqDiff, Nat.reduceLeDiff, Nat.reduceLT, Nat.reduceAdd, reduceCtorEq, num, boo, str, ints, aV, aTab, aInst, aS, aT, aC])
      rfl
end Go.Proofs.YtkccdfaelbepeaaDoor

namespace Go.Proofs.YtkccdfaelbepeaaDoor
open Go.Am
set_option linter.unusedVariables false
set_option maxRecDepth 100000
set_option maxHeartbeats 4000000

/-- Has an expression as many operands as its operation has? -/
def countM (e : Ex) : Bool := isOp e.op && (((e.kids.length : Int) == (findM e.op).kids) || ((e.op == 28) && decide ((e.kids.length : Int) > (findM e.op).kids)))
theorem c_known (e : Ex) : ACall Tryd.prog 40 [aE e] [] (.tup [aOp (findM e.op), boo (isOp e.op), boo (countM e)]) [] := by
  refine ACall.enter mixed ttok Tryd.func40 rfl rfl _ Tryd.ntmps40 (Nat.le_of_ble_eq_true rfl) (by kernel_rfl) _ (congrArg Array.toList Tryd.results40) ?_
  obtain ⟨c, hc⟩ : ∃ c, countM e = c := ⟨_, rfl⟩
  rw [hc]
  have hM := hc
  rw [countM] at hM
  simp -implicitDefEqProofs only [argT, ↓steps, push_cast, reduceIte, Nat.reduceEqDiff, Nat.reduceAdd, Nat.reduceMul, Nat.reduceLT, Nat.reduceLeDiff, Int.reduceToNat, Int.reduceLE, Int.reduceLT, reduceCtorEq, tte, num, boo, str, ints, aV, aTab, aInst, aS, aT, aC]
  refine callx_of [[0]] [] rfl (c_ofind e.op) (by first | (simp; done) | (simp [rowsOf_length]; done) | (simp [rowsOf_length]; omega)) (by first | (simp only [ends, ite_true, ite_false, reduceIte, Nat.reduceEqDiff, Nat.reduceLeDiff, Nat.reduceLT, Nat.reduceAdd, reduceCtorEq, num, boo, str, ints, aV, aTab, aInst, aS, aT, aC, num, boo, str, aE_eq, aV]; done) | simp [ends, ite_true, ite_false, reduceIte, Nat.reduceEqDiff, Nat.reduceLeDiff, Nat.reduceLT, Nat.reduceAdd, reduceCtorEq, num, boo, str, ints, aV, aTab, aInst, aS, aT, aC, num, boo, str, aE_eq, aV]) (by first | rfl | (simp only [ends, ite_true, ite_false, reduceIte, Nat.reduceEqDiff, Nat.reduceLeDiff, Nat.reduceLT, Nat.reduceAdd, reduceCtorEq, num, boo, str, ints, aV, aTab, aInst, aS, aT, aC, num, boo, str, aE_eq, aV]; done) | simp [ends, ite_true, ite_false, reduceIte, Nat.reduceEqDiff, Nat.reduceLeDiff, Nat.reduceLT, Nat.reduceAdd, reduceCtorEq, num, boo, str, ints, aV, aTab, aInst, aS, aT, aC, num, boo, str, aE_eq, aV]) (by simp only [ends, ite_true, ite_false, reduceIte, Nat.reduceEqDiff, Nat.reduceLeDiff, Nat.reduceLT, Nat.reduceAdd, reduceCtorEq, num, boo, str, ints, aV, aTab, aInst, aS, aT, aC]) (by simp [idsOk, lookO, updO, ren1]) ?_
  generalize findM e.op = o at hM ⊢
  simp -implicitDefEqProofs only [aOp, ↓steps, push_cast, reduceIte, Nat.reduceEqDiff, Nat.reduceAdd, Nat.reduceMul, Nat.reduceLT, Nat.reduceLeDiff, Int.reduceToNat, Int.reduceLE, Int.reduceLT, reduceCtorEq, tte, num, boo, str, ints, aV, aTab, aInst, aS, aT, aC]
  have fin : ∀ b : Bool, b = c → A.tup [aOp o, boo (isOp e.op), boo b] = A.tup [aOp o, boo (isOp e.op), boo c] := fun b h => by rw [h]
  refine bcase_intro (fun g => ?_) fun g => ?_
  · rw [g, Bool.true_and] at hM
    refine bcase_intro (fun g1 => ?_) fun g1 => ?_
    · rw [g1, Bool.true_or] at hM
      refine ⟨drawx_intro (by kernel_rfl), ?_⟩
      subst hM
      refine retx_tup [[0, 0, 0, 0], [0], [0]] rfl (by simp) (by first | (simp; done) | (simp [rowsOf_length]; done) | (simp [rowsOf_length]; omega)) ?_ (by first | rfl | simp only [ends, ite_true, ite_false, reduceIte, Nat.reduceEqDiff, Nat.reduceLeDiff, Nat.reduceLT, Nat.reduceAdd, reduceCtorEq, num, boo, str, ints, aV, aTab, aInst, aS, aT, aC] | (subst_vars; simp only [ends, ite_true, ite_false, reduceIte, Nat.reduceEqDiff, Nat.reduceLeDiff, Nat.reduceLT, Nat.reduceAdd, reduceCtorEq, num, boo, str, ints, aV, aTab, aInst, aS, aT, aC])) (by simp only [ends, ite_true, ite_false, reduceIte, Nat.reduceEqDiff, Nat.reduceLeDiff, Nat.reduceLT, Nat.reduceAdd, reduceCtorEq, num, boo, str, ints, aV, aTab, aInst, aS, aT, aC]) (by simp only [ends, ite_true, ite_false, reduceIte, Nat.reduceEqDiff, Nat.reduceLeDiff, Nat.reduceLT, Nat.reduceAdd, reduceCtorEq, num, boo, str, ints, aV, aTab, aInst, aS, aT, aC])
      simp only [g]
    · rw [g1, Bool.false_or] at hM
      refine bcase_intro (fun g2 => ?_) fun g2 => ?_
      · rw [g2, Bool.true_and] at hM
        refine ⟨drawx_intro (by kernel_rfl), ?_⟩
        subst hM
        refine retx_tup [[0, 0, 0, 0], [0], [0]] rfl (by simp) (by first | (simp; done) | (simp [rowsOf_length]; done) | (simp [rowsOf_length]; omega)) ?_ (by first | rfl | simp only [ends, ite_true, ite_false, reduceIte, Nat.reduceEqDiff, Nat.reduceLeDiff, Nat.reduceLT, Nat.reduceAdd, reduceCtorEq, num, boo, str, ints, aV, aTab, aInst, aS, aT, aC] | (subst_vars; simp only [ends, ite_true, ite_false, reduceIte, Nat.reduceEqDiff, Nat.reduceLeDiff, Nat.reduceLT, Nat.reduceAdd, reduceCtorEq, num, boo, str, ints, aV, aTab, aInst, aS, aT, aC])) (by simp only [ends, ite_true, ite_false, reduceIte, Nat.reduceEqDiff, Nat.reduceLeDiff, Nat.reduceLT, Nat.reduceAdd, reduceCtorEq, num, boo, str, ints, aV, aTab, aInst, aS, aT, aC]) (by simp only [ends, ite_true, ite_false, reduceIte, Nat.reduceEqDiff, Nat.reduceLeDiff, Nat.reduceLT, Nat.reduceAdd, reduceCtorEq, num, boo, str, ints, aV, aTab, aInst, aS, aT, aC])
        simp only [g]
      · rw [g2, Bool.false_and] at hM
        refine ⟨drawx_intro (by kernel_rfl), ?_⟩
        subst hM
        refine retx_tup [[0, 0, 0, 0], [0], [0]] rfl (by simp) (by first | (simp; done) | (simp [rowsOf_length]; done) | (simp [rowsOf_length]; omega)) ?_ (by first | rfl | simp only [ends, ite_true, ite_false, reduceIte, Nat.reduceEqDiff, Nat.reduceLeDiff, Nat.reduceLT, Nat.reduceAdd, reduceCtorEq, num, boo, str, ints, aV, aTab, aInst, aS, aT, aC] | (subst_vars; simp only [ends, ite_true, ite_false, reduceIte, Nat.reduceEqDiff, Nat.reduceLeDiff, Nat.reduceLT, Nat.reduceAdd, reduceCtorEq, num, boo, str, ints, aV, aTab, aInst, aS, aT, aC])) (by simp only [ends, ite_true, ite_false, reduceIte, Nat.reduceEqDiff, Nat.reduceLeDiff, Nat.reduceLT, Nat.reduceAdd, reduceCtorEq, num, boo, str, ints, aV, aTab, aInst, aS, aT, aC]) (by simp only [ends, ite_true, ite_false, reduceIte, Nat.reduceEqDiff, Nat.reduceLeDiff, Nat.reduceLT, Nat.reduceAdd, reduceCtorEq, num, boo, str, ints, aV, aTab, aInst, aS, aT, aC])
        simp only [g]
  · rw [g, Bool.false_and] at hM
    refine ⟨drawx_intro (by kernel_rfl), ?_⟩
    subst hM
    refine retx_tup [[0, 0, 0, 0], [0], [0]] rfl (by simp) (by first | (simp; done) | (simp [rowsOf_length]; done) | (simp [rowsOf_length]; omega)) ?_ (by first | rfl | simp only [ends, ite_true, ite_false, reduceIte, Nat.reduceEqDiff, Nat.reduceLeDiff, Nat.reduceLT, Nat.reduceAdd, reduceCtorEq, num, boo, str, ints, aV, aTab, aInst, aS, aT, aC] | (subst_vars; simp only [ends, ite_true, ite_false, reduceIte, Nat.reduceEqDiff, Nat.reduceLeDiff, Nat.reduceLT, Nat.reduceAdd, reduceCtorEq, num, boo, str, ints, aV, aTab, aInst, aS, aT, aC])) (by simp only [ends, ite_true, ite_false, reduceIte, Nat.reduceEqDiff, Nat.reduceLeDiff, Nat.reduceLT, Nat.reduceAdd, reduceCtorEq, num, boo, str, ints, aV, aTab, aInst, aS, aT, aC]) (by simp only [ends, ite_true, ite_false, reduceIte, Nat.reduceEqDiff, Nat.reduceLeDiff, Nat.reduceLT, Nat.reduceAdd, reduceCtorEq, num, boo, str, ints, aV, aTab, aInst, aS, aT, aC])
    simp only [g]

def okF (e : Ex) : Bool :=
  if e.op = 1 then ((e.type == 1 || e.type == 2) || e.type == 3) else if e.op = 2 then validM ⟨1, e.num, ByteArray.empty⟩ else if e.op = 3 then validM ⟨2, e.num, ByteArray.empty⟩
  else if e.op = 4 then validM ⟨3, 0, e.text⟩ else true
def noT (e : Ex) : Bool := if e.op = 1 then true else e.type == 0
def noN (e : Ex) : Bool := if e.op = 2 then true else if e.op = 3 then true else e.num == 0
def noX (e : Ex) : Bool := if e.op = 4 then true else e.text.toList == []
def noC (e : Ex) : Bool := if e.op = 5 then true else e.col == 0
def cleanM (e : Ex) : Bool := (((okF e && noT e) && noN e) && noX e) && noC e
theorem c_clean (e : Ex) : ACall Tryd.prog 136 [aE e] [] (boo (cleanM e)) [] := by
  refine ACall.enter mixed ttok Tryd.func136 rfl rfl _ Tryd.ntmps136 (Nat.le_of_ble_eq_true rfl) (by kernel_rfl) _ (congrArg Array.toList Tryd.results136) ?_
  generalize hr : boo (cleanM e) = R
  have he : (ByteArray.mk #[]).toList = [] := by simp [ByteArray.toList_eq]
  have he2 : ByteArray.empty.toList = [] := by simp [ByteArray.toList_eq]
  have hh : (([] : List UInt8) == []) = true := rfl
  have h00 : ((0 : Int) == 0) = true := rfl
  simp -implicitDefEqProofs only [argT, he, hh, h00, ↓steps, push_cast, reduceIte, Nat.reduceEqDiff, Nat.reduceAdd, Nat.reduceMul, Nat.reduceLT, Nat.reduceLeDiff, Int.reduceToNat, Int.reduceLE, Int.reduceLT, reduceCtorEq, tte, num, boo, str, ints, aV, aTab, aInst, aS, aT, aC]
  refine bcase_intro (fun k1 => ?_) fun k1 => ?_
  · have hk : e.op = 1 := by simpa using k1
    have hM : cleanM e = ((((((e.type == 1 || e.type == 2) || e.type == 3) && true) && (e.num == 0)) && (e.text.toList == [])) && (e.col == 0)) := by simp [cleanM, okF, noT, noN, noX, noC, hk]
    refine callx_of [[0]] [] rfl (c_isType e.type) (by first | (simp; done) | (simp [rowsOf_length]; done) | (simp [rowsOf_length]; omega)) (by first | (simp only [ends, ite_true, ite_false, reduceIte, Nat.reduceEqDiff, Nat.reduceLeDiff, Nat.reduceLT, Nat.reduceAdd, reduceCtorEq, num, boo, str, ints, aV, aTab, aInst, aS, aT, aC, num, boo, str, aE_eq, aV]; done) | simp [ends, ite_true, ite_false, reduceIte, Nat.reduceEqDiff, Nat.reduceLeDiff, Nat.reduceLT, Nat.reduceAdd, reduceCtorEq, num, boo, str, ints, aV, aTab, aInst, aS, aT, aC, num, boo, str, aE_eq, aV]) (by first | rfl | (simp only [ends, ite_true, ite_false, reduceIte, Nat.reduceEqDiff, Nat.reduceLeDiff, Nat.reduceLT, Nat.reduceAdd, reduceCtorEq, num, boo, str, ints, aV, aTab, aInst, aS, aT, aC, num, boo, str, aE_eq, aV]; done) | simp [ends, ite_true, ite_false, reduceIte, Nat.reduceEqDiff, Nat.reduceLeDiff, Nat.reduceLT, Nat.reduceAdd, reduceCtorEq, num, boo, str, ints, aV, aTab, aInst, aS, aT, aC, num, boo, str, aE_eq, aV]) (by simp only [ends, ite_true, ite_false, reduceIte, Nat.reduceEqDiff, Nat.reduceLeDiff, Nat.reduceLT, Nat.reduceAdd, reduceCtorEq, num, boo, str, ints, aV, aTab, aInst, aS, aT, aC]) (by simp [idsOk, lookO, updO, ren1]) ?_
    simp -implicitDefEqProofs only [he, hh, h00, ↓steps, push_cast, reduceIte, Nat.reduceEqDiff, Nat.reduceAdd, Nat.reduceMul, Nat.reduceLT, Nat.reduceLeDiff, Int.reduceToNat, Int.reduceLE, Int.reduceLT, reduceCtorEq, tte, num, boo, str, ints, aV, aTab, aInst, aS, aT, aC]
    repeat' first | (refine bcase_intro (fun _ => ?_) fun _ => ?_) | exact ret_d trivial (by rw [← hr, hM]; simp only [*, Bool.true_and, Bool.and_true, Bool.false_and, boo]) (by simp only [ends, ite_true, ite_false, reduceIte, Nat.reduceEqDiff, Nat.reduceLeDiff, Nat.reduceLT, Nat.reduceAdd, reduceCtorEq, num, boo, str, ints, aV, aTab, aInst, aS, aT, aC])
  refine bcase_intro (fun k2 => ?_) fun k2 => ?_
  · have hk : e.op = 2 := by simpa using k2
    have hM : cleanM e = ((((validM ⟨1, e.num, ByteArray.empty⟩ && (e.type == 0)) && true) && (e.text.toList == [])) && (e.col == 0)) := by simp [cleanM, okF, noT, noN, noX, noC, hk]
    refine callx_of [[0, 0, 0]] [] rfl (c_valid ⟨1, e.num, ByteArray.empty⟩) (by first | (simp; done) | (simp [rowsOf_length]; done) | (simp [rowsOf_length]; omega)) (by first | (simp only [ends, ite_true, ite_false, reduceIte, Nat.reduceEqDiff, Nat.reduceLeDiff, Nat.reduceLT, Nat.reduceAdd, reduceCtorEq, num, boo, str, ints, aV, aTab, aInst, aS, aT, aC, num, boo, str, aE_eq, aV]; done) | simp [ends, ite_true, ite_false, reduceIte, Nat.reduceEqDiff, Nat.reduceLeDiff, Nat.reduceLT, Nat.reduceAdd, reduceCtorEq, num, boo, str, ints, aV, aTab, aInst, aS, aT, aC, num, boo, str, aE_eq, aV]) (by first | rfl | (simp only [ends, ite_true, ite_false, reduceIte, Nat.reduceEqDiff, Nat.reduceLeDiff, Nat.reduceLT, Nat.reduceAdd, reduceCtorEq, num, boo, str, ints, aV, aTab, aInst, aS, aT, aC, num, boo, str, aE_eq, aV]; done) | simp [ends, ite_true, ite_false, reduceIte, Nat.reduceEqDiff, Nat.reduceLeDiff, Nat.reduceLT, Nat.reduceAdd, reduceCtorEq, num, boo, str, ints, aV, aTab, aInst, aS, aT, aC, num, boo, str, aE_eq, aV]) (by simp only [ends, ite_true, ite_false, reduceIte, Nat.reduceEqDiff, Nat.reduceLeDiff, Nat.reduceLT, Nat.reduceAdd, reduceCtorEq, num, boo, str, ints, aV, aTab, aInst, aS, aT, aC]) (by simp [idsOk, lookO, updO, ren1]) ?_
    simp -implicitDefEqProofs only [he, he2, hh, h00, ↓steps, push_cast, reduceIte, Nat.reduceEqDiff, Nat.reduceAdd, Nat.reduceMul, Nat.reduceLT, Nat.reduceLeDiff, Int.reduceToNat, Int.reduceLE, Int.reduceLT, reduceCtorEq, tte, num, boo, str, ints, aV, aTab, aInst, aS, aT, aC]
    repeat' first | (refine bcase_intro (fun _ => ?_) fun _ => ?_) | exact ret_d trivial (by rw [← hr, hM]; simp only [*, Bool.true_and, Bool.and_true, Bool.false_and, boo]) (by simp only [ends, ite_true, ite_false, reduceIte, Nat.reduceEqDiff, Nat.reduceLeDiff, Nat.reduceLT, Nat.reduceAdd, reduceCtorEq, num, boo, str, ints, aV, aTab, aInst, aS, aT, aC])
  refine bcase_intro (fun k3 => ?_) fun k3 => ?_
  · have hk : e.op = 3 := by simpa using k3
    have hM : cleanM e = ((((validM ⟨2, e.num, ByteArray.empty⟩ && (e.type == 0)) && true) && (e.text.toList == [])) && (e.col == 0)) := by simp [cleanM, okF, noT, noN, noX, noC, hk]
    refine callx_of [[0, 0, 0]] [] rfl (c_valid ⟨2, e.num, ByteArray.empty⟩) (by first | (simp; done) | (simp [rowsOf_length]; done) | (simp [rowsOf_length]; omega)) (by first | (simp only [ends, ite_true, ite_false, reduceIte, Nat.reduceEqDiff, Nat.reduceLeDiff, Nat.reduceLT, Nat.reduceAdd, reduceCtorEq, num, boo, str, ints, aV, aTab, aInst, aS, aT, aC, num, boo, str, aE_eq, aV]; done) | simp [ends, ite_true, ite_false, reduceIte, Nat.reduceEqDiff, Nat.reduceLeDiff, Nat.reduceLT, Nat.reduceAdd, reduceCtorEq, num, boo, str, ints, aV, aTab, aInst, aS, aT, aC, num, boo, str, aE_eq, aV]) (by first | rfl | (simp only [ends, ite_true, ite_false, reduceIte, Nat.reduceEqDiff, Nat.reduceLeDiff, Nat.reduceLT, Nat.reduceAdd, reduceCtorEq, num, boo, str, ints, aV, aTab, aInst, aS, aT, aC, num, boo, str, aE_eq, aV]; done) | simp [ends, ite_true, ite_false, reduceIte, Nat.reduceEqDiff, Nat.reduceLeDiff, Nat.reduceLT, Nat.reduceAdd, reduceCtorEq, num, boo, str, ints, aV, aTab, aInst, aS, aT, aC, num, boo, str, aE_eq, aV]) (by simp only [ends, ite_true, ite_false, reduceIte, Nat.reduceEqDiff, Nat.reduceLeDiff, Nat.reduceLT, Nat.reduceAdd, reduceCtorEq, num, boo, str, ints, aV, aTab, aInst, aS, aT, aC]) (by simp [idsOk, lookO, updO, ren1]) ?_
    simp -implicitDefEqProofs only [he, he2, hh, h00, ↓steps, push_cast, reduceIte, Nat.reduceEqDiff, Nat.reduceAdd, Nat.reduceMul, Nat.reduceLT, Nat.reduceLeDiff, Int.reduceToNat, Int.reduceLE, Int.reduceLT, reduceCtorEq, tte, num, boo, str, ints, aV, aTab, aInst, aS, aT, aC]
    repeat' first | (refine bcase_intro (fun _ => ?_) fun _ => ?_) | exact ret_d trivial (by rw [← hr, hM]; simp only [*, Bool.true_and, Bool.and_true, Bool.false_and, boo]) (by simp only [ends, ite_true, ite_false, reduceIte, Nat.reduceEqDiff, Nat.reduceLeDiff, Nat.reduceLT, Nat.reduceAdd, reduceCtorEq, num, boo, str, ints, aV, aTab, aInst, aS, aT, aC])
  refine bcase_intro (fun k4 => ?_) fun k4 => ?_
  · have hk : e.op = 4 := by simpa using k4
    have hM : cleanM e = ((((validM ⟨3, 0, e.text⟩ && (e.type == 0)) && (e.num == 0)) && true) && (e.col == 0)) := by simp [cleanM, okF, noT, noN, noX, noC, hk]
    refine callx_of [[0, 0, 0]] [] rfl (c_valid ⟨3, 0, e.text⟩) (by first | (simp; done) | (simp [rowsOf_length]; done) | (simp [rowsOf_length]; omega)) (by first | (simp only [ends, ite_true, ite_false, reduceIte, Nat.reduceEqDiff, Nat.reduceLeDiff, Nat.reduceLT, Nat.reduceAdd, reduceCtorEq, num, boo, str, ints, aV, aTab, aInst, aS, aT, aC, num, boo, str, aE_eq, aV]; done) | simp [ends, ite_true, ite_false, reduceIte, Nat.reduceEqDiff, Nat.reduceLeDiff, Nat.reduceLT, Nat.reduceAdd, reduceCtorEq, num, boo, str, ints, aV, aTab, aInst, aS, aT, aC, num, boo, str, aE_eq, aV]) (by first | rfl | (simp only [ends, ite_true, ite_false, reduceIte, Nat.reduceEqDiff, Nat.reduceLeDiff, Nat.reduceLT, Nat.reduceAdd, reduceCtorEq, num, boo, str, ints, aV, aTab, aInst, aS, aT, aC, num, boo, str, aE_eq, aV]; done) | simp [ends, ite_true, ite_false, reduceIte, Nat.reduceEqDiff, Nat.reduceLeDiff, Nat.reduceLT, Nat.reduceAdd, reduceCtorEq, num, boo, str, ints, aV, aTab, aInst, aS, aT, aC, num, boo, str, aE_eq, aV]) (by simp only [ends, ite_true, ite_false, reduceIte, Nat.reduceEqDiff, Nat.reduceLeDiff, Nat.reduceLT, Nat.reduceAdd, reduceCtorEq, num, boo, str, ints, aV, aTab, aInst, aS, aT, aC]) (by simp [idsOk, lookO, updO, ren1]) ?_
    simp -implicitDefEqProofs only [he, he2, hh, h00, ↓steps, push_cast, reduceIte, Nat.reduceEqDiff, Nat.reduceAdd, Nat.reduceMul, Nat.reduceLT, Nat.reduceLeDiff, Int.reduceToNat, Int.reduceLE, Int.reduceLT, reduceCtorEq, tte, num, boo, str, ints, aV, aTab, aInst, aS, aT, aC]
    repeat' first | (refine bcase_intro (fun _ => ?_) fun _ => ?_) | exact ret_d trivial (by rw [← hr, hM]; simp only [*, Bool.true_and, Bool.and_true, Bool.false_and, boo]) (by simp only [ends, ite_true, ite_false, reduceIte, Nat.reduceEqDiff, Nat.reduceLeDiff, Nat.reduceLT, Nat.reduceAdd, reduceCtorEq, num, boo, str, ints, aV, aTab, aInst, aS, aT, aC])
  refine bcase_intro (fun k5 => ?_) fun k5 => ?_
  · have hk : e.op = 5 := by simpa using k5
    have hM : cleanM e = ((((true && (e.type == 0)) && (e.num == 0)) && (e.text.toList == [])) && true) := by simp [cleanM, okF, noT, noN, noX, noC, hk]
    repeat' first | (refine bcase_intro (fun _ => ?_) fun _ => ?_) | exact ret_d trivial (by rw [← hr, hM]; simp only [*, Bool.true_and, Bool.and_true, Bool.false_and, boo]) (by simp only [ends, ite_true, ite_false, reduceIte, Nat.reduceEqDiff, Nat.reduceLeDiff, Nat.reduceLT, Nat.reduceAdd, reduceCtorEq, num, boo, str, ints, aV, aTab, aInst, aS, aT, aC])
  have hk1 : ¬ e.op = 1 := by simpa using k1
  have hk2 : ¬ e.op = 2 := by simpa using k2
  have hk3 : ¬ e.op = 3 := by simpa using k3
  have hk4 : ¬ e.op = 4 := by simpa using k4
  have hk5 : ¬ e.op = 5 := by simpa using k5
  have hM : cleanM e = ((((true && (e.type == 0)) && (e.num == 0)) && (e.text.toList == [])) && (e.col == 0)) := by simp [cleanM, okF, noT, noN, noX, noC, hk1, hk2, hk3, hk4, hk5]
  repeat' first | (refine bcase_intro (fun _ => ?_) fun _ => ?_) | exact ret_d trivial (by rw [← hr, hM]; simp only [*, Bool.true_and, Bool.and_true, Bool.false_and, boo]) (by simp only [ends, ite_true, ite_false, reduceIte, Nat.reduceEqDiff, Nat.reduceLeDiff, Nat.reduceLT, Nat.reduceAdd, reduceCtorEq, num, boo, str, ints, aV, aTab, aInst, aS, aT, aC])
end Go.Proofs.YtkccdfaelbepeaaDoor

namespace Go.Proofs.YtkccdfaelbepeaaDoor
open Go.Am
set_option linter.unusedVariables false
set_option maxRecDepth 100000
set_option maxHeartbeats 4000000

theorem c_ne (x t : Int) : ACall Tryd.prog 148 [num x, .ptr 1000 0] [(1000, .var [num t])] (boo (x != t)) [(1000, .var [num t])] := by
  refine ACall.enter mixed ttok Tryd.func148 rfl rfl _ Tryd.ntmps148 (Nat.le_of_ble_eq_true rfl) (by kernel_rfl) _ (congrArg Array.toList Tryd.results148) ?_
  generalize hr : boo (x != t) = R
  simp -implicitDefEqProofs only [argT, ↓steps, push_cast, reduceIte, Nat.reduceEqDiff, Nat.reduceAdd, Nat.reduceMul, Nat.reduceLT, Nat.reduceLeDiff, Int.reduceToNat, Int.reduceLE, Int.reduceLT, reduceCtorEq, tte, num, boo, str, ints, aV, aTab, aInst, aS, aT, aC]
  refine retx_of [0] rfl (by simp) (by first | (simp; done) | (simp [rowsOf_length]; done) | (simp [rowsOf_length]; omega)) ?_ (by first | rfl | simp only [ends, ite_true, ite_false, reduceIte, Nat.reduceEqDiff, Nat.reduceLeDiff, Nat.reduceLT, Nat.reduceAdd, reduceCtorEq, num, boo, str, ints, aV, aTab, aInst, aS, aT, aC] | (subst_vars; simp only [ends, ite_true, ite_false, reduceIte, Nat.reduceEqDiff, Nat.reduceLeDiff, Nat.reduceLT, Nat.reduceAdd, reduceCtorEq, num, boo, str, ints, aV, aTab, aInst, aS, aT, aC])) (by simp only [ends, ite_true, ite_false, reduceIte, Nat.reduceEqDiff, Nat.reduceLeDiff, Nat.reduceLT, Nat.reduceAdd, reduceCtorEq, num, boo, str, ints, aV, aTab, aInst, aS, aT, aC]) (by simp only [ends, ite_true, ite_false, reduceIte, Nat.reduceEqDiff, Nat.reduceLeDiff, Nat.reduceLT, Nat.reduceAdd, reduceCtorEq, num, boo, str, ints, aV, aTab, aInst, aS, aT, aC])
  exact hr
theorem c_idxN (l : List Int) (t : Int) (hl : l.length ≤ 1000000000) :
    ACall Tryd.prog 135 [ints l, .clo 148 [.ptr 1000 0]] [(1000, .var [num t])] (num (fidx (fun x => x != t) l)) [(1000, .var [num t])] := by
  refine ACall.enter mixed ttok Tryd.func135 rfl rfl _ Tryd.ntmps135 (Nat.le_of_ble_eq_true rfl) (by kernel_rfl) _ (congrArg Array.toList Tryd.results135) ?_
  generalize hr : num (fidx (fun x => x != t) l) = R
  simp -implicitDefEqProofs only [argT, ↓steps, push_cast, reduceIte, Nat.reduceEqDiff, Nat.reduceAdd, Nat.reduceMul, Nat.reduceLT, Nat.reduceLeDiff, Int.reduceToNat, Int.reduceLE, Int.reduceLT, reduceCtorEq, tte, num, boo, str, ints, aV, aTab, aInst, aS, aT, aC]
  refine loop_count mixed ttok 8 [0, 1, 6, 7] [1000] (by simp only [pickT, ends, ite_true, ite_false, reduceIte, Nat.reduceEqDiff, Nat.reduceLeDiff, Nat.reduceLT, Nat.reduceAdd, reduceCtorEq, num, boo, str, ints, aV, aTab, aInst, aS, aT, aC]; rfl) (by simp only [pickO, consO_some, ends, ite_true, ite_false, reduceIte, Nat.reduceEqDiff, Nat.reduceLeDiff, Nat.reduceLT, Nat.reduceAdd, reduceCtorEq, num, boo, str, ints, aV, aTab, aInst, aS, aT, aC]; rfl) l.length (fun n => ∀ i, i < n → (l.getD i default != t) = false) (fun _ => []) (fun _ => []) (fun i h => absurd h (Nat.not_lt_zero _)) ?_ ?_
  · exact Weak.keepL (by simp [cst, ends, ite_true, ite_false, reduceIte, Nat.reduceEqDiff, Nat.reduceLeDiff, Nat.reduceLT, Nat.reduceAdd, reduceCtorEq, num, boo, str, ints, aV, aTab, aInst, aS, aT, aC]) (by simp [cst, ends, ite_true, ite_false, reduceIte, Nat.reduceEqDiff, Nat.reduceLeDiff, Nat.reduceLT, Nat.reduceAdd, reduceCtorEq, num, boo, str, ints, aV, aTab, aInst, aS, aT, aC]) (by simp [cst, ends, ite_true, ite_false, reduceIte, Nat.reduceEqDiff, Nat.reduceLeDiff, Nat.reduceLT, Nat.reduceAdd, reduceCtorEq, num, boo, str, ints, aV, aTab, aInst, aS, aT, aC])
  intro I hI n hn hi
  simp -implicitDefEqProofs only [cst, ↓steps, push_cast, reduceIte, Nat.reduceEqDiff, Nat.reduceAdd, Nat.reduceMul, Nat.reduceLT, Nat.reduceLeDiff, Int.reduceToNat, Int.reduceLE, Int.reduceLT, reduceCtorEq, tte, num, boo, str, ints, aV, aTab, aInst, aS, aT, aC]
  refine bcase_intro (fun h => ?_) fun h => ?_
  · simp only [decide_eq_true_eq] at h
    have h' : n < l.length := by omega
    have hw := wrap_succ h' (by omega)
    refine ⟨(by first | omega | trivial | (refine ⟨?_, ?_⟩ <;> first | omega | trivial | (refine ⟨?_, ?_⟩ <;> first | omega | trivial | (refine ⟨?_, ?_⟩ <;> first | omega | trivial | rfl)))), ?_⟩
    refine callx_of [[0], []] [(1000, 1000)] rfl (c_ne (l.getD n default) t) (by first | (simp; done) | (simp [rowsOf_length]; done) | (simp [rowsOf_length]; omega)) (by first | (simp only [ends, ite_true, ite_false, reduceIte, Nat.reduceEqDiff, Nat.reduceLeDiff, Nat.reduceLT, Nat.reduceAdd, reduceCtorEq, num, boo, str, ints, aV, aTab, aInst, aS, aT, aC, num, boo, str, aE_eq, aV]; done) | simp [ends, ite_true, ite_false, reduceIte, Nat.reduceEqDiff, Nat.reduceLeDiff, Nat.reduceLT, Nat.reduceAdd, reduceCtorEq, num, boo, str, ints, aV, aTab, aInst, aS, aT, aC, num, boo, str, aE_eq, aV]) (by first | rfl | (simp only [ends, ite_true, ite_false, reduceIte, Nat.reduceEqDiff, Nat.reduceLeDiff, Nat.reduceLT, Nat.reduceAdd, reduceCtorEq, num, boo, str, ints, aV, aTab, aInst, aS, aT, aC, num, boo, str, aE_eq, aV]; done) | simp [ends, ite_true, ite_false, reduceIte, Nat.reduceEqDiff, Nat.reduceLeDiff, Nat.reduceLT, Nat.reduceAdd, reduceCtorEq, num, boo, str, ints, aV, aTab, aInst, aS, aT, aC, num, boo, str, aE_eq, aV]) (by simp only [ends, ite_true, ite_false, reduceIte, Nat.reduceEqDiff, Nat.reduceLeDiff, Nat.reduceLT, Nat.reduceAdd, reduceCtorEq, num, boo, str, ints, aV, aTab, aInst, aS, aT, aC]) (by simp [idsOk, lookO, updO, ren1]) ?_
    simp -implicitDefEqProofs only [↓steps, push_cast, reduceIte, Nat.reduceEqDiff, Nat.reduceAdd, Nat.reduceMul, Nat.reduceLT, Nat.reduceLeDiff, Int.reduceToNat, Int.reduceLE, Int.reduceLT, reduceCtorEq, tte, num, boo, str, ints, aV, aTab, aInst, aS, aT, aC]
    refine bcase_intro (fun g => ?_) fun g => ?_
    · refine retx_of [0] rfl (by simp) (by first | (simp; done) | (simp [rowsOf_length]; done) | (simp [rowsOf_length]; omega)) ?_ (by first | rfl | simp only [ends, ite_true, ite_false, reduceIte, Nat.reduceEqDiff, Nat.reduceLeDiff, Nat.reduceLT, Nat.reduceAdd, reduceCtorEq, num, boo, str, ints, aV, aTab, aInst, aS, aT, aC] | (subst_vars; simp only [ends, ite_true, ite_false, reduceIte, Nat.reduceEqDiff, Nat.reduceLeDiff, Nat.reduceLT, Nat.reduceAdd, reduceCtorEq, num, boo, str, ints, aV, aTab, aInst, aS, aT, aC])) (by simp only [ends, ite_true, ite_false, reduceIte, Nat.reduceEqDiff, Nat.reduceLeDiff, Nat.reduceLT, Nat.reduceAdd, reduceCtorEq, num, boo, str, ints, aV, aTab, aInst, aS, aT, aC]) (by simp only [ends, ite_true, ite_false, reduceIte, Nat.reduceEqDiff, Nat.reduceLeDiff, Nat.reduceLT, Nat.reduceAdd, reduceCtorEq, num, boo, str, ints, aV, aTab, aInst, aS, aT, aC])
      rw [← hr, fidx_at _ l n h' hi g]; rfl
    · exact cnt_again hI n rfl h' (fun i h2 => if h3 : i = n then by rw [h3]; exact g else hi i (by omega)) (by simp only [hw, ends, ite_true, ite_false, reduceIte, Nat.reduceEqDiff, Nat.reduceLeDiff, Nat.reduceLT, Nat.reduceAdd, reduceCtorEq, num, boo, str, ints, aV, aTab, aInst, aS, aT, aC]) (by simp [hw, ends, ite_true, ite_false, reduceIte, Nat.reduceEqDiff, Nat.reduceLeDiff, Nat.reduceLT, Nat.reduceAdd, reduceCtorEq, num, boo, str, ints, aV, aTab, aInst, aS, aT, aC]) (by simp [hw, ends, ite_true, ite_false, reduceIte, Nat.reduceEqDiff, Nat.reduceLeDiff, Nat.reduceLT, Nat.reduceAdd, reduceCtorEq, num, boo, str, ints, aV, aTab, aInst, aS, aT, aC]) (by simp [hw, ends, ite_true, ite_false, reduceIte, Nat.reduceEqDiff, Nat.reduceLeDiff, Nat.reduceLT, Nat.reduceAdd, reduceCtorEq, num, boo, str, ints, aV, aTab, aInst, aS, aT, aC])
  · simp only [decide_eq_false_iff_not] at h
    obtain rfl : n = l.length := by omega
    refine retx_of [0] rfl (by simp) (by first | (simp; done) | (simp [rowsOf_length]; done) | (simp [rowsOf_length]; omega)) ?_ (by first | rfl | simp only [ends, ite_true, ite_false, reduceIte, Nat.reduceEqDiff, Nat.reduceLeDiff, Nat.reduceLT, Nat.reduceAdd, reduceCtorEq, num, boo, str, ints, aV, aTab, aInst, aS, aT, aC] | (subst_vars; simp only [ends, ite_true, ite_false, reduceIte, Nat.reduceEqDiff, Nat.reduceLeDiff, Nat.reduceLT, Nat.reduceAdd, reduceCtorEq, num, boo, str, ints, aV, aTab, aInst, aS, aT, aC])) (by simp only [ends, ite_true, ite_false, reduceIte, Nat.reduceEqDiff, Nat.reduceLeDiff, Nat.reduceLT, Nat.reduceAdd, reduceCtorEq, num, boo, str, ints, aV, aTab, aInst, aS, aT, aC]) (by simp only [ends, ite_true, ite_false, reduceIte, Nat.reduceEqDiff, Nat.reduceLeDiff, Nat.reduceLT, Nat.reduceAdd, reduceCtorEq, num, boo, str, ints, aV, aTab, aInst, aS, aT, aC])
    rw [← hr, fidx_none _ l hi]; rfl
theorem c_containsN (l : List Int) (t : Int) (hl : l.length ≤ 1000000000) :
    ACall Tryd.prog 117 [ints l, .clo 148 [.ptr 1000 0]] [(1000, .var [num t])] (boo (l.any fun x => x != t)) [(1000, .var [num t])] := by
  refine ACall.enter mixed ttok Tryd.func117 rfl rfl _ Tryd.ntmps117 (Nat.le_of_ble_eq_true rfl) (by kernel_rfl) _ (congrArg Array.toList Tryd.results117) ?_
  generalize hr : boo (l.any fun x => x != t) = R
  simp -implicitDefEqProofs only [argT, ↓steps, push_cast, reduceIte, Nat.reduceEqDiff, Nat.reduceAdd, Nat.reduceMul, Nat.reduceLT, Nat.reduceLeDiff, Int.reduceToNat, Int.reduceLE, Int.reduceLT, reduceCtorEq, tte, num, boo, str, ints, aV, aTab, aInst, aS, aT, aC]
  refine callx_of [[1], []] [(1000, 1000)] rfl (c_idxN l t hl) (by first | (simp; done) | (simp [rowsOf_length]; done) | (simp [rowsOf_length]; omega)) (by first | (simp only [ends, ite_true, ite_false, reduceIte, Nat.reduceEqDiff, Nat.reduceLeDiff, Nat.reduceLT, Nat.reduceAdd, reduceCtorEq, num, boo, str, ints, aV, aTab, aInst, aS, aT, aC, num, boo, str, aE_eq, aV]; done) | simp [ends, ite_true, ite_false, reduceIte, Nat.reduceEqDiff, Nat.reduceLeDiff, Nat.reduceLT, Nat.reduceAdd, reduceCtorEq, num, boo, str, ints, aV, aTab, aInst, aS, aT, aC, num, boo, str, aE_eq, aV]) (by first | rfl | (simp only [ends, ite_true, ite_false, reduceIte, Nat.reduceEqDiff, Nat.reduceLeDiff, Nat.reduceLT, Nat.reduceAdd, reduceCtorEq, num, boo, str, ints, aV, aTab, aInst, aS, aT, aC, num, boo, str, aE_eq, aV]; done) | simp [ends, ite_true, ite_false, reduceIte, Nat.reduceEqDiff, Nat.reduceLeDiff, Nat.reduceLT, Nat.reduceAdd, reduceCtorEq, num, boo, str, ints, aV, aTab, aInst, aS, aT, aC, num, boo, str, aE_eq, aV]) (by simp only [ends, ite_true, ite_false, reduceIte, Nat.reduceEqDiff, Nat.reduceLeDiff, Nat.reduceLT, Nat.reduceAdd, reduceCtorEq, num, boo, str, ints, aV, aTab, aInst, aS, aT, aC]) (by simp [idsOk, lookO, updO, ren1]) ?_
  simp -implicitDefEqProofs only [↓steps, push_cast, reduceIte, Nat.reduceEqDiff, Nat.reduceAdd, Nat.reduceMul, Nat.reduceLT, Nat.reduceLeDiff, Int.reduceToNat, Int.reduceLE, Int.reduceLT, reduceCtorEq, tte, num, boo, str, ints, aV, aTab, aInst, aS, aT, aC]
  refine retx_of [0] rfl (by simp) (by first | (simp; done) | (simp [rowsOf_length]; done) | (simp [rowsOf_length]; omega)) ?_ (by first | rfl | simp only [ends, ite_true, ite_false, reduceIte, Nat.reduceEqDiff, Nat.reduceLeDiff, Nat.reduceLT, Nat.reduceAdd, reduceCtorEq, num, boo, str, ints, aV, aTab, aInst, aS, aT, aC] | (subst_vars; simp only [ends, ite_true, ite_false, reduceIte, Nat.reduceEqDiff, Nat.reduceLeDiff, Nat.reduceLT, Nat.reduceAdd, reduceCtorEq, num, boo, str, ints, aV, aTab, aInst, aS, aT, aC])) (by simp only [ends, ite_true, ite_false, reduceIte, Nat.reduceEqDiff, Nat.reduceLeDiff, Nat.reduceLT, Nat.reduceAdd, reduceCtorEq, num, boo, str, ints, aV, aTab, aInst, aS, aT, aC]) (by simp only [ends, ite_true, ite_false, reduceIte, Nat.reduceEqDiff, Nat.reduceLeDiff, Nat.reduceLT, Nat.reduceAdd, reduceCtorEq, num, boo, str, ints, aV, aTab, aInst, aS, aT, aC])
  rw [← hr, ← any_fidx]; rfl
theorem c_every (l : List Int) (t : Int) (hl : l.length ≤ 1000000000) : ACall Tryd.prog 147 [num t, ints l] [] (boo (l.all fun x => x == t)) [] := by
  refine ACall.enter mixed ttok Tryd.func147 rfl rfl _ Tryd.ntmps147 (Nat.le_of_ble_eq_true rfl) (by kernel_rfl) _ (congrArg Array.toList Tryd.results147) ?_
  generalize hr : boo (l.all fun x => x == t) = R
  simp -implicitDefEqProofs only [argT, ↓steps, push_cast, reduceIte, Nat.reduceEqDiff, Nat.reduceAdd, Nat.reduceMul, Nat.reduceLT, Nat.reduceLeDiff, Int.reduceToNat, Int.reduceLE, Int.reduceLT, reduceCtorEq, tte, num, boo, str, ints, aV, aTab, aInst, aS, aT, aC]
  refine callx_of [[1], []] [(1000, 2)] rfl (c_containsN l t hl) (by first | (simp; done) | (simp [rowsOf_length]; done) | (simp [rowsOf_length]; omega)) (by first | (simp only [ends, ite_true, ite_false, reduceIte, Nat.reduceEqDiff, Nat.reduceLeDiff, Nat.reduceLT, Nat.reduceAdd, reduceCtorEq, num, boo, str, ints, aV, aTab, aInst, aS, aT, aC, num, boo, str, aE_eq, aV]; done) | simp [ends, ite_true, ite_false, reduceIte, Nat.reduceEqDiff, Nat.reduceLeDiff, Nat.reduceLT, Nat.reduceAdd, reduceCtorEq, num, boo, str, ints, aV, aTab, aInst, aS, aT, aC, num, boo, str, aE_eq, aV]) (by first | rfl | (simp only [ends, ite_true, ite_false, reduceIte, Nat.reduceEqDiff, Nat.reduceLeDiff, Nat.reduceLT, Nat.reduceAdd, reduceCtorEq, num, boo, str, ints, aV, aTab, aInst, aS, aT, aC, num, boo, str, aE_eq, aV]; done) | simp [ends, ite_true, ite_false, reduceIte, Nat.reduceEqDiff, Nat.reduceLeDiff, Nat.reduceLT, Nat.reduceAdd, reduceCtorEq, num, boo, str, ints, aV, aTab, aInst, aS, aT, aC, num, boo, str, aE_eq, aV]) (by simp only [ends, ite_true, ite_false, reduceIte, Nat.reduceEqDiff, Nat.reduceLeDiff, Nat.reduceLT, Nat.reduceAdd, reduceCtorEq, num, boo, str, ints, aV, aTab, aInst, aS, aT, aC]) (by simp [idsOk, lookO, updO, ren1]) ?_
  simp -implicitDefEqProofs only [↓steps, push_cast, reduceIte, Nat.reduceEqDiff, Nat.reduceAdd, Nat.reduceMul, Nat.reduceLT, Nat.reduceLeDiff, Int.reduceToNat, Int.reduceLE, Int.reduceLT, reduceCtorEq, tte, num, boo, str, ints, aV, aTab, aInst, aS, aT, aC]
  have : (l.all fun x => x == t) = !(l.any fun x => x != t) := by
    rw [List.not_any_eq_all_not]; simp [bne]
  exact ret_d trivial (by rw [← hr, this]; rfl) (by simp only [ends, ite_true, ite_false, reduceIte, Nat.reduceEqDiff, Nat.reduceLeDiff, Nat.reduceLT, Nat.reduceAdd, reduceCtorEq, num, boo, str, ints, aV, aTab, aInst, aS, aT, aC])

def fitM (o : OpD) (l : List Int) : Bool :=
  if o.types = 1 then l.all (fun x => x == 1) else if o.types = 2 then l.all (fun x => x == 3) else if o.types = 3 then l.all (fun x => x == 2)
  else if o.types = 4 then l.all (fun x => x == l.getD 0 default) else if o.types = 6 then (l.getD 0 default == 2) && (l.getD 1 default == l.getD 2 default) else true
theorem c_fit (o : OpD) (l : List Int) (hl : l.length ≤ 1000000000) (h4 : o.types = 4 → 0 < l.length) (h6 : o.types = 6 → l.length = 3) : ACall Tryd.prog 138 [aOp o, ints l] [] (boo (fitM o l)) [] := by
  refine ACall.enter mixed ttok Tryd.func138 rfl rfl _ Tryd.ntmps138 (Nat.le_of_ble_eq_true rfl) (by kernel_rfl) _ (congrArg Array.toList Tryd.results138) ?_
  generalize hr : boo (fitM o l) = R
  simp -implicitDefEqProofs only [argT, aOp, ↓steps, push_cast, reduceIte, Nat.reduceEqDiff, Nat.reduceAdd, Nat.reduceMul, Nat.reduceLT, Nat.reduceLeDiff, Int.reduceToNat, Int.reduceLE, Int.reduceLT, reduceCtorEq, tte, num, boo, str, ints, aV, aTab, aInst, aS, aT, aC]
  refine bcase_intro (fun k1 => ?_) fun k1 => ?_
  · have hk : o.types = 1 := by simpa using k1
    have hM : fitM o l = l.all (fun x => x == 1) := by rw [fitM, if_pos hk]
    refine callx_of [[0], [1]] [] rfl (c_every l 1 hl) (by first | (simp; done) | (simp [rowsOf_length]; done) | (simp [rowsOf_length]; omega)) (by first | (simp only [ends, ite_true, ite_false, reduceIte, Nat.reduceEqDiff, Nat.reduceLeDiff, Nat.reduceLT, Nat.reduceAdd, reduceCtorEq, num, boo, str, ints, aV, aTab, aInst, aS, aT, aC, num, boo, str, aE_eq, aV]; done) | simp [ends, ite_true, ite_false, reduceIte, Nat.reduceEqDiff, Nat.reduceLeDiff, Nat.reduceLT, Nat.reduceAdd, reduceCtorEq, num, boo, str, ints, aV, aTab, aInst, aS, aT, aC, num, boo, str, aE_eq, aV]) (by first | rfl | (simp only [ends, ite_true, ite_false, reduceIte, Nat.reduceEqDiff, Nat.reduceLeDiff, Nat.reduceLT, Nat.reduceAdd, reduceCtorEq, num, boo, str, ints, aV, aTab, aInst, aS, aT, aC, num, boo, str, aE_eq, aV]; done) | simp [ends, ite_true, ite_false, reduceIte, Nat.reduceEqDiff, Nat.reduceLeDiff, Nat.reduceLT, Nat.reduceAdd, reduceCtorEq, num, boo, str, ints, aV, aTab, aInst, aS, aT, aC, num, boo, str, aE_eq, aV]) (by simp only [ends, ite_true, ite_false, reduceIte, Nat.reduceEqDiff, Nat.reduceLeDiff, Nat.reduceLT, Nat.reduceAdd, reduceCtorEq, num, boo, str, ints, aV, aTab, aInst, aS, aT, aC]) (by simp [idsOk, lookO, updO, ren1]) ?_
    simp -implicitDefEqProofs only [↓steps, push_cast, reduceIte, Nat.reduceEqDiff, Nat.reduceAdd, Nat.reduceMul, Nat.reduceLT, Nat.reduceLeDiff, Int.reduceToNat, Int.reduceLE, Int.reduceLT, reduceCtorEq, tte, num, boo, str, ints, aV, aTab, aInst, aS, aT, aC]
    exact ret_d trivial (by rw [← hr, hM]; rfl) (by simp only [ends, ite_true, ite_false, reduceIte, Nat.reduceEqDiff, Nat.reduceLeDiff, Nat.reduceLT, Nat.reduceAdd, reduceCtorEq, num, boo, str, ints, aV, aTab, aInst, aS, aT, aC])
  have hk1 : ¬ o.types = 1 := by simpa using k1
  refine bcase_intro (fun k2 => ?_) fun k2 => ?_
  · have hk : o.types = 2 := by simpa using k2
    have hM : fitM o l = l.all (fun x => x == 3) := by rw [fitM, if_neg hk1, if_pos hk]
    refine callx_of [[0], [1]] [] rfl (c_every l 3 hl) (by first | (simp; done) | (simp [rowsOf_length]; done) | (simp [rowsOf_length]; omega)) (by first | (simp only [ends, ite_true, ite_false, reduceIte, Nat.reduceEqDiff, Nat.reduceLeDiff, Nat.reduceLT, Nat.reduceAdd, reduceCtorEq, num, boo, str, ints, aV, aTab, aInst, aS, aT, aC, num, boo, str, aE_eq, aV]; done) | simp [ends, ite_true, ite_false, reduceIte, Nat.reduceEqDiff, Nat.reduceLeDiff, Nat.reduceLT, Nat.reduceAdd, reduceCtorEq, num, boo, str, ints, aV, aTab, aInst, aS, aT, aC, num, boo, str, aE_eq, aV]) (by first | rfl | (simp only [ends, ite_true, ite_false, reduceIte, Nat.reduceEqDiff, Nat.reduceLeDiff, Nat.reduceLT, Nat.reduceAdd, reduceCtorEq, num, boo, str, ints, aV, aTab, aInst, aS, aT, aC, num, boo, str, aE_eq, aV]; done) | simp [ends, ite_true, ite_false, reduceIte, Nat.reduceEqDiff, Nat.reduceLeDiff, Nat.reduceLT, Nat.reduceAdd, reduceCtorEq, num, boo, str, ints, aV, aTab, aInst, aS, aT, aC, num, boo, str, aE_eq, aV]) (by simp only [ends, ite_true, ite_false, reduceIte, Nat.reduceEqDiff, Nat.reduceLeDiff, Nat.reduceLT, Nat.reduceAdd, reduceCtorEq, num, boo, str, ints, aV, aTab, aInst, aS, aT, aC]) (by simp [idsOk, lookO, updO, ren1]) ?_
    simp -implicitDefEqProofs only [↓steps, push_cast, reduceIte, Nat.reduceEqDiff, Nat.reduceAdd, Nat.reduceMul, Nat.reduceLT, Nat.reduceLeDiff, Int.reduceToNat, Int.reduceLE, Int.reduceLT, reduceCtorEq, tte, num, boo, str, ints, aV, aTab, aInst, aS, aT, aC]
    exact ret_d trivial (by rw [← hr, hM]; rfl) (by simp only [ends, ite_true, ite_false, reduceIte, Nat.reduceEqDiff, Nat.reduceLeDiff, Nat.reduceLT, Nat.reduceAdd, reduceCtorEq, num, boo, str, ints, aV, aTab, aInst, aS, aT, aC])
  have hk2 : ¬ o.types = 2 := by simpa using k2
  refine bcase_intro (fun k3 => ?_) fun k3 => ?_
  · have hk : o.types = 3 := by simpa using k3
    have hM : fitM o l = l.all (fun x => x == 2) := by rw [fitM, if_neg hk1, if_neg hk2, if_pos hk]
    refine callx_of [[0], [1]] [] rfl (c_every l 2 hl) (by first | (simp; done) | (simp [rowsOf_length]; done) | (simp [rowsOf_length]; omega)) (by first | (simp only [ends, ite_true, ite_false, reduceIte, Nat.reduceEqDiff, Nat.reduceLeDiff, Nat.reduceLT, Nat.reduceAdd, reduceCtorEq, num, boo, str, ints, aV, aTab, aInst, aS, aT, aC, num, boo, str, aE_eq, aV]; done) | simp [ends, ite_true, ite_false, reduceIte, Nat.reduceEqDiff, Nat.reduceLeDiff, Nat.reduceLT, Nat.reduceAdd, reduceCtorEq, num, boo, str, ints, aV, aTab, aInst, aS, aT, aC, num, boo, str, aE_eq, aV]) (by first | rfl | (simp only [ends, ite_true, ite_false, reduceIte, Nat.reduceEqDiff, Nat.reduceLeDiff, Nat.reduceLT, Nat.reduceAdd, reduceCtorEq, num, boo, str, ints, aV, aTab, aInst, aS, aT, aC, num, boo, str, aE_eq, aV]; done) | simp [ends, ite_true, ite_false, reduceIte, Nat.reduceEqDiff, Nat.reduceLeDiff, Nat.reduceLT, Nat.reduceAdd, reduceCtorEq, num, boo, str, ints, aV, aTab, aInst, aS, aT, aC, num, boo, str, aE_eq, aV]) (by simp only [ends, ite_true, ite_false, reduceIte, Nat.reduceEqDiff, Nat.reduceLeDiff, Nat.reduceLT, Nat.reduceAdd, reduceCtorEq, num, boo, str, ints, aV, aTab, aInst, aS, aT, aC]) (by simp [idsOk, lookO, updO, ren1]) ?_
    simp -implicitDefEqProofs only [↓steps, push_cast, reduceIte, Nat.reduceEqDiff, Nat.reduceAdd, Nat.reduceMul, Nat.reduceLT, Nat.reduceLeDiff, Int.reduceToNat, Int.reduceLE, Int.reduceLT, reduceCtorEq, tte, num, boo, str, ints, aV, aTab, aInst, aS, aT, aC]
    exact ret_d trivial (by rw [← hr, hM]; rfl) (by simp only [ends, ite_true, ite_false, reduceIte, Nat.reduceEqDiff, Nat.reduceLeDiff, Nat.reduceLT, Nat.reduceAdd, reduceCtorEq, num, boo, str, ints, aV, aTab, aInst, aS, aT, aC])
  have hk3 : ¬ o.types = 3 := by simpa using k3
  refine bcase_intro (fun k4 => ?_) fun k4 => ?_
  · have hk : o.types = 4 := by simpa using k4
    have hM : fitM o l = l.all (fun x => x == l.getD 0 default) := by rw [fitM, if_neg hk1, if_neg hk2, if_neg hk3, if_pos hk]
    have := h4 hk
    refine ⟨(by first | omega | trivial | (refine ⟨?_, ?_⟩ <;> first | omega | trivial | (refine ⟨?_, ?_⟩ <;> first | omega | trivial | (refine ⟨?_, ?_⟩ <;> first | omega | trivial | rfl)))), ?_⟩
    refine callx_of [[0], [1]] [] rfl (c_every l (l.getD 0 default) hl) (by first | (simp; done) | (simp [rowsOf_length]; done) | (simp [rowsOf_length]; omega)) (by first | (simp only [ends, ite_true, ite_false, reduceIte, Nat.reduceEqDiff, Nat.reduceLeDiff, Nat.reduceLT, Nat.reduceAdd, reduceCtorEq, num, boo, str, ints, aV, aTab, aInst, aS, aT, aC, num, boo, str, aE_eq, aV]; done) | simp [ends, ite_true, ite_false, reduceIte, Nat.reduceEqDiff, Nat.reduceLeDiff, Nat.reduceLT, Nat.reduceAdd, reduceCtorEq, num, boo, str, ints, aV, aTab, aInst, aS, aT, aC, num, boo, str, aE_eq, aV]) (by first | rfl | (simp only [ends, ite_true, ite_false, reduceIte, Nat.reduceEqDiff, Nat.reduceLeDiff, Nat.reduceLT, Nat.reduceAdd, reduceCtorEq, num, boo, str, ints, aV, aTab, aInst, aS, aT, aC, num, boo, str, aE_eq, aV]; done) | simp [ends, ite_true, ite_false, reduceIte, Nat.reduceEqDiff, Nat.reduceLeDiff, Nat.reduceLT, Nat.reduceAdd, reduceCtorEq, num, boo, str, ints, aV, aTab, aInst, aS, aT, aC, num, boo, str, aE_eq, aV]) (by simp only [ends, ite_true, ite_false, reduceIte, Nat.reduceEqDiff, Nat.reduceLeDiff, Nat.reduceLT, Nat.reduceAdd, reduceCtorEq, num, boo, str, ints, aV, aTab, aInst, aS, aT, aC]) (by simp [idsOk, lookO, updO, ren1]) ?_
    simp -implicitDefEqProofs only [↓steps, push_cast, reduceIte, Nat.reduceEqDiff, Nat.reduceAdd, Nat.reduceMul, Nat.reduceLT, Nat.reduceLeDiff, Int.reduceToNat, Int.reduceLE, Int.reduceLT, reduceCtorEq, tte, num, boo, str, ints, aV, aTab, aInst, aS, aT, aC]
    exact ret_d trivial (by rw [← hr, hM]; rfl) (by simp only [ends, ite_true, ite_false, reduceIte, Nat.reduceEqDiff, Nat.reduceLeDiff, Nat.reduceLT, Nat.reduceAdd, reduceCtorEq, num, boo, str, ints, aV, aTab, aInst, aS, aT, aC])
  have hk4 : ¬ o.types = 4 := by simpa using k4
  refine bcase_intro (fun k6 => ?_) fun k6 => ?_
  · have hk : o.types = 6 := by simpa using k6
    have hM : fitM o l = ((l.getD 0 default == 2) && (l.getD 1 default == l.getD 2 default)) := by rw [fitM, if_neg hk1, if_neg hk2, if_neg hk3, if_neg hk4, if_pos hk]
    have := h6 hk
    refine ⟨(by first | omega | trivial | (refine ⟨?_, ?_⟩ <;> first | omega | trivial | (refine ⟨?_, ?_⟩ <;> first | omega | trivial | (refine ⟨?_, ?_⟩ <;> first | omega | trivial | rfl)))), ?_⟩
    refine bcase_intro (fun g => ?_) fun g => ?_
    · refine ⟨(by first | omega | trivial | (refine ⟨?_, ?_⟩ <;> first | omega | trivial | (refine ⟨?_, ?_⟩ <;> first | omega | trivial | (refine ⟨?_, ?_⟩ <;> first | omega | trivial | rfl)))), (by first | omega | trivial | (refine ⟨?_, ?_⟩ <;> first | omega | trivial | (refine ⟨?_, ?_⟩ <;> first | omega | trivial | (refine ⟨?_, ?_⟩ <;> first | omega | trivial | rfl)))), drawx_intro (by kernel_rfl), ?_⟩
      exact ret_d trivial (by rw [← hr, hM, g, Bool.true_and]; rfl) (by simp only [ends, ite_true, ite_false, reduceIte, Nat.reduceEqDiff, Nat.reduceLeDiff, Nat.reduceLT, Nat.reduceAdd, reduceCtorEq, num, boo, str, ints, aV, aTab, aInst, aS, aT, aC])
    · refine ⟨drawx_intro (by kernel_rfl), ?_⟩
      exact ret_d trivial (by rw [← hr, hM, g, Bool.false_and]; rfl) (by simp only [ends, ite_true, ite_false, reduceIte, Nat.reduceEqDiff, Nat.reduceLeDiff, Nat.reduceLT, Nat.reduceAdd, reduceCtorEq, num, boo, str, ints, aV, aTab, aInst, aS, aT, aC])
  · have hk6 : ¬ o.types = 6 := by simpa using k6
    have hM : fitM o l = true := by rw [fitM, if_neg hk1, if_neg hk2, if_neg hk3, if_neg hk4, if_neg hk6]
    exact ret_d trivial (by rw [← hr, hM]; rfl) (by simp only [ends, ite_true, ite_false, reduceIte, Nat.reduceEqDiff, Nat.reduceLeDiff, Nat.reduceLT, Nat.reduceAdd, reduceCtorEq, num, boo, str, ints, aV, aTab, aInst, aS, aT, aC])
end Go.Proofs.YtkccdfaelbepeaaDoor

namespace Go.Proofs.YtkccdfaelbepeaaDoor
open Go.Am
set_option linter.unusedVariables false
set_option maxRecDepth 100000
set_option maxHeartbeats 4000000

def isTypeM (k : Int) : Bool := (k == 1 || k == 2) || k == 3
/-- The type of an expression whose operands have types, or the error. -/
def ownM (ts : List Int) (e : Ex) (l : List Int) : Int × Int :=
  if (!isOp e.op || !cleanM e) then (0, 1)
  else if !countM e then (0, 9)
  else if (e.op == 5 && (decide (e.col < 0) || decide (e.col ≥ ts.length))) then (0, 3)
  else if ((e.op == 5 && !isTypeM (ts.getD e.col.toNat default)) || !fitM (findM e.op) l) then (0, 4)
  else if e.op == 5 then (ts.getD e.col.toNat default, 0)
  else if e.op == 1 then (e.type, 0)
  else if (findM e.op).own == 0 then (l.getD (l.length - 1) default, 0)
  else ((findM e.op).own, 0)
def typK (f : Ex → List Int → Int × Int) (e : Ex) (rs : List (Int × Int)) : Int × Int := if ferr Prod.snd rs = 0 then f e (rs.map Prod.fst) else (0, ferr Prod.snd rs)
mutual
def typG (f : Ex → List Int → Int × Int) : Ex → Int × Int
  | .mk a b c d g ks => typK f (.mk a b c d g ks) (typL f ks)
def typL (f : Ex → List Int → Int × Int) : List Ex → List (Int × Int)
  | [] => []
  | e :: l => typG f e :: typL f l
end
theorem typL_eq (f : Ex → List Int → Int × Int) : ∀ l, typL f l = l.map (typG f)
  | [] => rfl
  | e :: l => by rw [typL, typL_eq f l]; rfl
theorem typG_eq (f : Ex → List Int → Int × Int) (e : Ex) : typG f e = typK f e (e.kids.map (typG f)) := by cases e; rw [typG, typL_eq]; rfl
theorem ferr_map {α β : Type} (g : β → Int) (h : α → β) : ∀ l : List α, ferr g (l.map h) = ferr (fun x => g (h x)) l
  | [] => rfl
  | x :: l => by simp only [List.map_cons, ferr, ferr_map g h l]
theorem ferr_at {α : Type} [Inhabited α] (g : α → Int) : ∀ (l : List α) (n : Nat), n < l.length → (∀ i, i < n → g (l.getD i default) = 0) → g (l.getD n default) ≠ 0 → ferr g l = g (l.getD n default)
  | [], n, h, _, _ => by simp at h
  | x :: l, 0, _, _, hg => by simp at hg; simp [ferr, hg]
  | x :: l, n + 1, h, hb, hg => by
    have h0 := hb 0 (by omega)
    simp at h0
    simp only [ferr, h0, if_true]
    rw [ferr_at g l n (by simpa using h) (fun i hi => by simpa using hb (i + 1) (by omega)) (by simpa using hg)]
    simp
theorem ferr_none {α : Type} [Inhabited α] (g : α → Int) : ∀ (l : List α), (∀ i, i < l.length → g (l.getD i default) = 0) → ferr g l = 0
  | [], _ => rfl
  | x :: l, hb => by
    have h0 := hb 0 (by simp)
    simp at h0
    simp only [ferr, h0, if_true]
    exact ferr_none g l (fun i hi => by simpa using hb (i + 1) (by simpa using hi))

/-- The types of operands, up to a place. -/
def tysTo (f : Ex → List Int → Int × Int) (e : Ex) (n : Nat) : List Int := (e.kids.take n).map fun k => (typG f k).1
theorem tysTo_length (f : Ex → List Int → Int × Int) (e : Ex) (n : Nat) (h : n ≤ e.kids.length) : (tysTo f e n).length = n := by simp [tysTo]; omega
theorem tysTo_succ (f : Ex → List Int → Int × Int) (e : Ex) (n : Nat) (h : n < e.kids.length) : tysTo f e (n + 1) = tysTo f e n ++ [(typG f (e.kids.getD n default)).1] := by rw [tysTo, take_snoc _ _ h, List.map_append]; rfl
def pairA (p : Int × Int) : A := .tup [num p.1, num p.2]

/-- Facts of the table. -/
theorem tab_alike : ∀ op : Int, isOp op = true → (findM op).types = 4 → 2 ≤ (findM op).kids := by
  have h : (List.range 29).all (fun n => !decide ((opTab.getD n default).types = 4) || decide (2 ≤ (opTab.getD n default).kids)) = true := by decide
  intro op ho ht
  rw [findM, ho, if_pos rfl, opAt] at ht ⊢
  simp only [isOp, Bool.and_eq_true, decide_eq_true_eq] at ho
  have := all_range.1 h op.toNat (by omega)
  rw [ht] at this
  simpa using this
theorem tab_choice : ∀ op : Int, isOp op = true → (findM op).types = 6 → (findM op).kids = 3 ∧ op ≠ 28 := by
  have h : (List.range 29).all (fun n => !decide ((opTab.getD n default).types = 6) || (decide ((opTab.getD n default).kids = 3) && decide (n ≠ 28))) = true := by decide
  intro op ho ht
  rw [findM, ho, if_pos rfl, opAt] at ht ⊢
  simp only [isOp, Bool.and_eq_true, decide_eq_true_eq] at ho
  have := all_range.1 h op.toNat (by omega)
  rw [ht] at this
  simp only [decide_true, Bool.not_true, Bool.false_or, Bool.and_eq_true, decide_eq_true_eq] at this
  exact ⟨this.1, by omega⟩
theorem tab_own : ∀ op : Int, isOp op = true → (findM op).own = 0 → op = 1 ∨ op = 5 ∨ 1 ≤ (findM op).kids := by
  have h : (List.range 29).all (fun n => !decide ((opTab.getD n default).own = 0) || (decide (n = 0) || decide (n = 1) || decide (n = 5) || decide (1 ≤ (opTab.getD n default).kids))) = true := by decide
  intro op ho ht
  rw [findM, ho, if_pos rfl, opAt] at ht ⊢
  simp only [isOp, Bool.and_eq_true, decide_eq_true_eq] at ho
  have := all_range.1 h op.toNat (by omega)
  rw [ht] at this
  simp only [decide_true, Bool.not_true, Bool.false_or, Bool.or_eq_true, decide_eq_true_eq] at this
  omega
theorem count_kids {e : Ex} (h : countM e = true) : (findM e.op).kids ≤ e.kids.length ∧ (e.op ≠ 28 → (e.kids.length : Int) = (findM e.op).kids) := by
  simp only [countM, Bool.and_eq_true, Bool.or_eq_true, beq_iff_eq, decide_eq_true_eq] at h
  omega

theorem c_typ (ts : List Int) (hts : ts.length ≤ 1000000000) : ∀ e : Ex, Ok12 e → ACall Tryd.prog 122 [ints ts, aE e] [] (pairA (typG (ownM ts) e)) [] :=
  ex_ind (p := fun e => Ok12 e → ACall Tryd.prog 122 [ints ts, aE e] [] (pairA (typG (ownM ts) e)) []) fun e ih ho => by
  refine ACall.enter mixed ttok Tryd.func122 rfl rfl _ Tryd.ntmps122 (Nat.le_of_ble_eq_true rfl) (by kernel_rfl) _ (congrArg Array.toList Tryd.results122) ?_
  generalize hr : pairA (typG (ownM ts) e) = R
  have hl := ho.kids
  simp -implicitDefEqProofs only [argT, ↓steps, push_cast, reduceIte, Nat.reduceEqDiff, Nat.reduceAdd, Nat.reduceMul, Nat.reduceLT, Nat.reduceLeDiff, Int.reduceToNat, Int.reduceLE, Int.reduceLT, reduceCtorEq, tte, num, boo, str, ints, aV, aTab, aInst, aS, aT, aC, aOp]
  refine loop_count mixed ttok 17 [0, 3, 15, 16] [3] (by simp only [pickT, ends, ite_true, ite_false, reduceIte, Nat.reduceEqDiff, Nat.reduceLeDiff, Nat.reduceLT, Nat.reduceAdd, reduceCtorEq, num, boo, str, ints, aV, aTab, aInst, aS, aT, aC, aOp]; rfl) (by simp only [pickO, consO_some, ends, ite_true, ite_false, reduceIte, Nat.reduceEqDiff, Nat.reduceLeDiff, Nat.reduceLT, Nat.reduceAdd, reduceCtorEq, num, boo, str, ints, aV, aTab, aInst, aS, aT, aC, aOp]; rfl) e.kids.length (fun n => ∀ i, i < n → (typG (ownM ts) (e.kids.getD i default)).2 = 0) (fun n => [(6, .vec 500 n)]) (fun n => [(500, .vec 3 1 (rowsOf rI (tysTo (ownM ts) e n)) 0)]) (fun i h => absurd h (Nat.not_lt_zero _)) ?_ ?_
  · exact (Weak.nilL 6 500 3 1 rfl rfl).trans (Weak.keepL (by simp [cst, ends, ite_true, ite_false, reduceIte, Nat.reduceEqDiff, Nat.reduceLeDiff, Nat.reduceLT, Nat.reduceAdd, reduceCtorEq, num, boo, str, ints, aV, aTab, aInst, aS, aT, aC, aOp]) (by simp [cst, tysTo, ends, ite_true, ite_false, reduceIte, Nat.reduceEqDiff, Nat.reduceLeDiff, Nat.reduceLT, Nat.reduceAdd, reduceCtorEq, num, boo, str, ints, aV, aTab, aInst, aS, aT, aC, aOp]) (by simp [cst, ends, ite_true, ite_false, reduceIte, Nat.reduceEqDiff, Nat.reduceLeDiff, Nat.reduceLT, Nat.reduceAdd, reduceCtorEq, num, boo, str, ints, aV, aTab, aInst, aS, aT, aC, aOp]))
  intro I hI n hn hi
  have hl2 := tysTo_length (ownM ts) e n hn
  simp -implicitDefEqProofs only [cst, ↓steps, push_cast, reduceIte, Nat.reduceEqDiff, Nat.reduceAdd, Nat.reduceMul, Nat.reduceLT, Nat.reduceLeDiff, Int.reduceToNat, Int.reduceLE, Int.reduceLT, reduceCtorEq, tte, num, boo, str, ints, aV, aTab, aInst, aS, aT, aC, aOp]
  refine bcase_intro (fun h => ?_) fun h => ?_
  · simp only [decide_eq_true_eq] at h
    have h' : n < e.kids.length := by omega
    have hw := wrap_succ h' (by omega)
    have hs := tysTo_succ (ownM ts) e n h'
    refine ⟨(by first | omega | trivial | (refine ⟨?_, ?_⟩ <;> first | omega | trivial | (refine ⟨?_, ?_⟩ <;> first | omega | trivial | (refine ⟨?_, ?_⟩ <;> first | omega | trivial | rfl)))), ?_⟩
    refine callx_of [[1], [0, 0, 0, 0, 0, 6]] [] rfl (ih _ (getD_mem h') (ho.kid (getD_mem h'))) (by first | (simp; done) | (simp [rowsOf_length]; done) | (simp [rowsOf_length]; omega)) (by first | (simp only [ends, ite_true, ite_false, reduceIte, Nat.reduceEqDiff, Nat.reduceLeDiff, Nat.reduceLT, Nat.reduceAdd, reduceCtorEq, num, boo, str, ints, aV, aTab, aInst, aS, aT, aC, aOp, num, boo, str, aE_eq, aV]; done) | simp [ends, ite_true, ite_false, reduceIte, Nat.reduceEqDiff, Nat.reduceLeDiff, Nat.reduceLT, Nat.reduceAdd, reduceCtorEq, num, boo, str, ints, aV, aTab, aInst, aS, aT, aC, aOp, num, boo, str, aE_eq, aV]) (by first | rfl | (simp only [ends, ite_true, ite_false, reduceIte, Nat.reduceEqDiff, Nat.reduceLeDiff, Nat.reduceLT, Nat.reduceAdd, reduceCtorEq, num, boo, str, ints, aV, aTab, aInst, aS, aT, aC, aOp, num, boo, str, aE_eq, aV]; done) | simp [ends, ite_true, ite_false, reduceIte, Nat.reduceEqDiff, Nat.reduceLeDiff, Nat.reduceLT, Nat.reduceAdd, reduceCtorEq, num, boo, str, ints, aV, aTab, aInst, aS, aT, aC, aOp, num, boo, str, aE_eq, aV]) (by simp only [ends, ite_true, ite_false, reduceIte, Nat.reduceEqDiff, Nat.reduceLeDiff, Nat.reduceLT, Nat.reduceAdd, reduceCtorEq, num, boo, str, ints, aV, aTab, aInst, aS, aT, aC, aOp]) (by simp [idsOk, lookO, updO, ren1]) ?_
    simp -implicitDefEqProofs only [pairA, ↓steps, push_cast, reduceIte, Nat.reduceEqDiff, Nat.reduceAdd, Nat.reduceMul, Nat.reduceLT, Nat.reduceLeDiff, Int.reduceToNat, Int.reduceLE, Int.reduceLT, reduceCtorEq, tte, num, boo, str, ints, aV, aTab, aInst, aS, aT, aC, aOp]
    refine bcase_intro (fun g => ?_) fun g => ?_
    · have g' : (typG (ownM ts) (e.kids.getD n default)).2 ≠ 0 := by simpa using g
      have hf : ferr Prod.snd (e.kids.map (typG (ownM ts))) = (typG (ownM ts) (e.kids.getD n default)).2 := by rw [ferr_map]; exact ferr_at _ _ n h' hi g'
      have hE : typG (ownM ts) e = (0, (typG (ownM ts) (e.kids.getD n default)).2) := by rw [typG_eq (ownM ts) e, typK, hf, if_neg g']
      exact ret_d2 trivial (by rw [← hr, hE]; rfl) (by simp only [ends, ite_true, ite_false, reduceIte, Nat.reduceEqDiff, Nat.reduceLeDiff, Nat.reduceLT, Nat.reduceAdd, reduceCtorEq, num, boo, str, ints, aV, aTab, aInst, aS, aT, aC, aOp])
    · have g' : (typG (ownM ts) (e.kids.getD n default)).2 = 0 := by simpa using g
      refine ⟨⟨hl2.symm, by rw [hl2]; omega⟩, ?_⟩
      exact cnt_again hI n rfl h' (fun i h2 => if h3 : i = n then by rw [h3]; exact g' else hi i (by omega)) (by simp only [hw, hs, hl2, rowsOf_append, ends, ite_true, ite_false, reduceIte, Nat.reduceEqDiff, Nat.reduceLeDiff, Nat.reduceLT, Nat.reduceAdd, reduceCtorEq, num, boo, str, ints, aV, aTab, aInst, aS, aT, aC, aOp]) (by simp [hw, hs, hl2, rowsOf_append, ends, ite_true, ite_false, reduceIte, Nat.reduceEqDiff, Nat.reduceLeDiff, Nat.reduceLT, Nat.reduceAdd, reduceCtorEq, num, boo, str, ints, aV, aTab, aInst, aS, aT, aC, aOp]) (by simp [hw, hs, hl2, rowsOf_append, ends, ite_true, ite_false, reduceIte, Nat.reduceEqDiff, Nat.reduceLeDiff, Nat.reduceLT, Nat.reduceAdd, reduceCtorEq, num, boo, str, ints, aV, aTab, aInst, aS, aT, aC, aOp]) (by simp [hw, hs, hl2, rowsOf_append, ends, ite_true, ite_false, reduceIte, Nat.reduceEqDiff, Nat.reduceLeDiff, Nat.reduceLT, Nat.reduceAdd, reduceCtorEq, num, boo, str, ints, aV, aTab, aInst, aS, aT, aC, aOp])
  simp only [decide_eq_false_iff_not] at h
  obtain rfl : n = e.kids.length := by omega
  clear hI
  have hf : ferr Prod.snd (e.kids.map (typG (ownM ts))) = 0 := by rw [ferr_map]; exact ferr_none _ _ hi
  have hT : tysTo (ownM ts) e e.kids.length = (e.kids.map (typG (ownM ts))).map Prod.fst := by rw [tysTo, List.take_length, List.map_map]; rfl
  have hM : typG (ownM ts) e = ownM ts e (tysTo (ownM ts) e e.kids.length) := by rw [typG_eq (ownM ts) e, typK, if_pos hf, hT]
  rw [hM] at hr
  generalize tysTo (ownM ts) e e.kids.length = l at hl2 hr ⊢
  refine callx_of [[0, 0, 0, 0, 0, 6]] [] rfl (c_known e) (by first | (simp; done) | (simp [rowsOf_length]; done) | (simp [rowsOf_length]; omega)) (by first | (simp only [ends, ite_true, ite_false, reduceIte, Nat.reduceEqDiff, Nat.reduceLeDiff, Nat.reduceLT, Nat.reduceAdd, reduceCtorEq, num, boo, str, ints, aV, aTab, aInst, aS, aT, aC, aOp, num, boo, str, aE_eq, aV]; done) | simp [ends, ite_true, ite_false, reduceIte, Nat.reduceEqDiff, Nat.reduceLeDiff, Nat.reduceLT, Nat.reduceAdd, reduceCtorEq, num, boo, str, ints, aV, aTab, aInst, aS, aT, aC, aOp, num, boo, str, aE_eq, aV]) (by first | rfl | (simp only [ends, ite_true, ite_false, reduceIte, Nat.reduceEqDiff, Nat.reduceLeDiff, Nat.reduceLT, Nat.reduceAdd, reduceCtorEq, num, boo, str, ints, aV, aTab, aInst, aS, aT, aC, aOp, num, boo, str, aE_eq, aV]; done) | simp [ends, ite_true, ite_false, reduceIte, Nat.reduceEqDiff, Nat.reduceLeDiff, Nat.reduceLT, Nat.reduceAdd, reduceCtorEq, num, boo, str, ints, aV, aTab, aInst, aS, aT, aC, aOp, num, boo, str, aE_eq, aV]) (by simp only [ends, ite_true, ite_false, reduceIte, Nat.reduceEqDiff, Nat.reduceLeDiff, Nat.reduceLT, Nat.reduceAdd, reduceCtorEq, num, boo, str, ints, aV, aTab, aInst, aS, aT, aC, aOp]) (by simp [idsOk, lookO, updO, ren1]) ?_
  simp -implicitDefEqProofs only [aOp, ↓steps, push_cast, reduceIte, Nat.reduceEqDiff, Nat.reduceAdd, Nat.reduceMul, Nat.reduceLT, Nat.reduceLeDiff, Int.reduceToNat, Int.reduceLE, Int.reduceLT, reduceCtorEq, tte, num, boo, str, ints, aV, aTab, aInst, aS, aT, aC, aOp]
  have hf4 : isOp e.op = true → countM e = true → (findM e.op).types = 4 → 0 < l.length := fun a b c => by
    have := tab_alike _ a c; have := count_kids b; omega
  have hf6 : isOp e.op = true → countM e = true → (findM e.op).types = 6 → l.length = 3 := fun a b c => by
    have h9 := tab_choice _ a c; have h8 := (count_kids b).2 h9.2; omega
  have hf0 : isOp e.op = true → countM e = true → ¬ e.op = 1 → ¬ e.op = 5 → (findM e.op).own = 0 → 0 < l.length := fun a b c d f => by
    have h9 := tab_own _ a f; have h8 := count_kids b; omega
  refine bcase_intro (fun h1 => ?_) fun h1 => ?_
  · have h1' : isOp e.op = false := by simpa using h1
    have hv : ownM ts e l = (0, 1) := by simp only [ownM, h1', Bool.not_true, Bool.not_false, Bool.or_false, Bool.false_or, Bool.true_or, Bool.or_true, Bool.and_true, Bool.true_and, Bool.false_and, Bool.and_false, Bool.false_eq_true, Bool.or_self, Bool.and_self, if_true, if_false]
    exact ret_d2 trivial (by rw [← hr, hv]; rfl) (by simp only [ends, ite_true, ite_false, reduceIte, Nat.reduceEqDiff, Nat.reduceLeDiff, Nat.reduceLT, Nat.reduceAdd, reduceCtorEq, num, boo, str, ints, aV, aTab, aInst, aS, aT, aC, aOp])
  have h1' : isOp e.op = true := by simpa using h1
  refine callx_of [[0, 0, 0, 0, 0, 6]] [] rfl (c_clean e) (by first | (simp; done) | (simp [rowsOf_length]; done) | (simp [rowsOf_length]; omega)) (by first | (simp only [ends, ite_true, ite_false, reduceIte, Nat.reduceEqDiff, Nat.reduceLeDiff, Nat.reduceLT, Nat.reduceAdd, reduceCtorEq, num, boo, str, ints, aV, aTab, aInst, aS, aT, aC, aOp, num, boo, str, aE_eq, aV]; done) | simp [ends, ite_true, ite_false, reduceIte, Nat.reduceEqDiff, Nat.reduceLeDiff, Nat.reduceLT, Nat.reduceAdd, reduceCtorEq, num, boo, str, ints, aV, aTab, aInst, aS, aT, aC, aOp, num, boo, str, aE_eq, aV]) (by first | rfl | (simp only [ends, ite_true, ite_false, reduceIte, Nat.reduceEqDiff, Nat.reduceLeDiff, Nat.reduceLT, Nat.reduceAdd, reduceCtorEq, num, boo, str, ints, aV, aTab, aInst, aS, aT, aC, aOp, num, boo, str, aE_eq, aV]; done) | simp [ends, ite_true, ite_false, reduceIte, Nat.reduceEqDiff, Nat.reduceLeDiff, Nat.reduceLT, Nat.reduceAdd, reduceCtorEq, num, boo, str, ints, aV, aTab, aInst, aS, aT, aC, aOp, num, boo, str, aE_eq, aV]) (by simp only [ends, ite_true, ite_false, reduceIte, Nat.reduceEqDiff, Nat.reduceLeDiff, Nat.reduceLT, Nat.reduceAdd, reduceCtorEq, num, boo, str, ints, aV, aTab, aInst, aS, aT, aC, aOp]) (by simp [idsOk, lookO, updO, ren1]) ?_
  simp -implicitDefEqProofs only [↓steps, push_cast, reduceIte, Nat.reduceEqDiff, Nat.reduceAdd, Nat.reduceMul, Nat.reduceLT, Nat.reduceLeDiff, Int.reduceToNat, Int.reduceLE, Int.reduceLT, reduceCtorEq, tte, num, boo, str, ints, aV, aTab, aInst, aS, aT, aC, aOp]
  refine bcase_intro (fun h2 => ?_) fun h2 => ?_
  · have h2' : cleanM e = false := by simpa using h2
    have hv : ownM ts e l = (0, 1) := by simp only [ownM, h2', Bool.not_true, Bool.not_false, Bool.or_false, Bool.false_or, Bool.true_or, Bool.or_true, Bool.and_true, Bool.true_and, Bool.false_and, Bool.and_false, Bool.false_eq_true, Bool.or_self, Bool.and_self, if_true, if_false]
    exact ret_d2 trivial (by rw [← hr, hv]; rfl) (by simp only [ends, ite_true, ite_false, reduceIte, Nat.reduceEqDiff, Nat.reduceLeDiff, Nat.reduceLT, Nat.reduceAdd, reduceCtorEq, num, boo, str, ints, aV, aTab, aInst, aS, aT, aC, aOp])
  have h2' : cleanM e = true := by simpa using h2
  refine bcase_intro (fun h3 => ?_) fun h3 => ?_
  · have h3' : countM e = false := by simpa using h3
    have hv : ownM ts e l = (0, 9) := by simp only [ownM, h1', h2', h3', Bool.not_true, Bool.not_false, Bool.or_false, Bool.false_or, Bool.true_or, Bool.or_true, Bool.and_true, Bool.true_and, Bool.false_and, Bool.and_false, Bool.false_eq_true, Bool.or_self, Bool.and_self, if_true, if_false]
    exact ret_d2 trivial (by rw [← hr, hv]; rfl) (by simp only [ends, ite_true, ite_false, reduceIte, Nat.reduceEqDiff, Nat.reduceLeDiff, Nat.reduceLT, Nat.reduceAdd, reduceCtorEq, num, boo, str, ints, aV, aTab, aInst, aS, aT, aC, aOp])
  have h3' : countM e = true := by simpa using h3
  replace hf4 := hf4 h1' h3'
  replace hf6 := hf6 h1' h3'
  replace hf0 := hf0 h1' h3'
  refine bcase_intro (fun h4 => ?_) fun h4 => ?_
  · refine bcase_intro (fun h5 => ?_) fun h5 => ?_
    · have hv : ownM ts e l = (0, 3) := by simp only [ownM, h1', h2', h3', h4, h5, Bool.not_true, Bool.not_false, Bool.or_false, Bool.false_or, Bool.true_or, Bool.or_true, Bool.and_true, Bool.true_and, Bool.false_and, Bool.and_false, Bool.false_eq_true, Bool.or_self, Bool.and_self, if_true, if_false]
      exact ret_d2 trivial (by rw [← hr, hv]; rfl) (by simp only [ends, ite_true, ite_false, reduceIte, Nat.reduceEqDiff, Nat.reduceLeDiff, Nat.reduceLT, Nat.reduceAdd, reduceCtorEq, num, boo, str, ints, aV, aTab, aInst, aS, aT, aC, aOp])
    refine bcase_intro (fun h6 => ?_) fun h6 => ?_
    · have hv : ownM ts e l = (0, 3) := by simp only [ownM, h1', h2', h3', h4, h5, h6, Bool.not_true, Bool.not_false, Bool.or_false, Bool.false_or, Bool.true_or, Bool.or_true, Bool.and_true, Bool.true_and, Bool.false_and, Bool.and_false, Bool.false_eq_true, Bool.or_self, Bool.and_self, if_true, if_false]
      exact ret_d2 trivial (by rw [← hr, hv]; rfl) (by simp only [ends, ite_true, ite_false, reduceIte, Nat.reduceEqDiff, Nat.reduceLeDiff, Nat.reduceLT, Nat.reduceAdd, reduceCtorEq, num, boo, str, ints, aV, aTab, aInst, aS, aT, aC, aOp])
    rw [h4, bcase_true]
    refine ⟨by simp only [decide_eq_false_iff_not] at h5 h6; omega, ?_⟩
    refine callx_of [[0]] [] rfl (c_isType (ts.getD e.col.toNat default)) (by first | (simp; done) | (simp [rowsOf_length]; done) | (simp [rowsOf_length]; omega)) (by first | (simp only [ends, ite_true, ite_false, reduceIte, Nat.reduceEqDiff, Nat.reduceLeDiff, Nat.reduceLT, Nat.reduceAdd, reduceCtorEq, num, boo, str, ints, aV, aTab, aInst, aS, aT, aC, aOp, num, boo, str, aE_eq, aV]; done) | simp [ends, ite_true, ite_false, reduceIte, Nat.reduceEqDiff, Nat.reduceLeDiff, Nat.reduceLT, Nat.reduceAdd, reduceCtorEq, num, boo, str, ints, aV, aTab, aInst, aS, aT, aC, aOp, num, boo, str, aE_eq, aV]) (by first | rfl | (simp only [ends, ite_true, ite_false, reduceIte, Nat.reduceEqDiff, Nat.reduceLeDiff, Nat.reduceLT, Nat.reduceAdd, reduceCtorEq, num, boo, str, ints, aV, aTab, aInst, aS, aT, aC, aOp, num, boo, str, aE_eq, aV]; done) | simp [ends, ite_true, ite_false, reduceIte, Nat.reduceEqDiff, Nat.reduceLeDiff, Nat.reduceLT, Nat.reduceAdd, reduceCtorEq, num, boo, str, ints, aV, aTab, aInst, aS, aT, aC, aOp, num, boo, str, aE_eq, aV]) (by simp only [ends, ite_true, ite_false, reduceIte, Nat.reduceEqDiff, Nat.reduceLeDiff, Nat.reduceLT, Nat.reduceAdd, reduceCtorEq, num, boo, str, ints, aV, aTab, aInst, aS, aT, aC, aOp]) (by simp [idsOk, lookO, updO, ren1]) ?_
    simp -implicitDefEqProofs only [↓steps, push_cast, reduceIte, Nat.reduceEqDiff, Nat.reduceAdd, Nat.reduceMul, Nat.reduceLT, Nat.reduceLeDiff, Int.reduceToNat, Int.reduceLE, Int.reduceLT, reduceCtorEq, tte, num, boo, str, ints, aV, aTab, aInst, aS, aT, aC, aOp]
    rw [show (((ts.getD e.col.toNat default == 1) || (ts.getD e.col.toNat default == 2)) || (ts.getD e.col.toNat default == 3)) = isTypeM (ts.getD e.col.toNat default) from rfl]
    refine bcase_intro (fun h7 => ?_) fun h7 => ?_
    · have h7' : isTypeM (ts.getD e.col.toNat default) = false := by simpa using h7
      have hv : ownM ts e l = (0, 4) := by simp only [ownM, h1', h2', h3', h4, h5, h6, h7', Bool.not_true, Bool.not_false, Bool.or_false, Bool.false_or, Bool.true_or, Bool.or_true, Bool.and_true, Bool.true_and, Bool.false_and, Bool.and_false, Bool.false_eq_true, Bool.or_self, Bool.and_self, if_true, if_false]
      exact ret_d2 trivial (by rw [← hr, hv]; rfl) (by simp only [ends, ite_true, ite_false, reduceIte, Nat.reduceEqDiff, Nat.reduceLeDiff, Nat.reduceLT, Nat.reduceAdd, reduceCtorEq, num, boo, str, ints, aV, aTab, aInst, aS, aT, aC, aOp])
    have h7' : isTypeM (ts.getD e.col.toNat default) = true := by simpa using h7
    refine callx_of [[0, 0, 0, 0], [1]] [] rfl (c_fit (findM e.op) l (by omega) hf4 hf6) (by first | (simp; done) | (simp [rowsOf_length]; done) | (simp [rowsOf_length]; omega)) (by first | (simp only [ends, ite_true, ite_false, reduceIte, Nat.reduceEqDiff, Nat.reduceLeDiff, Nat.reduceLT, Nat.reduceAdd, reduceCtorEq, num, boo, str, ints, aV, aTab, aInst, aS, aT, aC, aOp, num, boo, str, aE_eq, aV]; done) | simp [ends, ite_true, ite_false, reduceIte, Nat.reduceEqDiff, Nat.reduceLeDiff, Nat.reduceLT, Nat.reduceAdd, reduceCtorEq, num, boo, str, ints, aV, aTab, aInst, aS, aT, aC, aOp, num, boo, str, aE_eq, aV]) (by first | rfl | (simp only [ends, ite_true, ite_false, reduceIte, Nat.reduceEqDiff, Nat.reduceLeDiff, Nat.reduceLT, Nat.reduceAdd, reduceCtorEq, num, boo, str, ints, aV, aTab, aInst, aS, aT, aC, aOp, num, boo, str, aE_eq, aV]; done) | simp [ends, ite_true, ite_false, reduceIte, Nat.reduceEqDiff, Nat.reduceLeDiff, Nat.reduceLT, Nat.reduceAdd, reduceCtorEq, num, boo, str, ints, aV, aTab, aInst, aS, aT, aC, aOp, num, boo, str, aE_eq, aV]) (by simp only [ends, ite_true, ite_false, reduceIte, Nat.reduceEqDiff, Nat.reduceLeDiff, Nat.reduceLT, Nat.reduceAdd, reduceCtorEq, num, boo, str, ints, aV, aTab, aInst, aS, aT, aC, aOp]) (by simp [idsOk, lookO, updO, ren1]) ?_
    simp -implicitDefEqProofs only [↓steps, push_cast, reduceIte, Nat.reduceEqDiff, Nat.reduceAdd, Nat.reduceMul, Nat.reduceLT, Nat.reduceLeDiff, Int.reduceToNat, Int.reduceLE, Int.reduceLT, reduceCtorEq, tte, num, boo, str, ints, aV, aTab, aInst, aS, aT, aC, aOp]
    refine bcase_intro (fun h8 => ?_) fun h8 => ?_
    · have h8' : fitM (findM e.op) l = false := by simpa using h8
      have hv : ownM ts e l = (0, 4) := by simp only [ownM, h1', h2', h3', h4, h5, h6, h7', h8', Bool.not_true, Bool.not_false, Bool.or_false, Bool.false_or, Bool.true_or, Bool.or_true, Bool.and_true, Bool.true_and, Bool.false_and, Bool.and_false, Bool.false_eq_true, Bool.or_self, Bool.and_self, if_true, if_false]
      exact ret_d2 trivial (by rw [← hr, hv]; rfl) (by simp only [ends, ite_true, ite_false, reduceIte, Nat.reduceEqDiff, Nat.reduceLeDiff, Nat.reduceLT, Nat.reduceAdd, reduceCtorEq, num, boo, str, ints, aV, aTab, aInst, aS, aT, aC, aOp])
    have h8' : fitM (findM e.op) l = true := by simpa using h8
    rw [h4, bcase_true]
    refine ⟨by simp only [decide_eq_false_iff_not] at h5 h6; omega, ?_⟩
    have hv : ownM ts e l = (ts.getD e.col.toNat default, 0) := by simp only [ownM, h1', h2', h3', h4, h5, h6, h7', h8', Bool.not_true, Bool.not_false, Bool.or_false, Bool.false_or, Bool.true_or, Bool.or_true, Bool.and_true, Bool.true_and, Bool.false_and, Bool.and_false, Bool.false_eq_true, Bool.or_self, Bool.and_self, if_true, if_false]
    exact ret_d2 trivial (by rw [← hr, hv]; rfl) (by simp only [ends, ite_true, ite_false, reduceIte, Nat.reduceEqDiff, Nat.reduceLeDiff, Nat.reduceLT, Nat.reduceAdd, reduceCtorEq, num, boo, str, ints, aV, aTab, aInst, aS, aT, aC, aOp])
  rw [h4, bcase_false]
  refine callx_of [[0, 0, 0, 0], [1]] [] rfl (c_fit (findM e.op) l (by omega) hf4 hf6) (by first | (simp; done) | (simp [rowsOf_length]; done) | (simp [rowsOf_length]; omega)) (by first | (simp only [ends, ite_true, ite_false, reduceIte, Nat.reduceEqDiff, Nat.reduceLeDiff, Nat.reduceLT, Nat.reduceAdd, reduceCtorEq, num, boo, str, ints, aV, aTab, aInst, aS, aT, aC, aOp, num, boo, str, aE_eq, aV]; done) | simp [ends, ite_true, ite_false, reduceIte, Nat.reduceEqDiff, Nat.reduceLeDiff, Nat.reduceLT, Nat.reduceAdd, reduceCtorEq, num, boo, str, ints, aV, aTab, aInst, aS, aT, aC, aOp, num, boo, str, aE_eq, aV]) (by first | rfl | (simp only [ends, ite_true, ite_false, reduceIte, Nat.reduceEqDiff, Nat.reduceLeDiff, Nat.reduceLT, Nat.reduceAdd, reduceCtorEq, num, boo, str, ints, aV, aTab, aInst, aS, aT, aC, aOp, num, boo, str, aE_eq, aV]; done) | simp [ends, ite_true, ite_false, reduceIte, Nat.reduceEqDiff, Nat.reduceLeDiff, Nat.reduceLT, Nat.reduceAdd, reduceCtorEq, num, boo, str, ints, aV, aTab, aInst, aS, aT, aC, aOp, num, boo, str, aE_eq, aV]) (by simp only [ends, ite_true, ite_false, reduceIte, Nat.reduceEqDiff, Nat.reduceLeDiff, Nat.reduceLT, Nat.reduceAdd, reduceCtorEq, num, boo, str, ints, aV, aTab, aInst, aS, aT, aC, aOp]) (by simp [idsOk, lookO, updO, ren1]) ?_
  simp -implicitDefEqProofs only [↓steps, push_cast, reduceIte, Nat.reduceEqDiff, Nat.reduceAdd, Nat.reduceMul, Nat.reduceLT, Nat.reduceLeDiff, Int.reduceToNat, Int.reduceLE, Int.reduceLT, reduceCtorEq, tte, num, boo, str, ints, aV, aTab, aInst, aS, aT, aC, aOp]
  refine bcase_intro (fun h8 => ?_) fun h8 => ?_
  · have h8' : fitM (findM e.op) l = false := by simpa using h8
    have hv : ownM ts e l = (0, 4) := by simp only [ownM, h1', h2', h3', h4, h8', Bool.not_true, Bool.not_false, Bool.or_false, Bool.false_or, Bool.true_or, Bool.or_true, Bool.and_true, Bool.true_and, Bool.false_and, Bool.and_false, Bool.false_eq_true, Bool.or_self, Bool.and_self, if_true, if_false]
    exact ret_d2 trivial (by rw [← hr, hv]; rfl) (by simp only [ends, ite_true, ite_false, reduceIte, Nat.reduceEqDiff, Nat.reduceLeDiff, Nat.reduceLT, Nat.reduceAdd, reduceCtorEq, num, boo, str, ints, aV, aTab, aInst, aS, aT, aC, aOp])
  have h8' : fitM (findM e.op) l = true := by simpa using h8
  rw [h4, bcase_false]
  refine bcase_intro (fun h5 => ?_) fun h5 => ?_
  · have hv : ownM ts e l = (e.type, 0) := by simp only [ownM, h1', h2', h3', h4, h8', h5, Bool.not_true, Bool.not_false, Bool.or_false, Bool.false_or, Bool.true_or, Bool.or_true, Bool.and_true, Bool.true_and, Bool.false_and, Bool.and_false, Bool.false_eq_true, Bool.or_self, Bool.and_self, if_true, if_false]
    exact ret_d2 trivial (by rw [← hr, hv]; rfl) (by simp only [ends, ite_true, ite_false, reduceIte, Nat.reduceEqDiff, Nat.reduceLeDiff, Nat.reduceLT, Nat.reduceAdd, reduceCtorEq, num, boo, str, ints, aV, aTab, aInst, aS, aT, aC, aOp])
  refine bcase_intro (fun h6 => ?_) fun h6 => ?_
  · have h5' : ¬ e.op = 1 := by simpa using h5
    have h4' : ¬ e.op = 5 := by simpa using h4
    have h6' : (findM e.op).own = 0 := by simpa using h6
    have hp := hf0 h5' h4' h6'
    have hw : IntKind.i64.wrap ((e.kids.length : Int) - 1) = ((l.length - 1 : Nat) : Int) := by rw [wrap_eq (by omega) (by omega)]; omega
    rw [hw]
    have hv : ownM ts e l = (l.getD (l.length - 1) default, 0) := by simp only [ownM, h1', h2', h3', h4, h8', h5, h6, Bool.not_true, Bool.not_false, Bool.or_false, Bool.false_or, Bool.true_or, Bool.or_true, Bool.and_true, Bool.true_and, Bool.false_and, Bool.and_false, Bool.false_eq_true, Bool.or_self, Bool.and_self, if_true, if_false]
    refine ⟨hl2.symm, ⟨⟨by omega, by omega⟩, hl2.symm⟩, by omega, hl2.symm, ?_⟩
    exact ret_d2 trivial (by rw [← hr, hv]; rfl) (by simp only [ends, ite_true, ite_false, reduceIte, Nat.reduceEqDiff, Nat.reduceLeDiff, Nat.reduceLT, Nat.reduceAdd, reduceCtorEq, num, boo, str, ints, aV, aTab, aInst, aS, aT, aC, aOp])
  have hv : ownM ts e l = ((findM e.op).own, 0) := by simp only [ownM, h1', h2', h3', h4, h8', h5, h6, Bool.not_true, Bool.not_false, Bool.or_false, Bool.false_or, Bool.true_or, Bool.or_true, Bool.and_true, Bool.true_and, Bool.false_and, Bool.and_false, Bool.false_eq_true, Bool.or_self, Bool.and_self, if_true, if_false]
  exact ret_d2 trivial (by rw [← hr, hv]; rfl) (by simp only [ends, ite_true, ite_false, reduceIte, Nat.reduceEqDiff, Nat.reduceLeDiff, Nat.reduceLT, Nat.reduceAdd, reduceCtorEq, num, boo, str, ints, aV, aTab, aInst, aS, aT, aC, aOp])
end Go.Proofs.YtkccdfaelbepeaaDoor

namespace Go.Proofs.YtkccdfaelbepeaaDoor
open Go.Am
set_option linter.unusedVariables false
set_option maxRecDepth 100000
set_option maxHeartbeats 4000000

def typeM (f : Ex → List Int → Int × Int) (e : Ex) : Int × Int := if sizeW e > 200 then (0, 8) else if depthW e > 24 then (0, 13) else typG f e
theorem c_type (ts : List Int) (hts : ts.length ≤ 1000000000) (e : Ex) (ho : Ok12 e) : ACall Tryd.prog 70 [ints ts, aE e] [] (pairA (typeM (ownM ts) e)) [] := by
  refine ACall.enter mixed ttok Tryd.func70 rfl rfl _ Tryd.ntmps70 (Nat.le_of_ble_eq_true rfl) (by kernel_rfl) _ (congrArg Array.toList Tryd.results70) ?_
  generalize hr : pairA (typeM (ownM ts) e) = R
  simp -implicitDefEqProofs only [argT, ↓steps, push_cast, reduceIte, Nat.reduceEqDiff, Nat.reduceAdd, Nat.reduceMul, Nat.reduceLT, Nat.reduceLeDiff, Int.reduceToNat, Int.reduceLE, Int.reduceLT, reduceCtorEq, tte, num, boo, str, ints, aV, aTab, aInst, aS, aT, aC, found, pairA]
  refine callx_of [[0, 0, 0, 0, 0, 6]] [] rfl (c_size e ho) (by first | (simp; done) | (simp [rowsOf_length]; done) | (simp [rowsOf_length]; omega)) (by first | (simp only [ends, ite_true, ite_false, reduceIte, Nat.reduceEqDiff, Nat.reduceLeDiff, Nat.reduceLT, Nat.reduceAdd, reduceCtorEq, num, boo, str, ints, aV, aTab, aInst, aS, aT, aC, found, pairA, num, boo, str, aE_eq, aV]; done) | simp [ends, ite_true, ite_false, reduceIte, Nat.reduceEqDiff, Nat.reduceLeDiff, Nat.reduceLT, Nat.reduceAdd, reduceCtorEq, num, boo, str, ints, aV, aTab, aInst, aS, aT, aC, found, pairA, num, boo, str, aE_eq, aV]) (by first | rfl | (simp only [ends, ite_true, ite_false, reduceIte, Nat.reduceEqDiff, Nat.reduceLeDiff, Nat.reduceLT, Nat.reduceAdd, reduceCtorEq, num, boo, str, ints, aV, aTab, aInst, aS, aT, aC, found, pairA, num, boo, str, aE_eq, aV]; done) | simp [ends, ite_true, ite_false, reduceIte, Nat.reduceEqDiff, Nat.reduceLeDiff, Nat.reduceLT, Nat.reduceAdd, reduceCtorEq, num, boo, str, ints, aV, aTab, aInst, aS, aT, aC, found, pairA, num, boo, str, aE_eq, aV]) (by simp only [ends, ite_true, ite_false, reduceIte, Nat.reduceEqDiff, Nat.reduceLeDiff, Nat.reduceLT, Nat.reduceAdd, reduceCtorEq, num, boo, str, ints, aV, aTab, aInst, aS, aT, aC, found, pairA]) (by simp [idsOk, lookO, updO, ren1]) ?_
  simp -implicitDefEqProofs only [↓steps, push_cast, reduceIte, Nat.reduceEqDiff, Nat.reduceAdd, Nat.reduceMul, Nat.reduceLT, Nat.reduceLeDiff, Int.reduceToNat, Int.reduceLE, Int.reduceLT, reduceCtorEq, tte, num, boo, str, ints, aV, aTab, aInst, aS, aT, aC, found, pairA]
  refine bcase_intro (fun h => ?_) fun h => ?_
  · have hv : typeM (ownM ts) e = (0, 8) := if_pos (of_decide_eq_true h)
    exact ret_d2 trivial (by rw [← hr, hv]; rfl) (by simp only [ends, ite_true, ite_false, reduceIte, Nat.reduceEqDiff, Nat.reduceLeDiff, Nat.reduceLT, Nat.reduceAdd, reduceCtorEq, num, boo, str, ints, aV, aTab, aInst, aS, aT, aC, found, pairA])
  have h' : ¬ sizeW e > 200 := of_decide_eq_false h
  refine callx_of [[0, 0, 0, 0, 0, 6]] [] rfl (c_depth e ho) (by first | (simp; done) | (simp [rowsOf_length]; done) | (simp [rowsOf_length]; omega)) (by first | (simp only [ends, ite_true, ite_false, reduceIte, Nat.reduceEqDiff, Nat.reduceLeDiff, Nat.reduceLT, Nat.reduceAdd, reduceCtorEq, num, boo, str, ints, aV, aTab, aInst, aS, aT, aC, found, pairA, num, boo, str, aE_eq, aV]; done) | simp [ends, ite_true, ite_false, reduceIte, Nat.reduceEqDiff, Nat.reduceLeDiff, Nat.reduceLT, Nat.reduceAdd, reduceCtorEq, num, boo, str, ints, aV, aTab, aInst, aS, aT, aC, found, pairA, num, boo, str, aE_eq, aV]) (by first | rfl | (simp only [ends, ite_true, ite_false, reduceIte, Nat.reduceEqDiff, Nat.reduceLeDiff, Nat.reduceLT, Nat.reduceAdd, reduceCtorEq, num, boo, str, ints, aV, aTab, aInst, aS, aT, aC, found, pairA, num, boo, str, aE_eq, aV]; done) | simp [ends, ite_true, ite_false, reduceIte, Nat.reduceEqDiff, Nat.reduceLeDiff, Nat.reduceLT, Nat.reduceAdd, reduceCtorEq, num, boo, str, ints, aV, aTab, aInst, aS, aT, aC, found, pairA, num, boo, str, aE_eq, aV]) (by simp only [ends, ite_true, ite_false, reduceIte, Nat.reduceEqDiff, Nat.reduceLeDiff, Nat.reduceLT, Nat.reduceAdd, reduceCtorEq, num, boo, str, ints, aV, aTab, aInst, aS, aT, aC, found, pairA]) (by simp [idsOk, lookO, updO, ren1]) ?_
  simp -implicitDefEqProofs only [↓steps, push_cast, reduceIte, Nat.reduceEqDiff, Nat.reduceAdd, Nat.reduceMul, Nat.reduceLT, Nat.reduceLeDiff, Int.reduceToNat, Int.reduceLE, Int.reduceLT, reduceCtorEq, tte, num, boo, str, ints, aV, aTab, aInst, aS, aT, aC, found, pairA]
  refine bcase_intro (fun g => ?_) fun g => ?_
  · have hv : typeM (ownM ts) e = (0, 13) := by rw [typeM, if_neg h', if_pos (of_decide_eq_true g)]
    exact ret_d2 trivial (by rw [← hr, hv]; rfl) (by simp only [ends, ite_true, ite_false, reduceIte, Nat.reduceEqDiff, Nat.reduceLeDiff, Nat.reduceLT, Nat.reduceAdd, reduceCtorEq, num, boo, str, ints, aV, aTab, aInst, aS, aT, aC, found, pairA])
  have g' : ¬ depthW e > 24 := of_decide_eq_false g
  refine callx_of [[1], [0, 0, 0, 0, 0, 6]] [] rfl (c_typ ts hts e ho) (by first | (simp; done) | (simp [rowsOf_length]; done) | (simp [rowsOf_length]; omega)) (by first | (simp only [ends, ite_true, ite_false, reduceIte, Nat.reduceEqDiff, Nat.reduceLeDiff, Nat.reduceLT, Nat.reduceAdd, reduceCtorEq, num, boo, str, ints, aV, aTab, aInst, aS, aT, aC, found, pairA, num, boo, str, aE_eq, aV]; done) | simp [ends, ite_true, ite_false, reduceIte, Nat.reduceEqDiff, Nat.reduceLeDiff, Nat.reduceLT, Nat.reduceAdd, reduceCtorEq, num, boo, str, ints, aV, aTab, aInst, aS, aT, aC, found, pairA, num, boo, str, aE_eq, aV]) (by first | rfl | (simp only [ends, ite_true, ite_false, reduceIte, Nat.reduceEqDiff, Nat.reduceLeDiff, Nat.reduceLT, Nat.reduceAdd, reduceCtorEq, num, boo, str, ints, aV, aTab, aInst, aS, aT, aC, found, pairA, num, boo, str, aE_eq, aV]; done) | simp [ends, ite_true, ite_false, reduceIte, Nat.reduceEqDiff, Nat.reduceLeDiff, Nat.reduceLT, Nat.reduceAdd, reduceCtorEq, num, boo, str, ints, aV, aTab, aInst, aS, aT, aC, found, pairA, num, boo, str, aE_eq, aV]) (by simp only [ends, ite_true, ite_false, reduceIte, Nat.reduceEqDiff, Nat.reduceLeDiff, Nat.reduceLT, Nat.reduceAdd, reduceCtorEq, num, boo, str, ints, aV, aTab, aInst, aS, aT, aC, found, pairA]) (by simp [idsOk, lookO, updO, ren1]) ?_
  have hv : typeM (ownM ts) e = typG (ownM ts) e := by rw [typeM, if_neg h', if_neg g']
  simp -implicitDefEqProofs only [pairA, ↓steps, push_cast, reduceIte, Nat.reduceEqDiff, Nat.reduceAdd, Nat.reduceMul, Nat.reduceLT, Nat.reduceLeDiff, Int.reduceToNat, Int.reduceLE, Int.reduceLT, reduceCtorEq, tte, num, boo, str, ints, aV, aTab, aInst, aS, aT, aC, found, pairA]
  exact ret_d2 trivial (by rw [← hr, hv]; rfl) (by simp only [ends, ite_true, ite_false, reduceIte, Nat.reduceEqDiff, Nat.reduceLeDiff, Nat.reduceLT, Nat.reduceAdd, reduceCtorEq, num, boo, str, ints, aV, aTab, aInst, aS, aT, aC, found, pairA])

/-- A numbered list's first error. -/
def ferrN (f : Nat → Int) (N : Nat) : Int := ferr f (List.range N)
theorem range_getD {N i : Nat} (h : i < N) : (List.range N).getD i default = i := by rw [List.getD_eq_getElem?_getD, List.getElem?_range h]; rfl
theorem ferrN_at {f : Nat → Int} {N n : Nat} (h : n < N) (hi : ∀ i, i < n → f i = 0) (hn : f n ≠ 0) : ferrN f N = f n := by
  have := ferr_at f (List.range N) n (by simpa using h) (fun i h2 => by rw [range_getD (by omega)]; exact hi i h2) (by rw [range_getD h]; exact hn)
  rwa [range_getD h] at this
theorem ferrN_none {f : Nat → Int} {N : Nat} (hi : ∀ i, i < N → f i = 0) : ferrN f N = 0 :=
  ferr_none f (List.range N) fun i h => by rw [List.length_range] at h; rw [range_getD h]; exact hi i h

def badType (k : Int) : Bool := (k != 1 && k != 2) && k != 3
def posOf (k : Int) : Int := if 0 > k then 0 else k
def colErr (t : Tbl) (i : Nat) : Int :=
  if !nameP (t.columns.getD i default).name then 3 else if posOf (byC t.columns (t.columns.getD i default).name) < i then 5 else if badType (t.columns.getD i default).type then 4 else 0
def chkErr (t : Tbl) (e : Ex) : Int := if (typeM (ownM (typesOf t)) e).2 ≠ 0 then (typeM (ownM (typesOf t)) e).2 else if (typeM (ownM (typesOf t)) e).1 ≠ 2 then 4 else 0
def bigT (t : Tbl) : Bool := ((decide ((t.columns.length : Int) > 8) || decide ((t.uniques.length : Int) > 3)) || decide ((t.foreigns.length : Int) > 3)) || decide ((t.checks.length : Int) > 4)
def tableM (t : Tbl) : Int :=
  if bigT t then 8 else if t.columns.length = 0 then 9
  else if ferrN (colErr t) t.columns.length ≠ 0 then ferrN (colErr t) t.columns.length
  else if keysM t ≠ 0 then keysM t else ferr (chkErr t) t.checks

theorem c_table (t : Tbl) (ht : SmallT t) : ACall Tryd.prog 31 [aT t] [] (num (tableM t)) [] := by
  refine ACall.enter mixed ttok Tryd.func31 rfl rfl _ Tryd.ntmps31 (Nat.le_of_ble_eq_true rfl) (by kernel_rfl) _ (congrArg Array.toList Tryd.results31) ?_
  generalize hr : num (tableM t) = R
  simp -implicitDefEqProofs only [argT, ↓steps, push_cast, reduceIte, Nat.reduceEqDiff, Nat.reduceAdd, Nat.reduceMul, Nat.reduceLT, Nat.reduceLeDiff, Int.reduceToNat, Int.reduceLE, Int.reduceLT, reduceCtorEq, tte, num, boo, str, ints, aV, aTab, aInst, aS, aT, aC, found, pairA]
  have hcl := ht.cols
  have hkl := ht.chk
  have hbig : bigT t = true → retx (some (True, A.d (D.lit (Value.int .i64 8)))) ⟨[], [(1, vT t)]⟩ R [] := fun hb => ret_d trivial (by rw [← hr, tableM, if_pos hb]; rfl) (by simp only [ends, ite_true, ite_false, reduceIte, Nat.reduceEqDiff, Nat.reduceLeDiff, Nat.reduceLT, Nat.reduceAdd, reduceCtorEq, num, boo, str, ints, aV, aTab, aInst, aS, aT, aC, found, pairA])
  simp only [vT] at hbig
  refine bcase_intro (fun h1 => ?_) fun h1 => ?_
  · exact hbig (by rw [bigT, h1]; simp only [Bool.true_or])
  refine bcase_intro (fun h2 => ?_) fun h2 => ?_
  · exact hbig (by rw [bigT, h2]; simp only [Bool.or_true, Bool.true_or])
  refine bcase_intro (fun h3 => ?_) fun h3 => ?_
  · exact hbig (by rw [bigT, h3]; simp only [Bool.or_true, Bool.true_or])
  refine bcase_intro (fun h4 => ?_) fun h4 => ?_
  · exact hbig (by rw [bigT, h4]; simp only [Bool.or_true])
  clear hbig
  have hb : ¬ bigT t = true := by rw [bigT, h1, h2, h3, h4]; decide
  refine bcase_intro (fun h5 => ?_) fun h5 => ?_
  · have h5' : t.columns.length = 0 := by simpa using h5
    exact ret_d trivial (by rw [← hr, tableM, if_neg hb, if_pos h5']; rfl) (by simp only [ends, ite_true, ite_false, reduceIte, Nat.reduceEqDiff, Nat.reduceLeDiff, Nat.reduceLT, Nat.reduceAdd, reduceCtorEq, num, boo, str, ints, aV, aTab, aInst, aS, aT, aC, found, pairA])
  have h5' : ¬ t.columns.length = 0 := by simpa using h5
  have hM : tableM t = if ferrN (colErr t) t.columns.length ≠ 0 then ferrN (colErr t) t.columns.length
      else if keysM t ≠ 0 then keysM t else ferr (chkErr t) t.checks := by rw [tableM, if_neg hb, if_neg h5']
  clear h1 h2 h3 h4 h5
  refine loop_count mixed ttok 43 [1, 41, 42] [1] (by simp only [pickT, ends, ite_true, ite_false, reduceIte, Nat.reduceEqDiff, Nat.reduceLeDiff, Nat.reduceLT, Nat.reduceAdd, reduceCtorEq, num, boo, str, ints, aV, aTab, aInst, aS, aT, aC, found, pairA]; rfl) (by simp only [pickO, consO_some, ends, ite_true, ite_false, reduceIte, Nat.reduceEqDiff, Nat.reduceLeDiff, Nat.reduceLT, Nat.reduceAdd, reduceCtorEq, num, boo, str, ints, aV, aTab, aInst, aS, aT, aC, found, pairA]; rfl) t.columns.length (fun n => ∀ i, i < n → colErr t i = 0) (fun _ => []) (fun _ => []) (fun i h => absurd h (Nat.not_lt_zero _)) ?_ ?_
  · exact Weak.keepL (by simp [cst, ends, ite_true, ite_false, reduceIte, Nat.reduceEqDiff, Nat.reduceLeDiff, Nat.reduceLT, Nat.reduceAdd, reduceCtorEq, num, boo, str, ints, aV, aTab, aInst, aS, aT, aC, found, pairA]) (by simp [cst, ends, ite_true, ite_false, reduceIte, Nat.reduceEqDiff, Nat.reduceLeDiff, Nat.reduceLT, Nat.reduceAdd, reduceCtorEq, num, boo, str, ints, aV, aTab, aInst, aS, aT, aC, found, pairA]) (by simp [cst, ends, ite_true, ite_false, reduceIte, Nat.reduceEqDiff, Nat.reduceLeDiff, Nat.reduceLT, Nat.reduceAdd, reduceCtorEq, num, boo, str, ints, aV, aTab, aInst, aS, aT, aC, found, pairA])
  intro I hI n hn hi
  simp -implicitDefEqProofs only [cst, ↓steps, push_cast, reduceIte, Nat.reduceEqDiff, Nat.reduceAdd, Nat.reduceMul, Nat.reduceLT, Nat.reduceLeDiff, Int.reduceToNat, Int.reduceLE, Int.reduceLT, reduceCtorEq, tte, num, boo, str, ints, aV, aTab, aInst, aS, aT, aC, found, pairA]
  refine bcase_intro (fun h => ?_) fun h => ?_
  · simp only [decide_eq_true_eq] at h
    have h' : n < t.columns.length := by omega
    have hw := wrap_succ h' (by omega)
    have hE : colErr t n ≠ 0 → num (colErr t n) = R := fun hne => by
      have := ferrN_at h' hi hne
      rw [← hr, hM, this, if_pos hne]
    refine ⟨(by first | omega | trivial | (refine ⟨?_, ?_⟩ <;> first | omega | trivial | (refine ⟨?_, ?_⟩ <;> first | omega | trivial | (refine ⟨?_, ?_⟩ <;> first | omega | trivial | rfl)))), ?_⟩
    refine callx_of [[0]] [] rfl (c_name (t.columns.getD n default).name) (by first | (simp; done) | (simp [rowsOf_length]; done) | (simp [rowsOf_length]; omega)) (by first | (simp only [ends, ite_true, ite_false, reduceIte, Nat.reduceEqDiff, Nat.reduceLeDiff, Nat.reduceLT, Nat.reduceAdd, reduceCtorEq, num, boo, str, ints, aV, aTab, aInst, aS, aT, aC, found, pairA, num, boo, str, aE_eq, aV]; done) | simp [ends, ite_true, ite_false, reduceIte, Nat.reduceEqDiff, Nat.reduceLeDiff, Nat.reduceLT, Nat.reduceAdd, reduceCtorEq, num, boo, str, ints, aV, aTab, aInst, aS, aT, aC, found, pairA, num, boo, str, aE_eq, aV]) (by first | rfl | (simp only [ends, ite_true, ite_false, reduceIte, Nat.reduceEqDiff, Nat.reduceLeDiff, Nat.reduceLT, Nat.reduceAdd, reduceCtorEq, num, boo, str, ints, aV, aTab, aInst, aS, aT, aC, found, pairA, num, boo, str, aE_eq, aV]; done) | simp [ends, ite_true, ite_false, reduceIte, Nat.reduceEqDiff, Nat.reduceLeDiff, Nat.reduceLT, Nat.reduceAdd, reduceCtorEq, num, boo, str, ints, aV, aTab, aInst, aS, aT, aC, found, pairA, num, boo, str, aE_eq, aV]) (by simp only [ends, ite_true, ite_false, reduceIte, Nat.reduceEqDiff, Nat.reduceLeDiff, Nat.reduceLT, Nat.reduceAdd, reduceCtorEq, num, boo, str, ints, aV, aTab, aInst, aS, aT, aC, found, pairA]) (by simp [idsOk, lookO, updO, ren1]) ?_
    simp -implicitDefEqProofs only [↓steps, push_cast, reduceIte, Nat.reduceEqDiff, Nat.reduceAdd, Nat.reduceMul, Nat.reduceLT, Nat.reduceLeDiff, Int.reduceToNat, Int.reduceLE, Int.reduceLT, reduceCtorEq, tte, num, boo, str, ints, aV, aTab, aInst, aS, aT, aC, found, pairA]
    refine bcase_intro (fun g1 => ?_) fun g1 => ?_
    · have hc : colErr t n = 3 := if_pos g1
      exact ret_d trivial (by rw [← hE (by rw [hc]; decide), hc]; rfl) (by simp only [ends, ite_true, ite_false, reduceIte, Nat.reduceEqDiff, Nat.reduceLeDiff, Nat.reduceLT, Nat.reduceAdd, reduceCtorEq, num, boo, str, ints, aV, aTab, aInst, aS, aT, aC, found, pairA])
    refine callx_of [[0, 3, 1, 1, 2, 6], [0]] [] rfl (c_column t (t.columns.getD n default).name (by omega)) (by first | (simp; done) | (simp [rowsOf_length]; done) | (simp [rowsOf_length]; omega)) (by first | (simp only [ends, ite_true, ite_false, reduceIte, Nat.reduceEqDiff, Nat.reduceLeDiff, Nat.reduceLT, Nat.reduceAdd, reduceCtorEq, num, boo, str, ints, aV, aTab, aInst, aS, aT, aC, found, pairA, num, boo, str, aE_eq, aV]; done) | simp [ends, ite_true, ite_false, reduceIte, Nat.reduceEqDiff, Nat.reduceLeDiff, Nat.reduceLT, Nat.reduceAdd, reduceCtorEq, num, boo, str, ints, aV, aTab, aInst, aS, aT, aC, found, pairA, num, boo, str, aE_eq, aV]) (by first | rfl | (simp only [ends, ite_true, ite_false, reduceIte, Nat.reduceEqDiff, Nat.reduceLeDiff, Nat.reduceLT, Nat.reduceAdd, reduceCtorEq, num, boo, str, ints, aV, aTab, aInst, aS, aT, aC, found, pairA, num, boo, str, aE_eq, aV]; done) | simp [ends, ite_true, ite_false, reduceIte, Nat.reduceEqDiff, Nat.reduceLeDiff, Nat.reduceLT, Nat.reduceAdd, reduceCtorEq, num, boo, str, ints, aV, aTab, aInst, aS, aT, aC, found, pairA, num, boo, str, aE_eq, aV]) (by simp only [ends, ite_true, ite_false, reduceIte, Nat.reduceEqDiff, Nat.reduceLeDiff, Nat.reduceLT, Nat.reduceAdd, reduceCtorEq, num, boo, str, ints, aV, aTab, aInst, aS, aT, aC, found, pairA]) (by simp [idsOk, lookO, updO, ren1]) ?_
    simp -implicitDefEqProofs only [↓steps, push_cast, reduceIte, Nat.reduceEqDiff, Nat.reduceAdd, Nat.reduceMul, Nat.reduceLT, Nat.reduceLeDiff, Int.reduceToNat, Int.reduceLE, Int.reduceLT, reduceCtorEq, tte, num, boo, str, ints, aV, aTab, aInst, aS, aT, aC, found, pairA]
    refine bcase_intro (fun g2 => ?_) fun g2 => ?_
    · have hc : colErr t n = 5 := by rw [colErr, if_neg (by rw [g1]; decide)]; exact if_pos (of_decide_eq_true g2)
      exact ret_d trivial (by rw [← hE (by rw [hc]; decide), hc]; rfl) (by simp only [ends, ite_true, ite_false, reduceIte, Nat.reduceEqDiff, Nat.reduceLeDiff, Nat.reduceLT, Nat.reduceAdd, reduceCtorEq, num, boo, str, ints, aV, aTab, aInst, aS, aT, aC, found, pairA])
    have hcB : colErr t n = if badType (t.columns.getD n default).type then 4 else 0 := by rw [colErr, if_neg (by rw [g1]; decide)]; exact if_neg (of_decide_eq_false g2)
    have hinv : badType (t.columns.getD n default).type = false → ∀ i, i < n + 1 → colErr t i = 0 := fun hb i h2 => if h3 : i = n then by rw [h3, hcB, hb]; rfl else hi i (by omega)
    refine bcase_intro (fun g3 => ?_) fun g3 => ?_
    · refine bcase_intro (fun g4 => ?_) fun g4 => ?_
      · refine bcase_intro (fun g5 => ?_) fun g5 => ?_
        · have hc : colErr t n = 4 := by rw [hcB, badType, g3, g4, g5]; rfl
          exact ret_d trivial (by rw [← hE (by rw [hc]; decide), hc]; rfl) (by simp only [ends, ite_true, ite_false, reduceIte, Nat.reduceEqDiff, Nat.reduceLeDiff, Nat.reduceLT, Nat.reduceAdd, reduceCtorEq, num, boo, str, ints, aV, aTab, aInst, aS, aT, aC, found, pairA])
        · exact cnt_again hI n rfl h' (hinv (by rw [badType, g5, Bool.and_false])) (by simp only [hw, ends, ite_true, ite_false, reduceIte, Nat.reduceEqDiff, Nat.reduceLeDiff, Nat.reduceLT, Nat.reduceAdd, reduceCtorEq, num, boo, str, ints, aV, aTab, aInst, aS, aT, aC, found, pairA]) (by simp [hw, ends, ite_true, ite_false, reduceIte, Nat.reduceEqDiff, Nat.reduceLeDiff, Nat.reduceLT, Nat.reduceAdd, reduceCtorEq, num, boo, str, ints, aV, aTab, aInst, aS, aT, aC, found, pairA]) (by simp [hw, ends, ite_true, ite_false, reduceIte, Nat.reduceEqDiff, Nat.reduceLeDiff, Nat.reduceLT, Nat.reduceAdd, reduceCtorEq, num, boo, str, ints, aV, aTab, aInst, aS, aT, aC, found, pairA]) (by simp [hw, ends, ite_true, ite_false, reduceIte, Nat.reduceEqDiff, Nat.reduceLeDiff, Nat.reduceLT, Nat.reduceAdd, reduceCtorEq, num, boo, str, ints, aV, aTab, aInst, aS, aT, aC, found, pairA])
      · exact cnt_again hI n rfl h' (hinv (by rw [badType, g4, Bool.and_false, Bool.false_and])) (by simp only [hw, ends, ite_true, ite_false, reduceIte, Nat.reduceEqDiff, Nat.reduceLeDiff, Nat.reduceLT, Nat.reduceAdd, reduceCtorEq, num, boo, str, ints, aV, aTab, aInst, aS, aT, aC, found, pairA]) (by simp [hw, ends, ite_true, ite_false, reduceIte, Nat.reduceEqDiff, Nat.reduceLeDiff, Nat.reduceLT, Nat.reduceAdd, reduceCtorEq, num, boo, str, ints, aV, aTab, aInst, aS, aT, aC, found, pairA]) (by simp [hw, ends, ite_true, ite_false, reduceIte, Nat.reduceEqDiff, Nat.reduceLeDiff, Nat.reduceLT, Nat.reduceAdd, reduceCtorEq, num, boo, str, ints, aV, aTab, aInst, aS, aT, aC, found, pairA]) (by simp [hw, ends, ite_true, ite_false, reduceIte, Nat.reduceEqDiff, Nat.reduceLeDiff, Nat.reduceLT, Nat.reduceAdd, reduceCtorEq, num, boo, str, ints, aV, aTab, aInst, aS, aT, aC, found, pairA])
    · exact cnt_again hI n rfl h' (hinv (by rw [badType, g3, Bool.false_and, Bool.false_and])) (by simp only [hw, ends, ite_true, ite_false, reduceIte, Nat.reduceEqDiff, Nat.reduceLeDiff, Nat.reduceLT, Nat.reduceAdd, reduceCtorEq, num, boo, str, ints, aV, aTab, aInst, aS, aT, aC, found, pairA]) (by simp [hw, ends, ite_true, ite_false, reduceIte, Nat.reduceEqDiff, Nat.reduceLeDiff, Nat.reduceLT, Nat.reduceAdd, reduceCtorEq, num, boo, str, ints, aV, aTab, aInst, aS, aT, aC, found, pairA]) (by simp [hw, ends, ite_true, ite_false, reduceIte, Nat.reduceEqDiff, Nat.reduceLeDiff, Nat.reduceLT, Nat.reduceAdd, reduceCtorEq, num, boo, str, ints, aV, aTab, aInst, aS, aT, aC, found, pairA]) (by simp [hw, ends, ite_true, ite_false, reduceIte, Nat.reduceEqDiff, Nat.reduceLeDiff, Nat.reduceLT, Nat.reduceAdd, reduceCtorEq, num, boo, str, ints, aV, aTab, aInst, aS, aT, aC, found, pairA])
  simp only [decide_eq_false_iff_not] at h
  obtain rfl : n = t.columns.length := by omega
  clear hI
  have hM2 : tableM t = if keysM t ≠ 0 then keysM t else ferr (chkErr t) t.checks := by rw [hM, ferrN_none hi, if_neg (by decide)]
  clear hM h
  refine callx_of [[0, 3, 1, 1, 2, 6]] [] rfl (c_keys t ht) (by first | (simp; done) | (simp [rowsOf_length]; done) | (simp [rowsOf_length]; omega)) (by first | (simp only [ends, ite_true, ite_false, reduceIte, Nat.reduceEqDiff, Nat.reduceLeDiff, Nat.reduceLT, Nat.reduceAdd, reduceCtorEq, num, boo, str, ints, aV, aTab, aInst, aS, aT, aC, found, pairA, num, boo, str, aE_eq, aV]; done) | simp [ends, ite_true, ite_false, reduceIte, Nat.reduceEqDiff, Nat.reduceLeDiff, Nat.reduceLT, Nat.reduceAdd, reduceCtorEq, num, boo, str, ints, aV, aTab, aInst, aS, aT, aC, found, pairA, num, boo, str, aE_eq, aV]) (by first | rfl | (simp only [ends, ite_true, ite_false, reduceIte, Nat.reduceEqDiff, Nat.reduceLeDiff, Nat.reduceLT, Nat.reduceAdd, reduceCtorEq, num, boo, str, ints, aV, aTab, aInst, aS, aT, aC, found, pairA, num, boo, str, aE_eq, aV]; done) | simp [ends, ite_true, ite_false, reduceIte, Nat.reduceEqDiff, Nat.reduceLeDiff, Nat.reduceLT, Nat.reduceAdd, reduceCtorEq, num, boo, str, ints, aV, aTab, aInst, aS, aT, aC, found, pairA, num, boo, str, aE_eq, aV]) (by simp only [ends, ite_true, ite_false, reduceIte, Nat.reduceEqDiff, Nat.reduceLeDiff, Nat.reduceLT, Nat.reduceAdd, reduceCtorEq, num, boo, str, ints, aV, aTab, aInst, aS, aT, aC, found, pairA]) (by simp [idsOk, lookO, updO, ren1]) ?_
  simp -implicitDefEqProofs only [↓steps, push_cast, reduceIte, Nat.reduceEqDiff, Nat.reduceAdd, Nat.reduceMul, Nat.reduceLT, Nat.reduceLeDiff, Int.reduceToNat, Int.reduceLE, Int.reduceLT, reduceCtorEq, tte, num, boo, str, ints, aV, aTab, aInst, aS, aT, aC, found, pairA]
  refine bcase_intro (fun k1 => ?_) fun k1 => ?_
  · have k1' : keysM t ≠ 0 := by simpa using k1
    exact ret_d trivial (by rw [← hr, hM2, if_pos k1']; rfl) (by simp only [ends, ite_true, ite_false, reduceIte, Nat.reduceEqDiff, Nat.reduceLeDiff, Nat.reduceLT, Nat.reduceAdd, reduceCtorEq, num, boo, str, ints, aV, aTab, aInst, aS, aT, aC, found, pairA])
  have k1' : ¬ keysM t ≠ 0 := by simpa using k1
  rw [if_neg k1'] at hM2
  refine loop_count mixed ttok 84 [1, 82, 83] [1] (by simp only [pickT, ends, ite_true, ite_false, reduceIte, Nat.reduceEqDiff, Nat.reduceLeDiff, Nat.reduceLT, Nat.reduceAdd, reduceCtorEq, num, boo, str, ints, aV, aTab, aInst, aS, aT, aC, found, pairA]; rfl) (by simp only [pickO, consO_some, ends, ite_true, ite_false, reduceIte, Nat.reduceEqDiff, Nat.reduceLeDiff, Nat.reduceLT, Nat.reduceAdd, reduceCtorEq, num, boo, str, ints, aV, aTab, aInst, aS, aT, aC, found, pairA]; rfl) t.checks.length (fun n => ∀ i, i < n → chkErr t (t.checks.getD i default) = 0) (fun _ => []) (fun _ => []) (fun i h => absurd h (Nat.not_lt_zero _)) ?_ ?_
  · exact Weak.keepL (by simp [cst, ends, ite_true, ite_false, reduceIte, Nat.reduceEqDiff, Nat.reduceLeDiff, Nat.reduceLT, Nat.reduceAdd, reduceCtorEq, num, boo, str, ints, aV, aTab, aInst, aS, aT, aC, found, pairA]) (by simp [cst, ends, ite_true, ite_false, reduceIte, Nat.reduceEqDiff, Nat.reduceLeDiff, Nat.reduceLT, Nat.reduceAdd, reduceCtorEq, num, boo, str, ints, aV, aTab, aInst, aS, aT, aC, found, pairA]) (by simp [cst, ends, ite_true, ite_false, reduceIte, Nat.reduceEqDiff, Nat.reduceLeDiff, Nat.reduceLT, Nat.reduceAdd, reduceCtorEq, num, boo, str, ints, aV, aTab, aInst, aS, aT, aC, found, pairA])
  clear hi hn I
  intro I hI n hn hi
  simp -implicitDefEqProofs only [cst, ↓steps, push_cast, reduceIte, Nat.reduceEqDiff, Nat.reduceAdd, Nat.reduceMul, Nat.reduceLT, Nat.reduceLeDiff, Int.reduceToNat, Int.reduceLE, Int.reduceLT, reduceCtorEq, tte, num, boo, str, ints, aV, aTab, aInst, aS, aT, aC, found, pairA]
  refine bcase_intro (fun h => ?_) fun h => ?_
  · simp only [decide_eq_true_eq] at h
    have h' : n < t.checks.length := by omega
    have hw := wrap_succ h' (by omega)
    have hE : chkErr t (t.checks.getD n default) ≠ 0 → num (chkErr t (t.checks.getD n default)) = R := fun hne => by
      have := ferr_at (chkErr t) t.checks n h' hi hne
      rw [← hr, hM2, this]
    have hl : (typesOf t).length ≤ 1000000000 := by rw [typesOf, List.length_map]; omega
    refine ⟨(by first | omega | trivial | (refine ⟨?_, ?_⟩ <;> first | omega | trivial | (refine ⟨?_, ?_⟩ <;> first | omega | trivial | (refine ⟨?_, ?_⟩ <;> first | omega | trivial | rfl)))), ?_⟩
    refine callx_of [[0, 3, 1, 1, 2, 6]] [] rfl (c_types t (by omega)) (by first | (simp; done) | (simp [rowsOf_length]; done) | (simp [rowsOf_length]; omega)) (by first | (simp only [ends, ite_true, ite_false, reduceIte, Nat.reduceEqDiff, Nat.reduceLeDiff, Nat.reduceLT, Nat.reduceAdd, reduceCtorEq, num, boo, str, ints, aV, aTab, aInst, aS, aT, aC, found, pairA, num, boo, str, aE_eq, aV]; done) | simp [ends, ite_true, ite_false, reduceIte, Nat.reduceEqDiff, Nat.reduceLeDiff, Nat.reduceLT, Nat.reduceAdd, reduceCtorEq, num, boo, str, ints, aV, aTab, aInst, aS, aT, aC, found, pairA, num, boo, str, aE_eq, aV]) (by first | rfl | (simp only [ends, ite_true, ite_false, reduceIte, Nat.reduceEqDiff, Nat.reduceLeDiff, Nat.reduceLT, Nat.reduceAdd, reduceCtorEq, num, boo, str, ints, aV, aTab, aInst, aS, aT, aC, found, pairA, num, boo, str, aE_eq, aV]; done) | simp [ends, ite_true, ite_false, reduceIte, Nat.reduceEqDiff, Nat.reduceLeDiff, Nat.reduceLT, Nat.reduceAdd, reduceCtorEq, num, boo, str, ints, aV, aTab, aInst, aS, aT, aC, found, pairA, num, boo, str, aE_eq, aV]) (by simp only [ends, ite_true, ite_false, reduceIte, Nat.reduceEqDiff, Nat.reduceLeDiff, Nat.reduceLT, Nat.reduceAdd, reduceCtorEq, num, boo, str, ints, aV, aTab, aInst, aS, aT, aC, found, pairA]) (by simp [idsOk, lookO, updO, ren1]) ?_
    simp -implicitDefEqProofs only [↓steps, push_cast, reduceIte, Nat.reduceEqDiff, Nat.reduceAdd, Nat.reduceMul, Nat.reduceLT, Nat.reduceLeDiff, Int.reduceToNat, Int.reduceLE, Int.reduceLT, reduceCtorEq, tte, num, boo, str, ints, aV, aTab, aInst, aS, aT, aC, found, pairA]
    refine callx_of [[1], [0, 0, 0, 0, 0, 6]] [] rfl (c_type (typesOf t) hl (t.checks.getD n default) (ht.chks _ (getD_mem h'))) (by first | (simp; done) | (simp [rowsOf_length]; done) | (simp [rowsOf_length]; omega)) (by first | (simp only [ends, ite_true, ite_false, reduceIte, Nat.reduceEqDiff, Nat.reduceLeDiff, Nat.reduceLT, Nat.reduceAdd, reduceCtorEq, num, boo, str, ints, aV, aTab, aInst, aS, aT, aC, found, pairA, num, boo, str, aE_eq, aV]; done) | simp [ends, ite_true, ite_false, reduceIte, Nat.reduceEqDiff, Nat.reduceLeDiff, Nat.reduceLT, Nat.reduceAdd, reduceCtorEq, num, boo, str, ints, aV, aTab, aInst, aS, aT, aC, found, pairA, num, boo, str, aE_eq, aV]) (by first | rfl | (simp only [ends, ite_true, ite_false, reduceIte, Nat.reduceEqDiff, Nat.reduceLeDiff, Nat.reduceLT, Nat.reduceAdd, reduceCtorEq, num, boo, str, ints, aV, aTab, aInst, aS, aT, aC, found, pairA, num, boo, str, aE_eq, aV]; done) | simp [ends, ite_true, ite_false, reduceIte, Nat.reduceEqDiff, Nat.reduceLeDiff, Nat.reduceLT, Nat.reduceAdd, reduceCtorEq, num, boo, str, ints, aV, aTab, aInst, aS, aT, aC, found, pairA, num, boo, str, aE_eq, aV]) (by simp only [ends, ite_true, ite_false, reduceIte, Nat.reduceEqDiff, Nat.reduceLeDiff, Nat.reduceLT, Nat.reduceAdd, reduceCtorEq, num, boo, str, ints, aV, aTab, aInst, aS, aT, aC, found, pairA]) (by simp [idsOk, lookO, updO, ren1]) ?_
    simp -implicitDefEqProofs only [pairA, ↓steps, push_cast, reduceIte, Nat.reduceEqDiff, Nat.reduceAdd, Nat.reduceMul, Nat.reduceLT, Nat.reduceLeDiff, Int.reduceToNat, Int.reduceLE, Int.reduceLT, reduceCtorEq, tte, num, boo, str, ints, aV, aTab, aInst, aS, aT, aC, found, pairA]
    refine ⟨drawx_intro (by kernel_rfl), ?_⟩
    refine bcase_intro (fun g1 => ?_) fun g1 => ?_
    · have g1' : (typeM (ownM (typesOf t)) (t.checks.getD n default)).2 ≠ 0 := by simpa using g1
      have hc : chkErr t (t.checks.getD n default) = (typeM (ownM (typesOf t)) (t.checks.getD n default)).2 := if_pos g1'
      exact ret_d trivial (by rw [← hE (by rw [hc]; exact g1'), hc]; rfl) (by simp only [ends, ite_true, ite_false, reduceIte, Nat.reduceEqDiff, Nat.reduceLeDiff, Nat.reduceLT, Nat.reduceAdd, reduceCtorEq, num, boo, str, ints, aV, aTab, aInst, aS, aT, aC, found, pairA])
    have g1' : ¬ (typeM (ownM (typesOf t)) (t.checks.getD n default)).2 ≠ 0 := by simpa using g1
    refine bcase_intro (fun g2 => ?_) fun g2 => ?_
    · have g2' : (typeM (ownM (typesOf t)) (t.checks.getD n default)).1 ≠ 2 := by simpa using g2
      have hc : chkErr t (t.checks.getD n default) = 4 := by rw [chkErr, if_neg g1', if_pos g2']
      exact ret_d trivial (by rw [← hE (by rw [hc]; decide), hc]; rfl) (by simp only [ends, ite_true, ite_false, reduceIte, Nat.reduceEqDiff, Nat.reduceLeDiff, Nat.reduceLT, Nat.reduceAdd, reduceCtorEq, num, boo, str, ints, aV, aTab, aInst, aS, aT, aC, found, pairA])
    have g2' : ¬ (typeM (ownM (typesOf t)) (t.checks.getD n default)).1 ≠ 2 := by simpa using g2
    have hc : chkErr t (t.checks.getD n default) = 0 := by rw [chkErr, if_neg g1', if_neg g2']
    exact cnt_again hI n rfl h' (fun i h2 => if h3 : i = n then by rw [h3]; exact hc else hi i (by omega)) (by simp only [hw, ends, ite_true, ite_false, reduceIte, Nat.reduceEqDiff, Nat.reduceLeDiff, Nat.reduceLT, Nat.reduceAdd, reduceCtorEq, num, boo, str, ints, aV, aTab, aInst, aS, aT, aC, found, pairA]) (by simp [hw, ends, ite_true, ite_false, reduceIte, Nat.reduceEqDiff, Nat.reduceLeDiff, Nat.reduceLT, Nat.reduceAdd, reduceCtorEq, num, boo, str, ints, aV, aTab, aInst, aS, aT, aC, found, pairA]) (by simp [hw, ends, ite_true, ite_false, reduceIte, Nat.reduceEqDiff, Nat.reduceLeDiff, Nat.reduceLT, Nat.reduceAdd, reduceCtorEq, num, boo, str, ints, aV, aTab, aInst, aS, aT, aC, found, pairA]) (by simp [hw, ends, ite_true, ite_false, reduceIte, Nat.reduceEqDiff, Nat.reduceLeDiff, Nat.reduceLT, Nat.reduceAdd, reduceCtorEq, num, boo, str, ints, aV, aTab, aInst, aS, aT, aC, found, pairA])
  simp only [decide_eq_false_iff_not] at h
  obtain rfl : n = t.checks.length := by omega
  exact ret_d trivial (by rw [← hr, hM2, ferr_none _ _ hi]; rfl) (by simp only [ends, ite_true, ite_false, reduceIte, Nat.reduceEqDiff, Nat.reduceLeDiff, Nat.reduceLT, Nat.reduceAdd, reduceCtorEq, num, boo, str, ints, aV, aTab, aInst, aS, aT, aC, found, pairA])
end Go.Proofs.YtkccdfaelbepeaaDoor

namespace Go.Proofs.YtkccdfaelbepeaaDoor
open Go.Am
set_option linter.unusedVariables false
set_option maxRecDepth 100000
set_option maxHeartbeats 4000000

theorem ne_nat {a b : Nat} (h : ((a : Int) != (b : Int)) = true) : ¬ a = b := fun e => by rw [e] at h; simp at h
theorem eq_nat {a b : Nat} (h : ((a : Int) != (b : Int)) = false) : a = b := by simp only [bne_eq_false_iff_eq] at h; omega
def aFk (f : Fk) : A := .agg [.d (.sl 1 (rowsOf rI f.columns)), .d (.lit (.string f.table))]
def typeAt (t : Tbl) (k : Int) : Int := (t.columns.getD k.toNat default).type
theorem c_ref1 (t u : Tbl) (i j : Int) (hi : inC t i) (hj : inC u j) : ACall Tryd.prog 73 [num i, num j, .ptr 1000 0, .ptr 1001 0] [(1000, vT t), (1001, vT u)] (boo (typeAt t i == typeAt u j)) [(1000, vT t), (1001, vT u)] := by
  refine ACall.enter mixed ttok Tryd.func73 rfl rfl _ Tryd.ntmps73 (Nat.le_of_ble_eq_true rfl) (by kernel_rfl) _ (congrArg Array.toList Tryd.results73) ?_
  generalize hr : boo (typeAt t i == typeAt u j) = R
  obtain ⟨hi0, hi1⟩ := hi
  obtain ⟨hj0, hj1⟩ := hj
  simp -implicitDefEqProofs only [argT, vT, ↓steps, push_cast, reduceIte, Nat.reduceEqDiff, Nat.reduceAdd, Nat.reduceMul, Nat.reduceLT, Nat.reduceLeDiff, Int.reduceToNat, Int.reduceLE, Int.reduceLT, reduceCtorEq, tte, num, boo, str, ints, aV, aTab, aInst, aS, aT, aC, found, pairA, aFk, vT]
  refine ⟨⟨hi0, hi1⟩, ⟨hj0, hj1⟩, drawx_intro (by kernel_rfl), ?_⟩
  refine retx_of [0] rfl (by simp) (by first | (simp; done) | (simp [rowsOf_length]; done) | (simp [rowsOf_length]; omega)) ?_ (by first | rfl | simp only [ends, ite_true, ite_false, reduceIte, Nat.reduceEqDiff, Nat.reduceLeDiff, Nat.reduceLT, Nat.reduceAdd, reduceCtorEq, num, boo, str, ints, aV, aTab, aInst, aS, aT, aC, found, pairA, aFk, vT] | (subst_vars; simp only [ends, ite_true, ite_false, reduceIte, Nat.reduceEqDiff, Nat.reduceLeDiff, Nat.reduceLT, Nat.reduceAdd, reduceCtorEq, num, boo, str, ints, aV, aTab, aInst, aS, aT, aC, found, pairA, aFk, vT])) (by simp only [ends, ite_true, ite_false, reduceIte, Nat.reduceEqDiff, Nat.reduceLeDiff, Nat.reduceLT, Nat.reduceAdd, reduceCtorEq, num, boo, str, ints, aV, aTab, aInst, aS, aT, aC, found, pairA, aFk, vT]) (by simp only [ends, ite_true, ite_false, reduceIte, Nat.reduceEqDiff, Nat.reduceLeDiff, Nat.reduceLT, Nat.reduceAdd, reduceCtorEq, num, boo, str, ints, aV, aTab, aInst, aS, aT, aC, found, pairA, aFk, vT])
  exact hr
/-- Two lists of places whose columns are of like types. -/
def eqKeys (t u : Tbl) (a b : List Int) : Bool := a.length == b.length && (List.range a.length).all fun i => typeAt t (a.getD i default) == typeAt u (b.getD i default)
theorem c_eqF (t u : Tbl) (a b : List Int) (ha : ∀ k ∈ a, inC t k) (hb : ∀ k ∈ b, inC u k) (hl : a.length ≤ 1000) :
    ACall Tryd.prog 72 [ints a, ints b, .clo 73 [.ptr 1000 0, .ptr 1001 0]] [(1000, vT t), (1001, vT u)] (boo (eqKeys t u a b)) [(1000, vT t), (1001, vT u)] := by
  refine ACall.enter mixed ttok Tryd.func72 rfl rfl _ Tryd.ntmps72 (Nat.le_of_ble_eq_true rfl) (by kernel_rfl) _ (congrArg Array.toList Tryd.results72) ?_
  generalize hr : boo (eqKeys t u a b) = R
  simp -implicitDefEqProofs only [argT, vT, ↓steps, push_cast, reduceIte, Nat.reduceEqDiff, Nat.reduceAdd, Nat.reduceMul, Nat.reduceLT, Nat.reduceLeDiff, Int.reduceToNat, Int.reduceLE, Int.reduceLT, reduceCtorEq, tte, num, boo, str, ints, aV, aTab, aInst, aS, aT, aC, found, pairA, aFk, vT]
  refine bcase_intro (fun h0 => ?_) fun h0 => ?_
  · have h0' : ¬ a.length = b.length := ne_nat h0
    refine retx_of [0] rfl (by simp) (by first | (simp; done) | (simp [rowsOf_length]; done) | (simp [rowsOf_length]; omega)) ?_ (by first | rfl | simp only [ends, ite_true, ite_false, reduceIte, Nat.reduceEqDiff, Nat.reduceLeDiff, Nat.reduceLT, Nat.reduceAdd, reduceCtorEq, num, boo, str, ints, aV, aTab, aInst, aS, aT, aC, found, pairA, aFk, vT] | (subst_vars; simp only [ends, ite_true, ite_false, reduceIte, Nat.reduceEqDiff, Nat.reduceLeDiff, Nat.reduceLT, Nat.reduceAdd, reduceCtorEq, num, boo, str, ints, aV, aTab, aInst, aS, aT, aC, found, pairA, aFk, vT])) (by simp only [ends, ite_true, ite_false, reduceIte, Nat.reduceEqDiff, Nat.reduceLeDiff, Nat.reduceLT, Nat.reduceAdd, reduceCtorEq, num, boo, str, ints, aV, aTab, aInst, aS, aT, aC, found, pairA, aFk, vT]) (by simp only [ends, ite_true, ite_false, reduceIte, Nat.reduceEqDiff, Nat.reduceLeDiff, Nat.reduceLT, Nat.reduceAdd, reduceCtorEq, num, boo, str, ints, aV, aTab, aInst, aS, aT, aC, found, pairA, aFk, vT])
    rw [← hr, eqKeys, beq_false_of_ne h0']; rfl
  have h0' : a.length = b.length := eq_nat h0
  refine loop_count mixed ttok 17 [0, 1, 2, 15, 16] [1000, 1001] (by simp only [pickT, ends, ite_true, ite_false, reduceIte, Nat.reduceEqDiff, Nat.reduceLeDiff, Nat.reduceLT, Nat.reduceAdd, reduceCtorEq, num, boo, str, ints, aV, aTab, aInst, aS, aT, aC, found, pairA, aFk, vT]; rfl) (by simp only [pickO, consO_some, ends, ite_true, ite_false, reduceIte, Nat.reduceEqDiff, Nat.reduceLeDiff, Nat.reduceLT, Nat.reduceAdd, reduceCtorEq, num, boo, str, ints, aV, aTab, aInst, aS, aT, aC, found, pairA, aFk, vT]; rfl) a.length (fun n => ∀ i, i < n → (typeAt t (a.getD i default) == typeAt u (b.getD i default)) = true) (fun _ => []) (fun _ => []) (fun i h => absurd h (Nat.not_lt_zero _)) ?_ ?_
  · exact Weak.keepL (by simp [cst, ends, ite_true, ite_false, reduceIte, Nat.reduceEqDiff, Nat.reduceLeDiff, Nat.reduceLT, Nat.reduceAdd, reduceCtorEq, num, boo, str, ints, aV, aTab, aInst, aS, aT, aC, found, pairA, aFk, vT]) (by simp [cst, ends, ite_true, ite_false, reduceIte, Nat.reduceEqDiff, Nat.reduceLeDiff, Nat.reduceLT, Nat.reduceAdd, reduceCtorEq, num, boo, str, ints, aV, aTab, aInst, aS, aT, aC, found, pairA, aFk, vT]) (by simp [cst, ends, ite_true, ite_false, reduceIte, Nat.reduceEqDiff, Nat.reduceLeDiff, Nat.reduceLT, Nat.reduceAdd, reduceCtorEq, num, boo, str, ints, aV, aTab, aInst, aS, aT, aC, found, pairA, aFk, vT])
  intro I hI n hn hi
  simp -implicitDefEqProofs only [cst, ↓steps, push_cast, reduceIte, Nat.reduceEqDiff, Nat.reduceAdd, Nat.reduceMul, Nat.reduceLT, Nat.reduceLeDiff, Int.reduceToNat, Int.reduceLE, Int.reduceLT, reduceCtorEq, tte, num, boo, str, ints, aV, aTab, aInst, aS, aT, aC, found, pairA, aFk, vT]
  refine bcase_intro (fun h => ?_) fun h => ?_
  · simp only [decide_eq_true_eq] at h
    have h' : n < a.length := by omega
    have hw := wrap_succ h' (by omega)
    refine ⟨(by first | omega | trivial | (refine ⟨?_, ?_⟩ <;> first | omega | trivial | (refine ⟨?_, ?_⟩ <;> first | omega | trivial | (refine ⟨?_, ?_⟩ <;> first | omega | trivial | rfl)))), ?_⟩
    refine ⟨by omega, ?_⟩
    have hc := c_ref1 t u (a.getD n default) (b.getD n default) (ha _ (getD_mem h')) (hb _ (getD_mem (by omega)))
    unfold vT at hc
    refine callx_of [[0], [0], [], []] [(1000, 1000), (1001, 1001)] rfl (hc) (by first | (simp; done) | (simp [rowsOf_length]; done) | (simp [rowsOf_length]; omega)) (by first | (simp only [ends, ite_true, ite_false, reduceIte, Nat.reduceEqDiff, Nat.reduceLeDiff, Nat.reduceLT, Nat.reduceAdd, reduceCtorEq, num, boo, str, ints, aV, aTab, aInst, aS, aT, aC, found, pairA, aFk, vT, num, boo, str, aE_eq, aV]; done) | simp [ends, ite_true, ite_false, reduceIte, Nat.reduceEqDiff, Nat.reduceLeDiff, Nat.reduceLT, Nat.reduceAdd, reduceCtorEq, num, boo, str, ints, aV, aTab, aInst, aS, aT, aC, found, pairA, aFk, vT, num, boo, str, aE_eq, aV]) (by first | rfl | (simp only [ends, ite_true, ite_false, reduceIte, Nat.reduceEqDiff, Nat.reduceLeDiff, Nat.reduceLT, Nat.reduceAdd, reduceCtorEq, num, boo, str, ints, aV, aTab, aInst, aS, aT, aC, found, pairA, aFk, vT, num, boo, str, aE_eq, aV]; done) | simp [ends, ite_true, ite_false, reduceIte, Nat.reduceEqDiff, Nat.reduceLeDiff, Nat.reduceLT, Nat.reduceAdd, reduceCtorEq, num, boo, str, ints, aV, aTab, aInst, aS, aT, aC, found, pairA, aFk, vT, num, boo, str, aE_eq, aV]) (by simp only [ends, ite_true, ite_false, reduceIte, Nat.reduceEqDiff, Nat.reduceLeDiff, Nat.reduceLT, Nat.reduceAdd, reduceCtorEq, num, boo, str, ints, aV, aTab, aInst, aS, aT, aC, found, pairA, aFk, vT]) (by simp [idsOk, lookO, updO, ren1]) ?_
    simp -implicitDefEqProofs only [↓steps, push_cast, reduceIte, Nat.reduceEqDiff, Nat.reduceAdd, Nat.reduceMul, Nat.reduceLT, Nat.reduceLeDiff, Int.reduceToNat, Int.reduceLE, Int.reduceLT, reduceCtorEq, tte, num, boo, str, ints, aV, aTab, aInst, aS, aT, aC, found, pairA, aFk, vT]
    refine bcase_intro (fun g => ?_) fun g => ?_
    · have g' : (typeAt t (a.getD n default) == typeAt u (b.getD n default)) = false := by simpa using g
      refine retx_of [0] rfl (by simp) (by first | (simp; done) | (simp [rowsOf_length]; done) | (simp [rowsOf_length]; omega)) ?_ (by first | rfl | simp only [ends, ite_true, ite_false, reduceIte, Nat.reduceEqDiff, Nat.reduceLeDiff, Nat.reduceLT, Nat.reduceAdd, reduceCtorEq, num, boo, str, ints, aV, aTab, aInst, aS, aT, aC, found, pairA, aFk, vT] | (subst_vars; simp only [ends, ite_true, ite_false, reduceIte, Nat.reduceEqDiff, Nat.reduceLeDiff, Nat.reduceLT, Nat.reduceAdd, reduceCtorEq, num, boo, str, ints, aV, aTab, aInst, aS, aT, aC, found, pairA, aFk, vT])) (by simp only [ends, ite_true, ite_false, reduceIte, Nat.reduceEqDiff, Nat.reduceLeDiff, Nat.reduceLT, Nat.reduceAdd, reduceCtorEq, num, boo, str, ints, aV, aTab, aInst, aS, aT, aC, found, pairA, aFk, vT]) (by simp only [ends, ite_true, ite_false, reduceIte, Nat.reduceEqDiff, Nat.reduceLeDiff, Nat.reduceLT, Nat.reduceAdd, reduceCtorEq, num, boo, str, ints, aV, aTab, aInst, aS, aT, aC, found, pairA, aFk, vT])
      have hbad : ((List.range a.length).all fun i => typeAt t (a.getD i default) == typeAt u (b.getD i default)) = false := bad_range h' g'
      rw [← hr, eqKeys, hbad, Bool.and_false]; rfl
    · have g' : (typeAt t (a.getD n default) == typeAt u (b.getD n default)) = true := by simpa using g
      exact cnt_again hI n rfl h' (fun i h2 => if h3 : i = n then by rw [h3]; exact g' else hi i (by omega)) (by simp only [hw, ends, ite_true, ite_false, reduceIte, Nat.reduceEqDiff, Nat.reduceLeDiff, Nat.reduceLT, Nat.reduceAdd, reduceCtorEq, num, boo, str, ints, aV, aTab, aInst, aS, aT, aC, found, pairA, aFk, vT]) (by simp [hw, ends, ite_true, ite_false, reduceIte, Nat.reduceEqDiff, Nat.reduceLeDiff, Nat.reduceLT, Nat.reduceAdd, reduceCtorEq, num, boo, str, ints, aV, aTab, aInst, aS, aT, aC, found, pairA, aFk, vT]) (by simp [hw, ends, ite_true, ite_false, reduceIte, Nat.reduceEqDiff, Nat.reduceLeDiff, Nat.reduceLT, Nat.reduceAdd, reduceCtorEq, num, boo, str, ints, aV, aTab, aInst, aS, aT, aC, found, pairA, aFk, vT]) (by simp [hw, ends, ite_true, ite_false, reduceIte, Nat.reduceEqDiff, Nat.reduceLeDiff, Nat.reduceLT, Nat.reduceAdd, reduceCtorEq, num, boo, str, ints, aV, aTab, aInst, aS, aT, aC, found, pairA, aFk, vT])
  · simp only [decide_eq_false_iff_not] at h
    obtain rfl : n = a.length := by omega
    refine retx_of [0] rfl (by simp) (by first | (simp; done) | (simp [rowsOf_length]; done) | (simp [rowsOf_length]; omega)) ?_ (by first | rfl | simp only [ends, ite_true, ite_false, reduceIte, Nat.reduceEqDiff, Nat.reduceLeDiff, Nat.reduceLT, Nat.reduceAdd, reduceCtorEq, num, boo, str, ints, aV, aTab, aInst, aS, aT, aC, found, pairA, aFk, vT] | (subst_vars; simp only [ends, ite_true, ite_false, reduceIte, Nat.reduceEqDiff, Nat.reduceLeDiff, Nat.reduceLT, Nat.reduceAdd, reduceCtorEq, num, boo, str, ints, aV, aTab, aInst, aS, aT, aC, found, pairA, aFk, vT])) (by simp only [ends, ite_true, ite_false, reduceIte, Nat.reduceEqDiff, Nat.reduceLeDiff, Nat.reduceLT, Nat.reduceAdd, reduceCtorEq, num, boo, str, ints, aV, aTab, aInst, aS, aT, aC, found, pairA, aFk, vT]) (by simp only [ends, ite_true, ite_false, reduceIte, Nat.reduceEqDiff, Nat.reduceLeDiff, Nat.reduceLT, Nat.reduceAdd, reduceCtorEq, num, boo, str, ints, aV, aTab, aInst, aS, aT, aC, found, pairA, aFk, vT])
    rw [← hr, eqKeys, all_range.2 hi, h0', beq_self_eq_true]; rfl
def refM (s : Sch) (t : Tbl) (f : Fk) : Int :=
  if byT s f.table < 0 then 11 else if eqKeys t (s.getD (byT s f.table).toNat default) f.columns (s.getD (byT s f.table).toNat default).primary then 0 else 6
theorem c_reference (s : Sch) (t : Tbl) (f : Fk) (hs : s.length ≤ 1000) (hl : f.columns.length ≤ 1000) (hf : ∀ k ∈ f.columns, inC t k) (hp : ∀ u ∈ s, ∀ k ∈ u.primary, inC u k) :
    ACall Tryd.prog 32 [aS s, aT t, aFk f] [] (num (refM s t f)) [] := by
  refine ACall.enter mixed ttok Tryd.func32 rfl rfl _ Tryd.ntmps32 (Nat.le_of_ble_eq_true rfl) (by kernel_rfl) _ (congrArg Array.toList Tryd.results32) ?_
  generalize hr : num (refM s t f) = R
  simp -implicitDefEqProofs only [argT, ↓steps, push_cast, reduceIte, Nat.reduceEqDiff, Nat.reduceAdd, Nat.reduceMul, Nat.reduceLT, Nat.reduceLeDiff, Int.reduceToNat, Int.reduceLE, Int.reduceLT, reduceCtorEq, tte, num, boo, str, ints, aV, aTab, aInst, aS, aT, aC, found, pairA, aFk, vT]
  refine callx_of [[6], [0]] [] rfl (c_find s f.table (by omega)) (by first | (simp; done) | (simp [rowsOf_length]; done) | (simp [rowsOf_length]; omega)) (by first | (simp only [ends, ite_true, ite_false, reduceIte, Nat.reduceEqDiff, Nat.reduceLeDiff, Nat.reduceLT, Nat.reduceAdd, reduceCtorEq, num, boo, str, ints, aV, aTab, aInst, aS, aT, aC, found, pairA, aFk, vT, num, boo, str, aE_eq, aV]; done) | simp [ends, ite_true, ite_false, reduceIte, Nat.reduceEqDiff, Nat.reduceLeDiff, Nat.reduceLT, Nat.reduceAdd, reduceCtorEq, num, boo, str, ints, aV, aTab, aInst, aS, aT, aC, found, pairA, aFk, vT, num, boo, str, aE_eq, aV]) (by first | rfl | (simp only [ends, ite_true, ite_false, reduceIte, Nat.reduceEqDiff, Nat.reduceLeDiff, Nat.reduceLT, Nat.reduceAdd, reduceCtorEq, num, boo, str, ints, aV, aTab, aInst, aS, aT, aC, found, pairA, aFk, vT, num, boo, str, aE_eq, aV]; done) | simp [ends, ite_true, ite_false, reduceIte, Nat.reduceEqDiff, Nat.reduceLeDiff, Nat.reduceLT, Nat.reduceAdd, reduceCtorEq, num, boo, str, ints, aV, aTab, aInst, aS, aT, aC, found, pairA, aFk, vT, num, boo, str, aE_eq, aV]) (by simp only [ends, ite_true, ite_false, reduceIte, Nat.reduceEqDiff, Nat.reduceLeDiff, Nat.reduceLT, Nat.reduceAdd, reduceCtorEq, num, boo, str, ints, aV, aTab, aInst, aS, aT, aC, found, pairA, aFk, vT]) (by simp [idsOk, lookO, updO, ren1]) ?_
  simp -implicitDefEqProofs only [↓steps, push_cast, reduceIte, Nat.reduceEqDiff, Nat.reduceAdd, Nat.reduceMul, Nat.reduceLT, Nat.reduceLeDiff, Int.reduceToNat, Int.reduceLE, Int.reduceLT, reduceCtorEq, tte, num, boo, str, ints, aV, aTab, aInst, aS, aT, aC, found, pairA, aFk, vT]
  refine bcase_intro (fun h => ?_) fun h => ?_
  · have h' : byT s f.table < 0 := by simpa using h
    exact ret_d trivial (by rw [← hr, refM, if_pos h']; rfl) (by simp only [ends, ite_true, ite_false, reduceIte, Nat.reduceEqDiff, Nat.reduceLeDiff, Nat.reduceLT, Nat.reduceAdd, reduceCtorEq, num, boo, str, ints, aV, aTab, aInst, aS, aT, aC, found, pairA, aFk, vT])
  have h' : ¬ byT s f.table < 0 := by simpa using h
  have hlt := fidx_lt (fun t => t.name.toList == f.table.toList) s
  have hM : refM s t f = if eqKeys t (s.getD (byT s f.table).toNat default) f.columns (s.getD (byT s f.table).toNat default).primary then 0 else 6 := if_neg h'
  have hk : byT s f.table < s.length := hlt
  clear hlt h
  generalize byT s f.table = k at h' hM hk ⊢
  simp only [if_neg (show ¬ 0 > k by omega)]
  refine ⟨⟨by omega, hk⟩, ?_⟩
  have hu : s.getD k.toNat default ∈ s := getD_mem (by omega)
  have hc := c_eqF t (s.getD k.toNat default) f.columns (s.getD k.toNat default).primary hf (hp _ hu) hl
  unfold vT at hc
  refine callx_of [[1], [1], []] [(1000, 4), (1001, 9)] rfl (hc) (by first | (simp; done) | (simp [rowsOf_length]; done) | (simp [rowsOf_length]; omega)) (by first | (simp only [ends, ite_true, ite_false, reduceIte, Nat.reduceEqDiff, Nat.reduceLeDiff, Nat.reduceLT, Nat.reduceAdd, reduceCtorEq, num, boo, str, ints, aV, aTab, aInst, aS, aT, aC, found, pairA, aFk, vT, num, boo, str, aE_eq, aV]; done) | simp [ends, ite_true, ite_false, reduceIte, Nat.reduceEqDiff, Nat.reduceLeDiff, Nat.reduceLT, Nat.reduceAdd, reduceCtorEq, num, boo, str, ints, aV, aTab, aInst, aS, aT, aC, found, pairA, aFk, vT, num, boo, str, aE_eq, aV]) (by first | rfl | (simp only [ends, ite_true, ite_false, reduceIte, Nat.reduceEqDiff, Nat.reduceLeDiff, Nat.reduceLT, Nat.reduceAdd, reduceCtorEq, num, boo, str, ints, aV, aTab, aInst, aS, aT, aC, found, pairA, aFk, vT, num, boo, str, aE_eq, aV]; done) | simp [ends, ite_true, ite_false, reduceIte, Nat.reduceEqDiff, Nat.reduceLeDiff, Nat.reduceLT, Nat.reduceAdd, reduceCtorEq, num, boo, str, ints, aV, aTab, aInst, aS, aT, aC, found, pairA, aFk, vT, num, boo, str, aE_eq, aV]) (by simp only [ends, ite_true, ite_false, reduceIte, Nat.reduceEqDiff, Nat.reduceLeDiff, Nat.reduceLT, Nat.reduceAdd, reduceCtorEq, num, boo, str, ints, aV, aTab, aInst, aS, aT, aC, found, pairA, aFk, vT]) (by simp [idsOk, lookO, updO, ren1]) ?_
  simp -implicitDefEqProofs only [↓steps, push_cast, reduceIte, Nat.reduceEqDiff, Nat.reduceAdd, Nat.reduceMul, Nat.reduceLT, Nat.reduceLeDiff, Int.reduceToNat, Int.reduceLE, Int.reduceLT, reduceCtorEq, tte, num, boo, str, ints, aV, aTab, aInst, aS, aT, aC, found, pairA, aFk, vT]
  refine bcase_intro (fun g => ?_) fun g => ?_
  · have g' : eqKeys t (s.getD k.toNat default) f.columns (s.getD k.toNat default).primary = false := by simpa using g
    exact ret_d trivial (by rw [← hr, hM, g']; rfl) (by simp only [ends, ite_true, ite_false, reduceIte, Nat.reduceEqDiff, Nat.reduceLeDiff, Nat.reduceLT, Nat.reduceAdd, reduceCtorEq, num, boo, str, ints, aV, aTab, aInst, aS, aT, aC, found, pairA, aFk, vT])
  · have g' : eqKeys t (s.getD k.toNat default) f.columns (s.getD k.toNat default).primary = true := by simpa using g
    exact ret_d trivial (by rw [← hr, hM, g']; rfl) (by simp only [ends, ite_true, ite_false, reduceIte, Nat.reduceEqDiff, Nat.reduceLeDiff, Nat.reduceLT, Nat.reduceAdd, reduceCtorEq, num, boo, str, ints, aV, aTab, aInst, aS, aT, aC, found, pairA, aFk, vT])
end Go.Proofs.YtkccdfaelbepeaaDoor

namespace Go.Proofs.YtkccdfaelbepeaaDoor
open Go.Am
set_option linter.unusedVariables false
set_option maxRecDepth 100000
set_option maxHeartbeats 4000000

theorem c_order1n : ACall Tryd.prog 75 [.d (.lit (.map none))] [] (boo false) [] := by
  refine ACall.enter mixed ttok Tryd.func75 rfl rfl _ Tryd.ntmps75 (Nat.le_of_ble_eq_true rfl) (by kernel_rfl) _ (congrArg Array.toList Tryd.results75) ?_
  generalize hr : boo false = R
  simp -implicitDefEqProofs only [argT, ↓steps, push_cast, reduceIte, Nat.reduceEqDiff, Nat.reduceAdd, Nat.reduceMul, Nat.reduceLT, Nat.reduceLeDiff, Int.reduceToNat, Int.reduceLE, Int.reduceLT, reduceCtorEq, tte, num, boo, str, ints, aV, aTab, aInst, aS, aT, aC, found, pairA, aFk, vT]
  refine retx_of [0] rfl (by simp) (by first | (simp; done) | (simp [rowsOf_length]; done) | (simp [rowsOf_length]; omega)) ?_ (by first | rfl | simp only [ends, ite_true, ite_false, reduceIte, Nat.reduceEqDiff, Nat.reduceLeDiff, Nat.reduceLT, Nat.reduceAdd, reduceCtorEq, num, boo, str, ints, aV, aTab, aInst, aS, aT, aC, found, pairA, aFk, vT] | (subst_vars; simp only [ends, ite_true, ite_false, reduceIte, Nat.reduceEqDiff, Nat.reduceLeDiff, Nat.reduceLT, Nat.reduceAdd, reduceCtorEq, num, boo, str, ints, aV, aTab, aInst, aS, aT, aC, found, pairA, aFk, vT])) (by simp only [ends, ite_true, ite_false, reduceIte, Nat.reduceEqDiff, Nat.reduceLeDiff, Nat.reduceLT, Nat.reduceAdd, reduceCtorEq, num, boo, str, ints, aV, aTab, aInst, aS, aT, aC, found, pairA, aFk, vT]) (by simp only [ends, ite_true, ite_false, reduceIte, Nat.reduceEqDiff, Nat.reduceLeDiff, Nat.reduceLT, Nat.reduceAdd, reduceCtorEq, num, boo, str, ints, aV, aTab, aInst, aS, aT, aC, found, pairA, aFk, vT])
  exact hr
theorem c_order1 (ks : List Int) : ACall Tryd.prog 75 [.mp 1000] [(1000, .mp (encM ks))] (boo (ks.length == 0)) [(1000, .mp (encM ks))] := by
  refine ACall.enter mixed ttok Tryd.func75 rfl rfl _ Tryd.ntmps75 (Nat.le_of_ble_eq_true rfl) (by kernel_rfl) _ (congrArg Array.toList Tryd.results75) ?_
  generalize hr : boo (ks.length == 0) = R
  simp -implicitDefEqProofs only [argT, encM_length, ↓steps, push_cast, reduceIte, Nat.reduceEqDiff, Nat.reduceAdd, Nat.reduceMul, Nat.reduceLT, Nat.reduceLeDiff, Int.reduceToNat, Int.reduceLE, Int.reduceLT, reduceCtorEq, tte, num, boo, str, ints, aV, aTab, aInst, aS, aT, aC, found, pairA, aFk, vT]
  subst hr
  refine retx_of [0] rfl (by simp) (by first | (simp; done) | (simp [rowsOf_length]; done) | (simp [rowsOf_length]; omega)) ?_ (by first | rfl | simp only [ends, ite_true, ite_false, reduceIte, Nat.reduceEqDiff, Nat.reduceLeDiff, Nat.reduceLT, Nat.reduceAdd, reduceCtorEq, num, boo, str, ints, aV, aTab, aInst, aS, aT, aC, found, pairA, aFk, vT] | (subst_vars; simp only [ends, ite_true, ite_false, reduceIte, Nat.reduceEqDiff, Nat.reduceLeDiff, Nat.reduceLT, Nat.reduceAdd, reduceCtorEq, num, boo, str, ints, aV, aTab, aInst, aS, aT, aC, found, pairA, aFk, vT])) (by simp only [ends, ite_true, ite_false, reduceIte, Nat.reduceEqDiff, Nat.reduceLeDiff, Nat.reduceLT, Nat.reduceAdd, reduceCtorEq, num, boo, str, ints, aV, aTab, aInst, aS, aT, aC, found, pairA, aFk, vT]) (by simp only [ends, ite_true, ite_false, reduceIte, Nat.reduceEqDiff, Nat.reduceLeDiff, Nat.reduceLT, Nat.reduceAdd, reduceCtorEq, num, boo, str, ints, aV, aTab, aInst, aS, aT, aC, found, pairA, aFk, vT])
  have : ((ks.length : Int) == 0) = (ks.length == 0) := by rw [Bool.eq_iff_iff]; simp
  rw [this]; rfl
def freeM : Option (List Int) → Bool
  | none => false
  | some ks => ks.length == 0
/-- The objects: the cells, and the maps. -/
def mobs (a b : Nat) (ms : List (Option (List Int))) : List (Nat × Ob) := (a, .var (mapsA b ms)) :: mapsL b ms
theorem mobs_at {a b : Nat} {ms : List (Option (List Int))} {n : Nat} {ks : List Int} (hab : a < b) (h : ms[n]? = some (some ks)) : lookO (mobs a b ms) (b + n) = some (.mp (encM ks)) := by
  rw [mobs, lookO_cons_ne (by omega)]; exact lookO_maps_at b h
theorem mobs_in {a b : Nat} {ms : List (Option (List Int))} {n : Nat} {ks : List Int} (h : ms[n]? = some (some ks)) : inO (mobs a b ms) (b + n) = true := inO_cons_r (inO_maps b h)
theorem mobs_keep {a b : Nat} {ms : List (Option (List Int))} (hab : a < b) : keepO (lookO (mobs a b ms)) (inO (mobs a b ms)) (mobs a b ms) :=
  ⟨⟨by simp [mobs, lookO], closed_maps fun n ks h => mobs_in h⟩, keepO_maps fun n ks h => mobs_at hab h⟩
theorem mobs_all {a b : Nat} {ms : List (Option (List Int))} : keepIn (inO (mobs a b ms)) (mobs a b ms) :=
  ⟨.inr inO_cons_l, keepIn_maps fun n ks h => .inr (mobs_in h)⟩
theorem c_idxM (ms : List (Option (List Int))) (hl : ms.length ≤ 6) :
    ACall Tryd.prog 74 [.vs 1000 ms.length, .clo 75 []] (mobs 1000 1001 ms) (num (fidx freeM ms)) (mobs 1000 1001 ms) := by
  refine ACall.enter mixed ttok Tryd.func74 rfl rfl _ Tryd.ntmps74 (Nat.le_of_ble_eq_true rfl) (by kernel_rfl) _ (congrArg Array.toList Tryd.results74) ?_
  generalize hr : num (fidx freeM ms) = R
  unfold mobs
  simp -implicitDefEqProofs only [argT, ↓steps, push_cast, reduceIte, Nat.reduceEqDiff, Nat.reduceAdd, Nat.reduceMul, Nat.reduceLT, Nat.reduceLeDiff, Int.reduceToNat, Int.reduceLE, Int.reduceLT, reduceCtorEq, tte, num, boo, str, ints, aV, aTab, aInst, aS, aT, aC, found, pairA, aFk, vT]
  have hend : ∀ (t : List (Nat × A)) (v : Int), num v = R → retx (some (True, A.d (D.lit (Value.int IntKind.i64 v)))) ⟨t, (1000, .var (mapsA 1001 ms)) :: mapsL 1001 ms⟩ R ((1000, .var (mapsA 1001 ms)) :: mapsL 1001 ms) := fun t v hv => by
    refine retx_of [0] rfl trivial trivial hv (by rw [← hv]; rfl) ?_ ?_
    · exact mobs_keep (by omega)
    · exact mobs_all
  refine loop_countO mixed ttok 8 [0, 1, 7] (by simp only [pickT, ends, ite_true, ite_false, reduceIte, Nat.reduceEqDiff, Nat.reduceLeDiff, Nat.reduceLT, Nat.reduceAdd, reduceCtorEq, num, boo, str, ints, aV, aTab, aInst, aS, aT, aC, found, pairA, aFk, vT]; rfl) (mobs 1000 1001 ms) ms.length (fun n => ∀ i, i < n → freeM (ms.getD i default) = false) (fun _ => []) (fun _ => []) (fun i h => absurd h (Nat.not_lt_zero _)) ?_ ?_
  · refine Weak.keepL (by simp [cst, mobs, ends, ite_true, ite_false, reduceIte, Nat.reduceEqDiff, Nat.reduceLeDiff, Nat.reduceLT, Nat.reduceAdd, reduceCtorEq, num, boo, str, ints, aV, aTab, aInst, aS, aT, aC, found, pairA, aFk, vT]) (mobs_keep (by omega)) mobs_all
  intro I hI n hn hi
  unfold mobs at hI ⊢
  simp -implicitDefEqProofs only [cst, ↓steps, push_cast, reduceIte, Nat.reduceEqDiff, Nat.reduceAdd, Nat.reduceMul, Nat.reduceLT, Nat.reduceLeDiff, Int.reduceToNat, Int.reduceLE, Int.reduceLT, reduceCtorEq, tte, num, boo, str, ints, aV, aTab, aInst, aS, aT, aC, found, pairA, aFk, vT]
  refine bcase_intro (fun h => ?_) fun h => ?_
  · simp only [decide_eq_true_eq] at h
    have h' : n < ms.length := by omega
    have hw := wrap_succ h' (by omega)
    refine ⟨by omega, ?_⟩
    have hm : ms[n]? = some (ms.getD n default) := by rw [List.getD_eq_getElem?_getD, List.getElem?_eq_getElem h']; rfl
    rw [mapsA_get, hm]
    generalize ms.getD n default = m at hm
    have hfi : ms.getD n default = m := by rw [List.getD_eq_getElem?_getD, hm]; rfl
    have hinv : freeM m = false → ∀ i, i < n + 1 → freeM (ms.getD i default) = false := fun hf i h2 => if h3 : i = n then by rw [h3, hfi, hf] else hi i (by omega)
    cases m with
    | none =>
      simp -implicitDefEqProofs only [cellM, Option.map_some, ↓steps, push_cast, reduceIte, Nat.reduceEqDiff, Nat.reduceAdd, Nat.reduceMul, Nat.reduceLT, Nat.reduceLeDiff, Int.reduceToNat, Int.reduceLE, Int.reduceLT, reduceCtorEq, tte, num, boo, str, ints, aV, aTab, aInst, aS, aT, aC, found, pairA, aFk, vT]
      refine callx_of [[0]] [] rfl (c_order1n) (by first | (simp; done) | (simp [rowsOf_length]; done) | (simp [rowsOf_length]; omega)) (by first | (simp only [ends, ite_true, ite_false, reduceIte, Nat.reduceEqDiff, Nat.reduceLeDiff, Nat.reduceLT, Nat.reduceAdd, reduceCtorEq, num, boo, str, ints, aV, aTab, aInst, aS, aT, aC, found, pairA, aFk, vT, num, boo, str, aE_eq, aV]; done) | simp [ends, ite_true, ite_false, reduceIte, Nat.reduceEqDiff, Nat.reduceLeDiff, Nat.reduceLT, Nat.reduceAdd, reduceCtorEq, num, boo, str, ints, aV, aTab, aInst, aS, aT, aC, found, pairA, aFk, vT, num, boo, str, aE_eq, aV]) (by first | rfl | (simp only [ends, ite_true, ite_false, reduceIte, Nat.reduceEqDiff, Nat.reduceLeDiff, Nat.reduceLT, Nat.reduceAdd, reduceCtorEq, num, boo, str, ints, aV, aTab, aInst, aS, aT, aC, found, pairA, aFk, vT, num, boo, str, aE_eq, aV]; done) | simp [ends, ite_true, ite_false, reduceIte, Nat.reduceEqDiff, Nat.reduceLeDiff, Nat.reduceLT, Nat.reduceAdd, reduceCtorEq, num, boo, str, ints, aV, aTab, aInst, aS, aT, aC, found, pairA, aFk, vT, num, boo, str, aE_eq, aV]) (by simp only [ends, ite_true, ite_false, reduceIte, Nat.reduceEqDiff, Nat.reduceLeDiff, Nat.reduceLT, Nat.reduceAdd, reduceCtorEq, num, boo, str, ints, aV, aTab, aInst, aS, aT, aC, found, pairA, aFk, vT]) (by simp [idsOk, lookO, updO, ren1]) ?_
      simp -implicitDefEqProofs only [↓steps, push_cast, reduceIte, Nat.reduceEqDiff, Nat.reduceAdd, Nat.reduceMul, Nat.reduceLT, Nat.reduceLeDiff, Int.reduceToNat, Int.reduceLE, Int.reduceLT, reduceCtorEq, tte, num, boo, str, ints, aV, aTab, aInst, aS, aT, aC, found, pairA, aFk, vT]
      refine cnt_againW hI n rfl h' (hinv rfl) (Weak.keepL (by simp [cst, hw, ends, ite_true, ite_false, reduceIte, Nat.reduceEqDiff, Nat.reduceLeDiff, Nat.reduceLT, Nat.reduceAdd, reduceCtorEq, num, boo, str, ints, aV, aTab, aInst, aS, aT, aC, found, pairA, aFk, vT]) (mobs_keep (by omega)) mobs_all)
    | some ks =>
      simp -implicitDefEqProofs only [cellM, Option.map_some, ↓steps, push_cast, reduceIte, Nat.reduceEqDiff, Nat.reduceAdd, Nat.reduceMul, Nat.reduceLT, Nat.reduceLeDiff, Int.reduceToNat, Int.reduceLE, Int.reduceLT, reduceCtorEq, tte, num, boo, str, ints, aV, aTab, aInst, aS, aT, aC, found, pairA, aFk, vT]
      refine callx_same [[]] (fun _ => 1001 + n) rfl (c_order1 ks) rfl (by simp) rfl rfl ⟨⟨?_, rfl⟩, trivial⟩ (by simp) (by simp) (by simp) ?_
      · exact mobs_at (by omega) hm
      simp -implicitDefEqProofs only [↓steps, push_cast, reduceIte, Nat.reduceEqDiff, Nat.reduceAdd, Nat.reduceMul, Nat.reduceLT, Nat.reduceLeDiff, Int.reduceToNat, Int.reduceLE, Int.reduceLT, reduceCtorEq, tte, num, boo, str, ints, aV, aTab, aInst, aS, aT, aC, found, pairA, aFk, vT]
      refine bcase_intro (fun g => ?_) fun g => ?_
      · exact hend _ _ (by rw [← hr, fidx_at freeM ms n h' hi (by rw [hfi]; exact g)])
      · refine cnt_againW hI n rfl h' (hinv g) (Weak.keepL (by simp [cst, hw, ends, ite_true, ite_false, reduceIte, Nat.reduceEqDiff, Nat.reduceLeDiff, Nat.reduceLT, Nat.reduceAdd, reduceCtorEq, num, boo, str, ints, aV, aTab, aInst, aS, aT, aC, found, pairA, aFk, vT]) (mobs_keep (by omega)) mobs_all)
  · simp only [decide_eq_false_iff_not] at h
    obtain rfl : n = ms.length := by omega
    exact hend _ _ (by rw [← hr, fidx_none freeM ms hi])
end Go.Proofs.YtkccdfaelbepeaaDoor
