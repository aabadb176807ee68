/- Conditions over finite domains (part Wd) -/
import Derived.Test.YtiagabnddihchaaGreatDoorWb
import Derived.Test.YtiagabnddihchaaGreatDoorWc
import Derived.Test.YtiagabnddihchaaGreatDoorLd
set_option linter.all false
namespace Go.Proofs.YtiagabnddihchaaGreatDoor
open Go.Am
attribute [local simp, local push_cast] num boo str ints aV aTab aInst aS aT aC
set_option linter.unusedVariables false
set_option maxRecDepth 100000
set_option maxHeartbeats 4000000
def validV (v : Val) : Val := if validM v = true then v else nullV
def arithM (op : Int) (a b : Val) : Val :=
  if validM a = false ∨ validM b = false ∨ a.kind ≠ b.kind then nullV
  else if a.kind = 1 then (if (numM op a.num b.num).2 = true then validV ⟨1, (numM op a.num b.num).1, ByteArray.empty⟩ else nullV)
  else if a.kind = 3 ∧ op = 12 then validV ⟨3, 0, a.text ++ b.text⟩ else nullV
theorem empty_list : ByteArray.empty.toList = [] := by rw [ByteArray.toList_eq]; rfl
theorem valid_num {v : Val} (h : validM v = true) (hk : v.kind = 1) : okN v.num := by
  unfold validM at h
  rw [if_neg (by omega), if_pos hk] at h
  simp only [Bool.and_eq_true, decide_eq_true_eq] at h
  exact ⟨h.1.1, h.1.2⟩
theorem valid_text {v : Val} (h : validM v = true) (hk : v.kind = 3) : v.text.size ≤ 24 := by
  unfold validM at h
  rw [if_neg (by omega), if_neg (by omega), if_neg (by omega), if_pos hk] at h
  simp only [textM, Bool.and_eq_true, decide_eq_true_eq] at h
  exact h.2.1
theorem valid_int {n : Int} (h : okN n) : validM ⟨1, n, ByteArray.empty⟩ = true := by
  unfold okN at h
  simp [validM, empty_list, h.1, h.2]
theorem valid_null : validM nullV = true := by simp [validM, nullV, empty_list]
theorem validV_int {n : Int} (h : okN n) : validV ⟨1, n, ByteArray.empty⟩ = ⟨1, n, ByteArray.empty⟩ := by rw [validV, if_pos (valid_int h)]
theorem c_arith (op : Int) (a b : Val) : ACall Tryz.prog 116 [num op, aV a, aV b] [] (aV (arithM op a b)) [] := by
  refine enterq mixed ttok Tryz.func116 Tryz.ntmps116 Tryz.results116 ?_
  generalize hr : aV (arithM op a b) = R
  simp -implicitDefEqProofs only [argT, tabN, ↓steps, push_cast, simprocAttr, tte]
  refine callq [[0, 0, 0]] [] (c_valid a) ?_
  simp -implicitDefEqProofs only [tabN, ↓steps, push_cast, simprocAttr, tte]
  unfold arithM at hr
  refine bcase_intro (fun h1 => ?_) fun h1 => ?_
  · rw [if_pos (.inl (by simpa using h1))] at hr
    exact ret_v (by first | trivial | (simp; done) | (simp; omega)) (by rw [← hr] <;> first | rfl | (simp [nullV]; done) | (simp_all [nullV]; done)) (by simp [ends])
  refine callq [[0, 0, 0]] [] (c_valid b) ?_
  simp -implicitDefEqProofs only [tabN, ↓steps, push_cast, simprocAttr, tte]
  simp only [Bool.not_eq_false'] at h1
  refine bcase_intro (fun h2 => ?_) fun h2 => ?_
  · rw [if_pos (.inr (.inl (by simpa using h2)))] at hr
    exact ret_v (by first | trivial | (simp; done) | (simp; omega)) (by rw [← hr] <;> first | rfl | (simp [nullV]; done) | (simp_all [nullV]; done)) (by simp [ends])
  simp only [Bool.not_eq_false'] at h2
  refine bcase_intro (fun h3 => ?_) fun h3 => ?_
  · rw [if_pos (.inr (.inr (by simpa using h3)))] at hr
    exact ret_v (by first | trivial | (simp; done) | (simp; omega)) (by rw [← hr] <;> first | rfl | (simp [nullV]; done) | (simp_all [nullV]; done)) (by simp [ends])
  have hk : a.kind = b.kind := by simpa using h3
  rw [if_neg (by simp [h1, h2, hk])] at hr
  refine bcase_intro (fun h4 => ?_) fun h4 => ?_
  · have hk1 : a.kind = 1 := by simpa using h4
    rw [if_pos hk1] at hr
    refine callq [[0], [0], [0]] [] (c_numbers op a.num b.num (valid_num h1 hk1) (valid_num h2 (by omega))) ?_
    simp -implicitDefEqProofs only [tabN, ↓steps, push_cast, simprocAttr, tte]
    refine bcase_intro (fun h5 => ?_) fun h5 => ?_
    · rw [if_neg (by simpa using h5)] at hr
      exact ret_v (by first | trivial | (simp; done) | (simp; omega)) (by rw [← hr] <;> first | rfl | (simp [nullV]; done) | (simp_all [nullV]; done)) (by simp [ends])
    rw [if_pos (by simpa using h5)] at hr
    refine callq [[0, 0, 0]] [] (c_valid ⟨1, (numM op a.num b.num).1, ByteArray.empty⟩) ?_
    simp -implicitDefEqProofs only [tabN, ↓steps, push_cast, simprocAttr, tte]
    unfold validV at hr
    refine bcase_intro (fun h6 => ?_) fun h6 => ?_
    · rw [if_neg (by simpa using h6)] at hr
      exact ret_v (by first | trivial | (simp; done) | (simp; omega)) (by rw [← hr] <;> first | rfl | (simp [nullV]; done) | (simp_all [nullV]; done)) (by simp [ends])
    · rw [if_pos (by simpa using h6)] at hr
      exact ret_v (by first | trivial | (simp; done) | (simp; omega)) (by rw [← hr] <;> first | rfl | (simp [nullV]; done) | (simp_all [nullV]; done)) (by simp [ends])
  have hk1 : ¬ a.kind = 1 := by simpa using h4
  rw [if_neg hk1] at hr
  have hnul : ACall Tryz.prog 105 [aV ⟨0, 0, ByteArray.empty⟩] [] (boo true) [] := valid_null ▸ c_valid nullV
  by_cases h5 : a.kind = 3 ∧ op = 12
  · rw [if_pos h5] at hr
    obtain ⟨h5a, h5b⟩ := h5
    have t1 := valid_text h1 h5a
    have t2 := valid_text h2 (by omega)
    refine bcase_intro (fun h6 => ?_) fun h6 => ?_
    · refine bcase_intro (fun h7 => ?_) fun h7 => ?_
      · refine ⟨by omega, ?_⟩
        refine callq [[0, 0, 0]] [] (c_valid ⟨3, 0, a.text ++ b.text⟩) ?_
        simp -implicitDefEqProofs only [tabN, ↓steps, push_cast, simprocAttr, tte]
        unfold validV at hr
        refine bcase_intro (fun h8 => ?_) fun h8 => ?_
        · rw [if_neg (by simpa using h8)] at hr
          exact ret_v (by first | trivial | (simp; done) | (simp; omega)) (by rw [← hr] <;> first | rfl | (simp [nullV]; done) | (simp_all [nullV]; done)) (by simp [ends])
        · rw [if_pos (by simpa using h8)] at hr
          exact ret_v (by first | trivial | (simp; done) | (simp; omega)) (by rw [← hr] <;> first | rfl | (simp [nullV]; done) | (simp_all [nullV]; done)) (by simp [ends])
      · simp at h7; omega
    · simp at h6; omega
  rw [if_neg h5] at hr
  refine bcase_intro (fun h6 => ?_) fun h6 => ?_
  · refine bcase_intro (fun h7 => ?_) fun h7 => ?_
    · simp at h6 h7; omega
    · refine callq [[0, 0, 0]] [] (hnul) ?_
      simp -implicitDefEqProofs only [nullV, tabN, ↓steps, push_cast, simprocAttr, tte]
      exact ret_v (by first | trivial | (simp; done) | (simp; omega)) (by rw [← hr] <;> first | rfl | (simp [nullV]; done) | (simp_all [nullV]; done)) (by simp [ends])
  · refine callq [[0, 0, 0]] [] (hnul) ?_
    simp -implicitDefEqProofs only [nullV, tabN, ↓steps, push_cast, simprocAttr, tte]
    exact ret_v (by first | trivial | (simp; done) | (simp; omega)) (by rw [← hr] <;> first | rfl | (simp [nullV]; done) | (simp_all [nullV]; done)) (by simp [ends])
theorem c_rvalidV (v : Val) : ACall Tryz.prog 101 [aV v] [] (aV (validV v)) [] := by
  refine enterq mixed ttok Tryz.func101 Tryz.ntmps101 Tryz.results101 ?_
  generalize hr : aV (validV v) = R
  simp -implicitDefEqProofs only [argT, tabN, ↓steps, push_cast, simprocAttr, tte]
  refine callq [[0, 0, 0]] [] (c_rvalid v) ?_
  simp -implicitDefEqProofs only [tabN, ↓steps, push_cast, simprocAttr, tte]
  unfold validV at hr
  refine bcase_intro (fun h8 => ?_) fun h8 => ?_
  · rw [if_neg (by simpa using h8)] at hr
    exact ret_v (by first | trivial | (simp; done) | (simp; omega)) (by rw [← hr] <;> first | rfl | (simp [nullV]; done) | (simp_all [nullV]; done)) (by simp [ends])
  · rw [if_pos (by simpa using h8)] at hr
    exact ret_v (by first | trivial | (simp; done) | (simp; omega)) (by rw [← hr] <;> first | rfl | (simp [nullV]; done) | (simp_all [nullV]; done)) (by simp [ends])
theorem c_product (a b : Int) (ha : okN a) (hb : okN b) : ACall Tryz.prog 102 [num a, num b] [] (.tup [num (numM 8 a b).1, boo (numM 8 a b).2]) [] := by
  refine enterq mixed ttok Tryz.func102 Tryz.ntmps102 Tryz.results102 ?_
  have hM : numM 8 a b = (if a ≠ 0 ∧ b ≠ 0 ∧ absI a > (1000000000000 : Int).tdiv (absI b) then (0, false) else (a * b, true)) := rfl
  rw [hM]
  generalize hr : A.tup [num (if a ≠ 0 ∧ b ≠ 0 ∧ absI a > (1000000000000 : Int).tdiv (absI b) then ((0 : Int), false) else (a * b, true)).1, boo (if a ≠ 0 ∧ b ≠ 0 ∧ absI a > (1000000000000 : Int).tdiv (absI b) then ((0 : Int), false) else (a * b, true)).2] = R
  have ha' := ha
  have hb' := hb
  unfold okN at ha' hb'
  have w3 := wrapN (a := -a) (by omega)
  have w4 := wrapN (a := -b) (by omega)
  have e3 : (0 : Int) - a = -a := by omega
  have e4 : (0 : Int) - b = -b := by omega
  simp -implicitDefEqProofs only [argT, e3, e4, w3, w4, ↓steps, push_cast, simprocAttr, tte]
  have hcase : ∀ (h : (a ≠ 0 ∧ b ≠ 0)), (absI b ≠ 0 ∧ bcase (decide (absI a > IntKind.i64.wrap ((1000000000000 : Int).tdiv (absI b)))) (retx (some (True, A.tup [A.d (D.lit (Value.int IntKind.i64 0)), A.d (D.lit (Value.bool false))])) { t := [], o := [] } R [])
      (retx (some (True, A.tup [A.d (D.lit (Value.int IntKind.i64 (IntKind.i64.wrap (a * b)))), A.d (D.lit (Value.bool true))])) { t := [], o := [] } R [])) := fun hz => by
    have hp := absI_pos hz.2
    have hd := tdiv_le (a := 1000000000000) (by decide) hp
    have w5 := wrapN (a := (1000000000000 : Int).tdiv (absI b)) (by omega)
    refine ⟨by omega, ?_⟩
    rw [w5]
    refine bcase_intro (fun h3 => ?_) fun h3 => ?_
    · simp only [decide_eq_true_eq] at h3
      exact ret_d2 trivial (by rw [← hr, if_pos ⟨hz.1, hz.2, h3⟩]; rfl) (by simp [ends])
    · simp only [decide_eq_false_iff_not] at h3
      have hn : ¬ (a ≠ 0 ∧ b ≠ 0 ∧ absI a > (1000000000000 : Int).tdiv (absI b)) := fun h => h3 h.2.2
      have hm := mul_ok ha hb hn
      unfold okN at hm
      have w6 := wrapN (a := a * b) (by omega)
      rw [w6]
      exact ret_d2 trivial (by rw [← hr, if_neg hn]; rfl) (by simp [ends])
  refine bcase_intro (fun h1 => ?_) fun h1 => ?_
  · simp only [beq_iff_eq] at h1
    subst h1
    exact ret_d2 trivial (by rw [← hr, if_neg (fun h => h.1 rfl), Int.zero_mul]; rfl) (by simp [ends])
  refine bcase_intro (fun h2 => ?_) fun h2 => ?_
  · simp only [beq_iff_eq] at h2
    subst h2
    exact ret_d2 trivial (by rw [← hr, if_neg (fun h => h.2.1 rfl), Int.mul_zero]; rfl) (by simp [ends])
  have hc := hcase ⟨by simpa using h1, by simpa using h2⟩
  refine bcase_intro (fun h3 => ?_) fun h3 => ?_
  · rw [show absI a = -a from if_pos (by simpa using h3)] at hc
    refine bcase_intro (fun h4 => ?_) fun h4 => ?_
    · rw [show absI b = -b from if_pos (by simpa using h4)] at hc
      exact hc
    · rw [show absI b = b from if_neg (by simpa using h4)] at hc
      exact hc
  · rw [show absI a = a from if_neg (by simpa using h3)] at hc
    refine bcase_intro (fun h4 => ?_) fun h4 => ?_
    · rw [show absI b = -b from if_pos (by simpa using h4)] at hc
      exact hc
    · rw [show absI b = b from if_neg (by simpa using h4)] at hc
      exact hc
/-- The reference's way. -/
def arithR (op : Int) (a b : Val) : Val :=
  if validM a = false ∨ validM b = false then nullV
  else if op = 12 then (if a.kind ≠ 3 ∨ b.kind ≠ 3 then nullV else validV ⟨3, 0, a.text ++ b.text⟩)
  else if a.kind ≠ 1 ∨ b.kind ≠ 1 then nullV
  else if op = 6 then validV ⟨1, a.num + b.num, ByteArray.empty⟩ else if op = 7 then validV ⟨1, a.num - b.num, ByteArray.empty⟩
  else if (numM op a.num b.num).2 = true then ⟨1, (numM op a.num b.num).1, ByteArray.empty⟩ else nullV
theorem arithR_eq (op : Int) (a b : Val) : arithR op a b = arithM op a b := by
  unfold arithR arithM
  by_cases h1 : validM a = false
  · simp [h1]
  by_cases h2 : validM b = false
  · simp [h2]
  simp only [Bool.not_eq_false] at h1 h2
  simp only [h1, h2, Bool.true_eq_false, false_or, if_false]
  by_cases h12 : op = 12
  · subst h12
    rw [if_pos rfl]
    by_cases hk : a.kind = b.kind
    · by_cases ha : a.kind = 1
      · have hb1 : b.kind = 1 := by omega
        simp [ha, hb1, numM]
      · by_cases ha3 : a.kind = 3
        · have hb3 : b.kind = 3 := by omega
          simp [ha3, hb3]
        · rw [hk] at ha ha3
          simp [hk, ha, ha3]
    · rw [if_pos (c := a.kind ≠ b.kind) hk, if_pos (by omega)]
  rw [if_neg h12]
  by_cases hk : a.kind = b.kind
  · rw [if_neg (c := a.kind ≠ b.kind) (fun h => h hk)]
    by_cases ha : a.kind = 1
    · rw [if_neg (by omega), if_pos ha]
      have ka := valid_num h1 ha
      have kb := valid_num h2 (by omega)
      by_cases h6 : op = 6
      · subst h6; rfl
      by_cases h7 : op = 7
      · subst h7; rfl
      rw [if_neg h6, if_neg h7]
      split
      · rename_i hq
        rw [validV_int]
        unfold numM at hq ⊢
        rw [if_neg h6, if_neg h7] at hq ⊢
        split
        · rename_i h8
          rw [if_pos h8] at hq
          split
          · rename_i hz; rw [if_pos hz] at hq; cases hq
          · rename_i hz; exact mul_ok ka kb hz
        · rename_i h8
          rw [if_neg h8] at hq
          split
          · rename_i h9
            rw [if_pos h9] at hq
            split
            · rename_i hz; exact tdiv_ok ka hz
            · rename_i hz; rw [if_neg hz] at hq; cases hq
          · rename_i h9
            rw [if_neg h9] at hq
            split
            · rename_i h10
              rw [if_pos h10] at hq
              split
              · rename_i hz; exact tmod_ok ka hz
              · rename_i hz; rw [if_neg hz] at hq; cases hq
            · rename_i h10; rw [if_neg h10] at hq; cases hq
      · rfl
    · rw [if_pos (by omega), if_neg ha, if_neg (by omega)]
  · rw [if_pos (c := a.kind ≠ b.kind) hk, if_pos (by omega)]
theorem c_rarith (op : Int) (a b : Val) : ACall Tryz.prog 64 [num op, aV a, aV b] [] (aV (arithM op a b)) [] := by
  rw [← arithR_eq]
  refine enterq mixed ttok Tryz.func64 Tryz.ntmps64 Tryz.results64 ?_
  generalize hr : aV (arithR op a b) = R
  simp -implicitDefEqProofs only [argT, tabN, ↓steps, push_cast, simprocAttr, tte]
  refine callq [[0, 0, 0]] [] (c_rvalid a) ?_
  simp -implicitDefEqProofs only [tabN, ↓steps, push_cast, simprocAttr, tte]
  unfold arithR at hr
  refine bcase_intro (fun h1 => ?_) fun h1 => ?_
  · rw [if_pos (.inl (by simpa using h1))] at hr
    exact ret_v (by first | trivial | (simp; done) | (simp; omega)) (by rw [← hr] <;> first | rfl | (simp [nullV]; done) | (simp_all [nullV]; done)) (by simp [ends])
  refine callq [[0, 0, 0]] [] (c_rvalid b) ?_
  simp -implicitDefEqProofs only [tabN, ↓steps, push_cast, simprocAttr, tte]
  simp only [Bool.not_eq_false'] at h1
  refine bcase_intro (fun h2 => ?_) fun h2 => ?_
  · rw [if_pos (.inr (by simpa using h2))] at hr
    exact ret_v (by first | trivial | (simp; done) | (simp; omega)) (by rw [← hr] <;> first | rfl | (simp [nullV]; done) | (simp_all [nullV]; done)) (by simp [ends])
  simp only [Bool.not_eq_false'] at h2
  rw [if_neg (by simp [h1, h2])] at hr
  refine bcase_intro (fun h12 => ?_) fun h12 => ?_
  · rw [if_pos (by simpa using h12)] at hr
    refine bcase_intro (fun h3 => ?_) fun h3 => ?_
    · rw [if_pos (.inl (by simpa using h3))] at hr
      exact ret_v (by first | trivial | (simp; done) | (simp; omega)) (by rw [← hr] <;> first | rfl | (simp [nullV]; done) | (simp_all [nullV]; done)) (by simp [ends])
    refine bcase_intro (fun h4 => ?_) fun h4 => ?_
    · rw [if_pos (.inr (by simpa using h4))] at hr
      exact ret_v (by first | trivial | (simp; done) | (simp; omega)) (by rw [← hr] <;> first | rfl | (simp [nullV]; done) | (simp_all [nullV]; done)) (by simp [ends])
    simp only [bne_eq_false_iff_eq] at h3 h4
    rw [if_neg (by omega)] at hr
    have t1 := valid_text h1 h3
    have t2 := valid_text h2 h4
    refine ⟨by omega, ?_⟩
    refine callq [[0, 0, 0]] [] (c_rvalidV ⟨3, 0, a.text ++ b.text⟩) ?_
    simp -implicitDefEqProofs only [aV, ↓steps, push_cast, simprocAttr, tte]
    exact ret_v (by first | trivial | (simp; done) | (simp; omega)) (by rw [← hr] <;> first | rfl | (simp [nullV]; done) | (simp_all [nullV]; done)) (by simp [ends])
  rw [if_neg (by simpa using h12)] at hr
  refine bcase_intro (fun h3 => ?_) fun h3 => ?_
  · rw [if_pos (.inl (by simpa using h3))] at hr
    exact ret_v (by first | trivial | (simp; done) | (simp; omega)) (by rw [← hr] <;> first | rfl | (simp [nullV]; done) | (simp_all [nullV]; done)) (by simp [ends])
  refine bcase_intro (fun h4 => ?_) fun h4 => ?_
  · rw [if_pos (.inr (by simpa using h4))] at hr
    exact ret_v (by first | trivial | (simp; done) | (simp; omega)) (by rw [← hr] <;> first | rfl | (simp [nullV]; done) | (simp_all [nullV]; done)) (by simp [ends])
  simp only [bne_eq_false_iff_eq] at h3 h4
  rw [if_neg (by omega)] at hr
  have ka := valid_num h1 h3
  have kb := valid_num h2 h4
  have ka' := ka
  have kb' := kb
  unfold okN at ka' kb'
  have w1 := wrapN (a := a.num + b.num) (by omega)
  have w2 := wrapN (a := a.num - b.num) (by omega)
  refine bcase_intro (fun h6 => ?_) fun h6 => ?_
  · rw [if_pos (by simpa using h6)] at hr
    simp only [w1]
    refine callq [[0, 0, 0]] [] (c_rvalidV ⟨1, a.num + b.num, ByteArray.empty⟩) ?_
    simp -implicitDefEqProofs only [aV, ↓steps, push_cast, simprocAttr, tte]
    exact ret_v (by first | trivial | (simp; done) | (simp; omega)) (by rw [← hr] <;> first | rfl | (simp [nullV]; done) | (simp_all [nullV]; done)) (by simp [ends])
  rw [if_neg (by simpa using h6)] at hr
  refine bcase_intro (fun h7 => ?_) fun h7 => ?_
  · rw [if_pos (by simpa using h7)] at hr
    simp only [w2]
    refine callq [[0, 0, 0]] [] (c_rvalidV ⟨1, a.num - b.num, ByteArray.empty⟩) ?_
    simp -implicitDefEqProofs only [aV, ↓steps, push_cast, simprocAttr, tte]
    exact ret_v (by first | trivial | (simp; done) | (simp; omega)) (by rw [← hr] <;> first | rfl | (simp [nullV]; done) | (simp_all [nullV]; done)) (by simp [ends])
  rw [if_neg (by simpa using h7)] at hr
  refine bcase_intro (fun h8 => ?_) fun h8 => ?_
  · have h8' : op = 8 := by simpa using h8
    subst h8'
    refine callq [[0], [0]] [] (c_product a.num b.num ka kb) ?_
    simp -implicitDefEqProofs only [↓steps, push_cast, simprocAttr, tte]
    refine bcase_intro (fun h9 => ?_) fun h9 => ?_
    · rw [if_neg (by simpa using h9)] at hr
      exact ret_v (by first | trivial | (simp; done) | (simp; omega)) (by rw [← hr] <;> first | rfl | (simp [nullV]; done) | (simp_all [nullV]; done)) (by simp [ends])
    · rw [if_pos (by simpa using h9)] at hr
      exact ret_v (by first | trivial | (simp; done) | (simp; omega)) (by rw [← hr] <;> first | rfl | (simp [nullV]; done) | (simp_all [nullV]; done)) (by simp [ends])
  unfold numM at hr
  rw [if_neg (c := op = 6) (by simpa using h6), if_neg (c := op = 7) (by simpa using h7), if_neg (c := op = 8) (by simpa using h8)] at hr
  refine bcase_intro (fun h9 => ?_) fun h9 => ?_
  · rw [if_pos (c := op = 9) (by simpa using h9)] at hr
    refine bcase_intro (fun h10 => ?_) fun h10 => ?_
    · have hb0 : b.num ≠ 0 := by simpa using h10
      have hm := tdiv_ok ka hb0
      unfold okN at hm
      have w3 := wrapN (a := a.num.tdiv b.num) (by omega)
      refine ⟨hb0, ?_⟩
      rw [if_pos hb0, if_pos rfl] at hr
      simp only [w3]
      exact ret_v (by first | trivial | (simp; done) | (simp; omega)) (by rw [← hr] <;> first | rfl | (simp [nullV]; done) | (simp_all [nullV]; done)) (by simp [ends])
    · have hb0 : ¬ b.num ≠ 0 := by simpa using h10
      rw [if_neg hb0, if_neg (by decide)] at hr
      exact ret_v (by first | trivial | (simp; done) | (simp; omega)) (by rw [← hr] <;> first | rfl | (simp [nullV]; done) | (simp_all [nullV]; done)) (by simp [ends])
  rw [if_neg (c := op = 9) (by simpa using h9)] at hr
  refine bcase_intro (fun h10 => ?_) fun h10 => ?_
  · rw [if_pos (c := op = 10) (by simpa using h10)] at hr
    refine bcase_intro (fun h11 => ?_) fun h11 => ?_
    · have hb0 : b.num ≠ 0 := by simpa using h11
      refine ⟨hb0, ?_⟩
      rw [if_pos hb0, if_pos rfl] at hr
      exact ret_v (by first | trivial | (simp; done) | (simp; omega)) (by rw [← hr] <;> first | rfl | (simp [nullV]; done) | (simp_all [nullV]; done)) (by simp [ends])
    · have hb0 : ¬ b.num ≠ 0 := by simpa using h11
      rw [if_neg hb0, if_neg (by decide)] at hr
      exact ret_v (by first | trivial | (simp; done) | (simp; omega)) (by rw [← hr] <;> first | rfl | (simp [nullV]; done) | (simp_all [nullV]; done)) (by simp [ends])
  rw [if_neg (c := op = 10) (by simpa using h10), if_neg (by decide)] at hr
  exact ret_v (by first | trivial | (simp; done) | (simp; omega)) (by rw [← hr] <;> first | rfl | (simp [nullV]; done) | (simp_all [nullV]; done)) (by simp [ends])
end Go.Proofs.YtiagabnddihchaaGreatDoor
namespace Go.Proofs.YtiagabnddihchaaGreatDoor
open Go.Am
attribute [local simp, local push_cast] num boo str ints aV aTab aInst aS aT aC
set_option linter.unusedVariables false
set_option maxRecDepth 100000
set_option maxHeartbeats 4000000
def aRow (l : List Val) : A := .d (.sl 3 (rowsOf rV l))
attribute [local simp, local push_cast] aRow
def inM (v : Val) : Val → List Val → Val
  | out, [] => out
  | out, x :: l => inM v (orM out (equalM v x)) l
/-- What an operation makes of the values of its operands. -/
def applyM (op : Int) (l : List Val) : Val :=
  if op = 6 ∨ op = 7 ∨ op = 8 ∨ op = 9 ∨ op = 10 ∨ op = 12 then arithM op (l.getD 0 default) (l.getD 1 default)
  else if op = 11 then arithM 7 ⟨1, 0, ByteArray.empty⟩ (l.getD 0 default)
  else if op = 13 then (if (l.getD 0 default).kind = 3 then ⟨1, (l.getD 0 default).text.size, ByteArray.empty⟩ else nullV)
  else if op = 14 then equalM (l.getD 0 default) (l.getD 1 default)
  else if op = 15 then notM (equalM (l.getD 0 default) (l.getD 1 default))
  else if op = 16 then lessM (l.getD 0 default) (l.getD 1 default)
  else if op = 17 then notM (lessM (l.getD 1 default) (l.getD 0 default))
  else if op = 18 then lessM (l.getD 1 default) (l.getD 0 default)
  else if op = 19 then notM (lessM (l.getD 0 default) (l.getD 1 default))
  else if op = 20 then ofV (sameM (l.getD 0 default) (l.getD 1 default))
  else if op = 21 then ofV ((l.getD 0 default).kind == 0)
  else if op = 22 then andM (l.getD 0 default) (l.getD 1 default)
  else if op = 23 then orM (l.getD 0 default) (l.getD 1 default)
  else if op = 24 then notM (l.getD 0 default)
  else if op = 25 then ofV (truthM (l.getD 0 default) == 1)
  else if op = 27 then (if (l.getD 0 default).kind = 0 then l.getD 1 default else l.getD 0 default)
  else if op = 28 then inM (l.getD 0 default) (ofV false) (l.drop 1)
  else nullV
theorem inM_snoc (v : Val) : ∀ (r : List Val) (out x : Val), inM v out (r ++ [x]) = orM (inM v out r) (equalM v x)
  | [], out, x => rfl
  | y :: r, out, x => by simp only [List.cons_append, inM, inM_snoc v r]
theorem c_bool0 : ACall Tryz.prog 123 [num 0] [] (aV (ofV false)) [] := by
  have : boolV 0 = ofV false := by simp [boolV, ofV]
  rw [← this]; exact c_bool 0
theorem len2 {n : Nat} (h : (n : Int) = 2) : 2 ≤ n := by omega
theorem len1 {n : Nat} (h : (n : Int) = 1) : 1 ≤ n := by omega
theorem c_apply (op : Int) (l : List Val) (hk : kidsR op l.length = true) (hll : l.length ≤ 1000) : ACall Tryz.prog 99 [num op, aRow l] [] (aV (applyM op l)) [] := by
  refine enterq mixed ttok Tryz.func99 Tryz.ntmps99 Tryz.results99 ?_
  generalize hr : aV (applyM op l) = R
  simp -implicitDefEqProofs only [argT, tabN, ↓steps, push_cast, simprocAttr, tte]
  refine bcase_intro (fun h6 => ?_) fun h6 => ?_
  · have e : op = 6 := by simpa using h6
    subst e
    have hl : 2 ≤ l.length := len2 (by simpa [kidsR] using hk)
    refine bcase_intro (fun _ => ?_) (fun h => absurd h (by decide))
    refine ⟨by omega, by omega, ?_⟩
    refine callq [[0], [0, 0, 0], [0, 0, 0]] [] (c_arith 6 (l.getD 0 default) (l.getD 1 default)) ?_
    simp -implicitDefEqProofs only [tabN, aV, ↓steps, push_cast, simprocAttr, tte]
    refine ⟨drawx_intro (by kernel_rfl), ?_⟩
    exact ret_v (by first | trivial | (simp; done) | (simp; omega)) (by rw [← hr] <;> first | rfl | (simp [applyM]; done) | (simp_all [applyM]; done)) (by simp [ends])
  refine bcase_intro (fun h7 => ?_) fun h7 => ?_
  · have e : op = 7 := by simpa using h7
    subst e
    have hl : 2 ≤ l.length := len2 (by simpa [kidsR] using hk)
    refine bcase_intro (fun _ => ?_) (fun h => absurd h (by decide))
    refine ⟨by omega, by omega, ?_⟩
    refine callq [[0], [0, 0, 0], [0, 0, 0]] [] (c_arith 7 (l.getD 0 default) (l.getD 1 default)) ?_
    simp -implicitDefEqProofs only [tabN, aV, ↓steps, push_cast, simprocAttr, tte]
    refine ⟨drawx_intro (by kernel_rfl), ?_⟩
    exact ret_v (by first | trivial | (simp; done) | (simp; omega)) (by rw [← hr] <;> first | rfl | (simp [applyM]; done) | (simp_all [applyM]; done)) (by simp [ends])
  refine bcase_intro (fun h8 => ?_) fun h8 => ?_
  · have e : op = 8 := by simpa using h8
    subst e
    have hl : 2 ≤ l.length := len2 (by simpa [kidsR] using hk)
    refine bcase_intro (fun _ => ?_) (fun h => absurd h (by decide))
    refine ⟨by omega, by omega, ?_⟩
    refine callq [[0], [0, 0, 0], [0, 0, 0]] [] (c_arith 8 (l.getD 0 default) (l.getD 1 default)) ?_
    simp -implicitDefEqProofs only [tabN, aV, ↓steps, push_cast, simprocAttr, tte]
    refine ⟨drawx_intro (by kernel_rfl), ?_⟩
    exact ret_v (by first | trivial | (simp; done) | (simp; omega)) (by rw [← hr] <;> first | rfl | (simp [applyM]; done) | (simp_all [applyM]; done)) (by simp [ends])
  refine bcase_intro (fun h9 => ?_) fun h9 => ?_
  · have e : op = 9 := by simpa using h9
    subst e
    have hl : 2 ≤ l.length := len2 (by simpa [kidsR] using hk)
    refine bcase_intro (fun _ => ?_) (fun h => absurd h (by decide))
    refine ⟨by omega, by omega, ?_⟩
    refine callq [[0], [0, 0, 0], [0, 0, 0]] [] (c_arith 9 (l.getD 0 default) (l.getD 1 default)) ?_
    simp -implicitDefEqProofs only [tabN, aV, ↓steps, push_cast, simprocAttr, tte]
    refine ⟨drawx_intro (by kernel_rfl), ?_⟩
    exact ret_v (by first | trivial | (simp; done) | (simp; omega)) (by rw [← hr] <;> first | rfl | (simp [applyM]; done) | (simp_all [applyM]; done)) (by simp [ends])
  refine bcase_intro (fun h10 => ?_) fun h10 => ?_
  · have e : op = 10 := by simpa using h10
    subst e
    have hl : 2 ≤ l.length := len2 (by simpa [kidsR] using hk)
    refine bcase_intro (fun _ => ?_) (fun h => absurd h (by decide))
    refine ⟨by omega, by omega, ?_⟩
    refine callq [[0], [0, 0, 0], [0, 0, 0]] [] (c_arith 10 (l.getD 0 default) (l.getD 1 default)) ?_
    simp -implicitDefEqProofs only [tabN, aV, ↓steps, push_cast, simprocAttr, tte]
    refine ⟨drawx_intro (by kernel_rfl), ?_⟩
    exact ret_v (by first | trivial | (simp; done) | (simp; omega)) (by rw [← hr] <;> first | rfl | (simp [applyM]; done) | (simp_all [applyM]; done)) (by simp [ends])
  refine bcase_intro (fun h12 => ?_) fun h12 => ?_
  · have e : op = 12 := by simpa using h12
    subst e
    have hl : 2 ≤ l.length := len2 (by simpa [kidsR] using hk)
    refine ⟨by omega, by omega, ?_⟩
    refine callq [[0], [0, 0, 0], [0, 0, 0]] [] (c_arith 12 (l.getD 0 default) (l.getD 1 default)) ?_
    simp -implicitDefEqProofs only [tabN, aV, ↓steps, push_cast, simprocAttr, tte]
    refine ⟨drawx_intro (by kernel_rfl), ?_⟩
    exact ret_v (by first | trivial | (simp; done) | (simp; omega)) (by rw [← hr] <;> first | rfl | (simp [applyM]; done) | (simp_all [applyM]; done)) (by simp [ends])
  refine bcase_intro (fun h11 => ?_) fun h11 => ?_
  · have e : op = 11 := by simpa using h11
    subst e
    have hl : 1 ≤ l.length := len1 (by simpa [kidsR] using hk)
    refine ⟨by omega, ?_⟩
    refine callq [[0], [0, 0, 0], [0, 0, 0]] [] (c_arith 7 ⟨1, 0, ByteArray.empty⟩ (l.getD 0 default)) ?_
    simp -implicitDefEqProofs only [tabN, aV, ↓steps, push_cast, simprocAttr, tte]
    exact ret_v (by first | trivial | (simp; done) | (simp; omega)) (by rw [← hr] <;> first | rfl | (simp [applyM]; done) | (simp_all [applyM]; done)) (by simp [ends])
  refine bcase_intro (fun h13 => ?_) fun h13 => ?_
  · have e : op = 13 := by simpa using h13
    subst e
    have hl : 1 ≤ l.length := len1 (by simpa [kidsR] using hk)
    refine ⟨by omega, ?_⟩
    refine bcase_intro (fun g => ?_) fun g => ?_
    · refine ⟨by omega, ?_⟩
      have g1 : (l.getD 0 default).kind = 3 := by simpa using g
      have hM : applyM 13 l = ⟨1, (l.getD 0 default).text.size, ByteArray.empty⟩ := if_pos g1
      rw [hM] at hr
      exact ret_v (by first | trivial | (simp; done) | (simp; omega)) (by rw [← hr] <;> first | rfl | (simp [applyM]; done) | (simp_all [applyM]; done)) (by simp [ends])
    · have g1 : ¬ (l.getD 0 default).kind = 3 := by simpa using g
      have hM : applyM 13 l = nullV := if_neg g1
      rw [hM] at hr
      exact ret_v (by first | trivial | (simp; done) | (simp; omega)) (by rw [← hr] <;> first | rfl | (simp [nullV]; done) | (simp_all [nullV]; done)) (by simp [ends])
  refine bcase_intro (fun h14 => ?_) fun h14 => ?_
  · have e : op = 14 := by simpa using h14
    subst e
    have hl : 2 ≤ l.length := len2 (by simpa [kidsR] using hk)
    refine ⟨by omega, by omega, ?_⟩
    refine callq [[0, 0, 0], [0, 0, 0]] [] (c_equal (l.getD 0 default) (l.getD 1 default)) ?_
    simp -implicitDefEqProofs only [tabN, aV, ↓steps, push_cast, simprocAttr, tte]
    refine ⟨drawx_intro (by kernel_rfl), ?_⟩
    exact ret_v (by first | trivial | (simp; done) | (simp; omega)) (by rw [← hr] <;> first | rfl | (simp [applyM]; done) | (simp_all [applyM]; done)) (by simp [ends])
  refine bcase_intro (fun h15 => ?_) fun h15 => ?_
  · have e : op = 15 := by simpa using h15
    subst e
    have hl : 2 ≤ l.length := len2 (by simpa [kidsR] using hk)
    refine ⟨by omega, by omega, ?_⟩
    refine callq [[0, 0, 0], [0, 0, 0]] [] (c_equal (l.getD 0 default) (l.getD 1 default)) ?_
    simp -implicitDefEqProofs only [tabN, aV, ↓steps, push_cast, simprocAttr, tte]
    refine callq [[0, 0, 0]] [] (c_not (equalM (l.getD 0 default) (l.getD 1 default))) ?_
    simp -implicitDefEqProofs only [tabN, aV, ↓steps, push_cast, simprocAttr, tte]
    refine ⟨drawx_intro (by kernel_rfl), ?_⟩
    exact ret_v (by first | trivial | (simp; done) | (simp; omega)) (by rw [← hr] <;> first | rfl | (simp [applyM]; done) | (simp_all [applyM]; done)) (by simp [ends])
  refine bcase_intro (fun h16 => ?_) fun h16 => ?_
  · have e : op = 16 := by simpa using h16
    subst e
    have hl : 2 ≤ l.length := len2 (by simpa [kidsR] using hk)
    refine ⟨by omega, by omega, ?_⟩
    refine callq [[0, 0, 0], [0, 0, 0]] [] (c_less (l.getD 0 default) (l.getD 1 default)) ?_
    simp -implicitDefEqProofs only [tabN, aV, ↓steps, push_cast, simprocAttr, tte]
    refine ⟨drawx_intro (by kernel_rfl), ?_⟩
    exact ret_v (by first | trivial | (simp; done) | (simp; omega)) (by rw [← hr] <;> first | rfl | (simp [applyM]; done) | (simp_all [applyM]; done)) (by simp [ends])
  refine bcase_intro (fun h17 => ?_) fun h17 => ?_
  · have e : op = 17 := by simpa using h17
    subst e
    have hl : 2 ≤ l.length := len2 (by simpa [kidsR] using hk)
    refine ⟨by omega, by omega, ?_⟩
    refine callq [[0, 0, 0], [0, 0, 0]] [] (c_less (l.getD 1 default) (l.getD 0 default)) ?_
    simp -implicitDefEqProofs only [tabN, aV, ↓steps, push_cast, simprocAttr, tte]
    refine callq [[0, 0, 0]] [] (c_not (lessM (l.getD 1 default) (l.getD 0 default))) ?_
    simp -implicitDefEqProofs only [tabN, aV, ↓steps, push_cast, simprocAttr, tte]
    refine ⟨drawx_intro (by kernel_rfl), ?_⟩
    exact ret_v (by first | trivial | (simp; done) | (simp; omega)) (by rw [← hr] <;> first | rfl | (simp [applyM]; done) | (simp_all [applyM]; done)) (by simp [ends])
  refine bcase_intro (fun h18 => ?_) fun h18 => ?_
  · have e : op = 18 := by simpa using h18
    subst e
    have hl : 2 ≤ l.length := len2 (by simpa [kidsR] using hk)
    refine ⟨by omega, by omega, ?_⟩
    refine callq [[0, 0, 0], [0, 0, 0]] [] (c_less (l.getD 1 default) (l.getD 0 default)) ?_
    simp -implicitDefEqProofs only [tabN, aV, ↓steps, push_cast, simprocAttr, tte]
    refine ⟨drawx_intro (by kernel_rfl), ?_⟩
    exact ret_v (by first | trivial | (simp; done) | (simp; omega)) (by rw [← hr] <;> first | rfl | (simp [applyM]; done) | (simp_all [applyM]; done)) (by simp [ends])
  refine bcase_intro (fun h19 => ?_) fun h19 => ?_
  · have e : op = 19 := by simpa using h19
    subst e
    have hl : 2 ≤ l.length := len2 (by simpa [kidsR] using hk)
    refine ⟨by omega, by omega, ?_⟩
    refine callq [[0, 0, 0], [0, 0, 0]] [] (c_less (l.getD 0 default) (l.getD 1 default)) ?_
    simp -implicitDefEqProofs only [tabN, aV, ↓steps, push_cast, simprocAttr, tte]
    refine callq [[0, 0, 0]] [] (c_not (lessM (l.getD 0 default) (l.getD 1 default))) ?_
    simp -implicitDefEqProofs only [tabN, aV, ↓steps, push_cast, simprocAttr, tte]
    refine ⟨drawx_intro (by kernel_rfl), ?_⟩
    exact ret_v (by first | trivial | (simp; done) | (simp; omega)) (by rw [← hr] <;> first | rfl | (simp [applyM]; done) | (simp_all [applyM]; done)) (by simp [ends])
  refine bcase_intro (fun h20 => ?_) fun h20 => ?_
  · have e : op = 20 := by simpa using h20
    subst e
    have hl : 2 ≤ l.length := len2 (by simpa [kidsR] using hk)
    refine ⟨by omega, by omega, ?_⟩
    refine callq [[0, 0, 0], [0, 0, 0]] [] (c_same (l.getD 0 default) (l.getD 1 default)) ?_
    simp -implicitDefEqProofs only [tabN, aV, ↓steps, push_cast, simprocAttr, tte]
    refine callq [[0]] [] (c_etruth (sameM (l.getD 0 default) (l.getD 1 default))) ?_
    simp -implicitDefEqProofs only [tabN, aV, ↓steps, push_cast, simprocAttr, tte]
    refine ⟨drawx_intro (by kernel_rfl), ?_⟩
    exact ret_v (by first | trivial | (simp; done) | (simp; omega)) (by rw [← hr] <;> first | rfl | (simp [applyM]; done) | (simp_all [applyM]; done)) (by simp [ends])
  refine bcase_intro (fun h21 => ?_) fun h21 => ?_
  · have e : op = 21 := by simpa using h21
    subst e
    have hl : 1 ≤ l.length := len1 (by simpa [kidsR] using hk)
    refine ⟨by omega, ?_⟩
    refine callq [[0]] [] (c_etruth ((l.getD 0 default).kind == 0)) ?_
    simp -implicitDefEqProofs only [tabN, aV, ↓steps, push_cast, simprocAttr, tte]
    exact ret_v (by first | trivial | (simp; done) | (simp; omega)) (by rw [← hr] <;> first | rfl | (simp [applyM]; done) | (simp_all [applyM]; done)) (by simp [ends])
  refine bcase_intro (fun h22 => ?_) fun h22 => ?_
  · have e : op = 22 := by simpa using h22
    subst e
    have hl : 2 ≤ l.length := len2 (by simpa [kidsR] using hk)
    refine ⟨by omega, by omega, ?_⟩
    refine callq [[0, 0, 0], [0, 0, 0]] [] (c_and (l.getD 0 default) (l.getD 1 default)) ?_
    simp -implicitDefEqProofs only [tabN, aV, ↓steps, push_cast, simprocAttr, tte]
    refine ⟨drawx_intro (by kernel_rfl), ?_⟩
    exact ret_v (by first | trivial | (simp; done) | (simp; omega)) (by rw [← hr] <;> first | rfl | (simp [applyM]; done) | (simp_all [applyM]; done)) (by simp [ends])
  refine bcase_intro (fun h23 => ?_) fun h23 => ?_
  · have e : op = 23 := by simpa using h23
    subst e
    have hl : 2 ≤ l.length := len2 (by simpa [kidsR] using hk)
    refine ⟨by omega, by omega, ?_⟩
    refine callq [[0, 0, 0], [0, 0, 0]] [] (c_or2 (l.getD 0 default) (l.getD 1 default)) ?_
    simp -implicitDefEqProofs only [tabN, aV, ↓steps, push_cast, simprocAttr, tte]
    refine ⟨drawx_intro (by kernel_rfl), ?_⟩
    exact ret_v (by first | trivial | (simp; done) | (simp; omega)) (by rw [← hr] <;> first | rfl | (simp [applyM]; done) | (simp_all [applyM]; done)) (by simp [ends])
  refine bcase_intro (fun h24 => ?_) fun h24 => ?_
  · have e : op = 24 := by simpa using h24
    subst e
    have hl : 1 ≤ l.length := len1 (by simpa [kidsR] using hk)
    refine ⟨by omega, ?_⟩
    refine callq [[0, 0, 0]] [] (c_not (l.getD 0 default)) ?_
    simp -implicitDefEqProofs only [tabN, aV, ↓steps, push_cast, simprocAttr, tte]
    exact ret_v (by first | trivial | (simp; done) | (simp; omega)) (by rw [← hr] <;> first | rfl | (simp [applyM]; done) | (simp_all [applyM]; done)) (by simp [ends])
  refine bcase_intro (fun h25 => ?_) fun h25 => ?_
  · have e : op = 25 := by simpa using h25
    subst e
    have hl : 1 ≤ l.length := len1 (by simpa [kidsR] using hk)
    refine ⟨by omega, ?_⟩
    refine callq [[0, 0, 0]] [] (c_Truth (l.getD 0 default)) ?_
    simp -implicitDefEqProofs only [tabN, aV, ↓steps, push_cast, simprocAttr, tte]
    refine callq [[0]] [] (c_etruth (truthM (l.getD 0 default) == 1)) ?_
    simp -implicitDefEqProofs only [tabN, aV, ↓steps, push_cast, simprocAttr, tte]
    exact ret_v (by first | trivial | (simp; done) | (simp; omega)) (by rw [← hr] <;> first | rfl | (simp [applyM]; done) | (simp_all [applyM]; done)) (by simp [ends])
  refine bcase_intro (fun h27 => ?_) fun h27 => ?_
  · have e : op = 27 := by simpa using h27
    subst e
    have hl : 2 ≤ l.length := len2 (by simpa [kidsR] using hk)
    refine ⟨by omega, ?_⟩
    refine bcase_intro (fun g => ?_) fun g => ?_
    · refine ⟨by omega, ?_⟩
      have g1 : (l.getD 0 default).kind = 0 := by simpa using g
      have hM : applyM 27 l = (l.getD 1 default) := if_pos g1
      rw [hM] at hr
      exact ret_v (by first | trivial | (simp; done) | (simp; omega)) (by rw [← hr] <;> first | rfl | (simp [applyM]; done) | (simp_all [applyM]; done)) (by simp [ends])
    · refine ⟨by omega, ?_⟩
      have g1 : ¬ (l.getD 0 default).kind = 0 := by simpa using g
      have hM : applyM 27 l = (l.getD 0 default) := if_neg g1
      rw [hM] at hr
      exact ret_v (by first | trivial | (simp; done) | (simp; omega)) (by rw [← hr] <;> first | rfl | (simp [applyM]; done) | (simp_all [applyM]; done)) (by simp [ends])
  refine bcase_intro (fun h28 => ?_) fun h28 => ?_
  · have e : op = 28 := by simpa using h28
    subst e
    have hl : 2 ≤ l.length := by have : (l.length : Int) ≥ 2 := by simpa [kidsR] using hk
                                 omega
    refine callq [[0]] [] (c_bool0) ?_
    simp -implicitDefEqProofs only [tabN, aV, ↓steps, push_cast, simprocAttr, tte]
    refine ⟨by omega, ?_⟩
    have hM : applyM 28 l = inM (l.getD 0 default) (ofV false) (l.drop 1) := rfl
    rw [hM] at hr
    have hdl : (l.drop 1).length ≤ 1000 := by simp; omega
    simp only [List.take_length]
    generalize l.drop 1 = r at hr hdl ⊢
    have hsn : ∀ n, n < r.length → inM (l.getD 0 default) (ofV false) (r.take (n + 1)) = orM (inM (l.getD 0 default) (ofV false) (r.take n)) (equalM (l.getD 0 default) (r.getD n default)) := fun n h => by
      rw [take_snoc _ _ h, inM_snoc]
    generalize hv0 : l.getD 0 default = v0 at hr hsn
    generalize ha : (fun n : Nat => inM v0 (ofV false) (r.take n)) = acc
    have ha0 : acc 0 = ofV false := by rw [← ha]; rfl
    have hsn : ∀ n, n < r.length → acc (n + 1) = orM (acc n) (equalM v0 (r.getD n default)) := fun n h => by rw [← ha]; exact hsn n h
    have haN : acc r.length = inM v0 (ofV false) r := by rw [← ha]; simp
    rw [← haN] at hr
    refine loop_count mixed ttok 170 [1, 4, 5, 168, 169] [4] (by simp only [pickT, ends, push_cast, simprocAttr]; rfl) (by simp only [pickO, consO_some, ends, push_cast, simprocAttr]; rfl) r.length (fun _ => True) (fun _ => []) (fun n => [(5, .var [.d (.lit (.int .i64 (acc n).kind)), .d (.lit (.int .i64 (acc n).num)), .d (.lit (.string (acc n).text))])]) trivial ?_ ?_
    · exact Weak.keepL (by simp [cst, ha0, ends]) (by simp [cst, ha0, ends]) (by simp [cst, ha0, ends])
    intro I hI n hn hi
    simp -implicitDefEqProofs only [cst, ↓steps, push_cast, simprocAttr, tte]
    refine bcase_intro (fun h => ?_) fun h => ?_
    · simp only [decide_eq_true_eq] at h
      have h' : n < r.length := by omega
      have hw := wrap_succ h' (by omega)
      refine ⟨(by first | omega | trivial | (refine ⟨?_, ?_⟩ <;> first | omega | trivial | (refine ⟨?_, ?_⟩ <;> first | omega | trivial | (refine ⟨?_, ?_⟩ <;> first | omega | trivial | rfl)))), by omega, ?_⟩
      rw [hv0]
      refine callq [[0, 0, 0], [0, 0, 0]] [] (c_equal v0 (r.getD n default)) ?_
      simp -implicitDefEqProofs only [tabN, aV, ↓steps, push_cast, simprocAttr, tte]
      refine callq [[0, 0, 0], [0, 0, 0]] [] (c_or2 (acc n) (equalM v0 (r.getD n default))) ?_
      simp -implicitDefEqProofs only [tabN, aV, ↓steps, push_cast, simprocAttr, tte]
      refine ⟨drawx_intro (by kernel_rfl), ?_⟩
      rw [← hsn n h']
      exact cnt_again hI n rfl h' trivial (by simp [hw, ends]) (by simp [hw, ends]) (by simp [hw, ends]) (by simp [hw, ends])
    · have hn' : n = r.length := by simp at h; omega
      subst hn'
      exact ret_v (by first | trivial | (simp; done) | (simp; omega)) (by rw [← hr] <;> first | rfl | (simp [nullV]; done) | (simp_all [nullV]; done)) (by simp [ends])
  · have hM : applyM op l = nullV := by
      simp only [beq_eq_false_iff_ne, ne_eq] at h6 h7 h8 h9 h10 h11 h12 h13 h14 h15 h16 h17 h18 h19 h20 h21 h22 h23 h24 h25 h27 h28
      simp only [applyM, *, or_self, if_false]
    rw [hM] at hr
    exact ret_v (by first | trivial | (simp; done) | (simp; omega)) (by rw [← hr] <;> first | rfl | (simp [nullV]; done) | (simp_all [nullV]; done)) (by simp [ends])
end Go.Proofs.YtiagabnddihchaaGreatDoor
namespace Go.Proofs.YtiagabnddihchaaGreatDoor
open Go.Am
attribute [local simp, local push_cast] num boo str ints aV aTab aInst aS aT aC aRow aOp
set_option linter.unusedVariables false
set_option maxRecDepth 100000
set_option maxHeartbeats 4000000
/-- The value of an expression whose operands have values. -/
def evalK (row : List Val) (e : Ex) (vs : List Val) : Val :=
  if countM e = false then nullV
  else if e.op = 2 then ⟨1, e.num, ByteArray.empty⟩ else if e.op = 3 then ⟨2, e.num, ByteArray.empty⟩ else if e.op = 4 then ⟨3, 0, e.text⟩
  else if e.op = 5 then (if 0 ≤ e.col ∧ e.col < row.length then row.getD e.col.toNat default else nullV)
  else if e.op = 26 then (if truthM (vs.getD 0 default) = 1 then vs.getD 1 default else vs.getD 2 default)
  else applyM e.op vs
mutual
def evalM (row : List Val) : Ex → Val
  | .mk a b c d g ks => evalK row (.mk a b c d g ks) (evalL row ks)
def evalL (row : List Val) : List Ex → List Val
  | [] => []
  | e :: l => evalM row e :: evalL row l
end
theorem evalL_eq (row : List Val) : ∀ l, evalL row l = l.map (evalM row)
  | [] => rfl
  | e :: l => by rw [evalL, evalL_eq row l]; rfl
theorem evalM_eq (row : List Val) (e : Ex) : evalM row e = evalK row e (e.kids.map (evalM row)) := by cases e; rw [evalM, evalL_eq]; rfl
def valsTo (row : List Val) (e : Ex) (n : Nat) : List Val := (e.kids.take n).map (evalM row)
theorem valsTo_succ (row : List Val) (e : Ex) (n : Nat) (h : n < e.kids.length) : valsTo row e (n + 1) = valsTo row e n ++ [evalM row (e.kids.getD n default)] := by
  rw [valsTo, take_snoc _ _ h, List.map_append]; rfl
theorem valsTo_length (row : List Val) (e : Ex) (n : Nat) (h : n ≤ e.kids.length) : (valsTo row e n).length = n := by simp [valsTo]; omega
theorem kids_op {e : Ex} (h : countM e = true) : kidsR e.op e.kids.length = true := by
  have : isOp e.op = true := by simp only [countM, Bool.and_eq_true] at h; exact h.1
  rw [kids_count this]; exact h
theorem getD_map {α β : Type} [Inhabited α] [Inhabited β] (f : α → β) (l : List α) (n : Nat) (h : n < l.length) : (l.map f).getD n default = f (l.getD n default) := by
  simp [List.getD_eq_getElem?_getD, h]
theorem c_eval (row : List Val) : ∀ e : Ex, Ok12 e → ACall Tryz.prog 56 [aE e, aRow row] [] (aV (evalM row e)) [] :=
  ex_ind (p := fun e => Ok12 e → ACall Tryz.prog 56 [aE e, aRow row] [] (aV (evalM row e)) []) fun e ih ho => by
  refine enterq mixed ttok Tryz.func56 Tryz.ntmps56 Tryz.results56 ?_
  generalize hr : aV (evalM row e) = R
  have hl := ho.kids
  rw [evalM_eq] at hr
  unfold evalK at hr
  simp -implicitDefEqProofs only [argT, tabN, ↓steps, push_cast, simprocAttr, tte]
  refine callq [[0, 0, 0, 0, 0, 6]] [] (c_known e) ?_
  simp -implicitDefEqProofs only [tabN, aOp, ↓steps, push_cast, simprocAttr, tte]
  refine bcase_intro (fun hc => ?_) fun hc => ?_
  · rw [if_pos (by simpa using hc)] at hr
    exact ret_v (by first | trivial | (simp; done) | (simp; omega)) (by rw [← hr] <;> first | rfl | (simp [nullV]; done) | (simp_all [nullV]; done)) (by simp [ends])
  have hc' : countM e = true := by simpa using hc
  rw [if_neg (by rw [hc']; decide)] at hr
  have hkk := kids_op hc'
  refine bcase_intro (fun h2 => ?_) fun h2 => ?_
  · rw [if_pos (by simpa using h2)] at hr
    exact ret_v (by first | trivial | (simp; done) | (simp; omega)) (by rw [← hr] <;> first | rfl | (simp [nullV]; done) | (simp_all [nullV]; done)) (by simp [ends])
  rw [if_neg (by simpa using h2)] at hr
  refine bcase_intro (fun h3 => ?_) fun h3 => ?_
  · rw [if_pos (by simpa using h3)] at hr
    exact ret_v (by first | trivial | (simp; done) | (simp; omega)) (by rw [← hr] <;> first | rfl | (simp [nullV]; done) | (simp_all [nullV]; done)) (by simp [ends])
  rw [if_neg (by simpa using h3)] at hr
  refine bcase_intro (fun h4 => ?_) fun h4 => ?_
  · rw [if_pos (by simpa using h4)] at hr
    exact ret_v (by first | trivial | (simp; done) | (simp; omega)) (by rw [← hr] <;> first | rfl | (simp [nullV]; done) | (simp_all [nullV]; done)) (by simp [ends])
  rw [if_neg (by simpa using h4)] at hr
  refine bcase_intro (fun h5 => ?_) fun h5 => ?_
  · rw [if_pos (by simpa using h5)] at hr
    refine bcase_intro (fun g1 => ?_) fun g1 => ?_
    · simp only [ge_iff_le, decide_eq_true_eq] at g1
      refine bcase_intro (fun g2 => ?_) fun g2 => ?_
      · simp only [decide_eq_true_eq] at g2
        rw [if_pos ⟨g1, g2⟩] at hr
        refine ⟨⟨g1, g2⟩, ?_⟩
        exact ret_v (by first | trivial | (simp; done) | (simp; omega)) (by rw [← hr] <;> first | rfl | (simp [nullV]; done) | (simp_all [nullV]; done)) (by simp [ends])
      · simp only [decide_eq_false_iff_not] at g2
        rw [if_neg (fun h => g2 h.2)] at hr
        exact ret_v (by first | trivial | (simp; done) | (simp; omega)) (by rw [← hr] <;> first | rfl | (simp [nullV]; done) | (simp_all [nullV]; done)) (by simp [ends])
    · simp only [ge_iff_le, decide_eq_false_iff_not] at g1
      rw [if_neg (fun h => g1 h.1)] at hr
      exact ret_v (by first | trivial | (simp; done) | (simp; omega)) (by rw [← hr] <;> first | rfl | (simp [nullV]; done) | (simp_all [nullV]; done)) (by simp [ends])
  rw [if_neg (by simpa using h5)] at hr
  refine bcase_intro (fun h26 => ?_) fun h26 => ?_
  · have e26 : e.op = 26 := by simpa using h26
    rw [if_pos e26] at hr
    have hl3 : e.kids.length = 3 := by
      rw [e26] at hkk
      have : (e.kids.length : Int) = 3 := by simpa [kidsR] using hkk
      omega
    rw [getD_map _ _ _ (by omega), getD_map _ _ _ (by omega), getD_map _ _ _ (by omega)] at hr
    have hg : ∀ n, n < 3 → e.kids.getD n default ∈ e.kids := fun n h => getD_mem (by omega)
    refine ⟨by omega, ?_⟩
    refine callq [[0, 0, 0, 0, 0, 6], [3]] [] (ih _ (hg 0 (by omega)) (ho.kid (hg 0 (by omega)))) ?_
    simp -implicitDefEqProofs only [tabN, aV, ↓steps, push_cast, simprocAttr, tte]
    refine callq [[0, 0, 0]] [] (c_Truth (evalM row (e.kids.getD 0 default))) ?_
    simp -implicitDefEqProofs only [tabN, aV, ↓steps, push_cast, simprocAttr, tte]
    refine bcase_intro (fun g => ?_) fun g => ?_
    · rw [if_pos (by simpa using g)] at hr
      refine ⟨by omega, ?_⟩
      refine callq [[0, 0, 0, 0, 0, 6], [3]] [] (ih _ (hg 1 (by omega)) (ho.kid (hg 1 (by omega)))) ?_
      simp -implicitDefEqProofs only [tabN, aV, ↓steps, push_cast, simprocAttr, tte]
      exact ret_v (by first | trivial | (simp; done) | (simp; omega)) (by rw [← hr] <;> first | rfl | (simp [nullV]; done) | (simp_all [nullV]; done)) (by simp [ends])
    · rw [if_neg (by simpa using g)] at hr
      refine ⟨by omega, ?_⟩
      refine callq [[0, 0, 0, 0, 0, 6], [3]] [] (ih _ (hg 2 (by omega)) (ho.kid (hg 2 (by omega)))) ?_
      simp -implicitDefEqProofs only [tabN, aV, ↓steps, push_cast, simprocAttr, tte]
      exact ret_v (by first | trivial | (simp; done) | (simp; omega)) (by rw [← hr] <;> first | rfl | (simp [nullV]; done) | (simp_all [nullV]; done)) (by simp [ends])
  rw [if_neg (by simpa using h26)] at hr
  refine loop_count mixed ttok 80 [1, 2, 4, 78, 79] [2, 4] (by simp only [pickT, ends, push_cast, simprocAttr]; rfl) (by simp only [pickO, consO_some, ends, push_cast, simprocAttr]; rfl) e.kids.length (fun _ => True) (fun n => [(8, .vec 500 n)]) (fun n => [(500, .vec 53 3 (rowsOf rV (valsTo row e n)) 0)]) trivial ?_ ?_
  · exact (Weak.nilL 8 500 53 3 rfl rfl).trans (Weak.keepL (by simp [cst, ends]) (by simp [cst, valsTo, ends]) (by simp [cst, ends]))
  intro I hI n hn hi
  have hl2 := valsTo_length row e n hn
  simp -implicitDefEqProofs only [cst, ↓steps, push_cast, simprocAttr, tte]
  refine bcase_intro (fun h => ?_) fun h => ?_
  · simp only [decide_eq_true_eq] at h
    have h' : n < e.kids.length := by omega
    have hw := wrap_succ h' (by omega)
    have hs := valsTo_succ row e n h'
    refine ⟨(by first | omega | trivial | (refine ⟨?_, ?_⟩ <;> first | omega | trivial | (refine ⟨?_, ?_⟩ <;> first | omega | trivial | (refine ⟨?_, ?_⟩ <;> first | omega | trivial | rfl)))), ?_⟩
    refine callq [[0, 0, 0, 0, 0, 6], [3]] [] (ih _ (getD_mem h') (ho.kid (getD_mem h'))) ?_
    simp -implicitDefEqProofs only [tabN, aV, ↓steps, push_cast, simprocAttr, tte]
    refine ⟨⟨hl2.symm, by rw [hl2]; omega⟩, ?_⟩
    exact cnt_again hI n rfl h' trivial (by simp [hw, hs, hl2, rowsOf_append, rV, ends]) (by simp [hw, hs, hl2, rowsOf_append, rV, ends]) (by simp [hw, hs, hl2, rowsOf_append, rV, ends]) (by simp [hw, hs, hl2, rowsOf_append, rV, ends])
  simp only [decide_eq_false_iff_not] at h
  obtain rfl : n = e.kids.length := by omega
  clear hI
  have hT : valsTo row e e.kids.length = e.kids.map (evalM row) := by rw [valsTo, List.take_length]
  rw [← hT] at hr
  rw [← hl2] at hkk hl
  generalize valsTo row e e.kids.length = l at hl2 hr hkk hl ⊢
  refine callq [[0], [3]] [] (c_apply e.op l hkk (by omega)) ?_
  simp -implicitDefEqProofs only [tabN, aV, ↓steps, push_cast, simprocAttr, tte]
  exact ret_v (by first | trivial | (simp; done) | (simp; omega)) (by rw [← hr] <;> first | rfl | (simp [nullV]; done) | (simp_all [nullV]; done)) (by simp [ends])
end Go.Proofs.YtiagabnddihchaaGreatDoor
namespace Go.Proofs.YtiagabnddihchaaGreatDoor
open Go.Am
attribute [local simp, local push_cast] num boo str ints aV aTab aInst aS aT aC aRow aOp
set_option linter.unusedVariables false
set_option maxRecDepth 100000
set_option maxHeartbeats 4000000
theorem orM_false (a b : Val) : orM (ofV false) (equalM a b) = equalM a b := by
  unfold equalM
  split
  · rfl
  · cases sameM a b <;> rfl
theorem evalK_null {row : List Val} {e : Ex} {vs : List Val} (h : countM e = false) : evalK row e vs = nullV := by rw [evalK, if_pos h]
theorem c_reval (row : List Val) : ∀ e : Ex, Ok12 e → ACall Tryz.prog 25 [aE e, aRow row] [] (aV (evalM row e)) [] :=
  ex_ind (p := fun e => Ok12 e → ACall Tryz.prog 25 [aE e, aRow row] [] (aV (evalM row e)) []) fun e ih ho => by
  refine enterq mixed ttok Tryz.func25 Tryz.ntmps25 Tryz.results25 ?_
  generalize hr : aV (evalM row e) = R
  have hl := ho.kids
  rw [evalM_eq] at hr
  simp -implicitDefEqProofs only [argT, tabN, ↓steps, push_cast, simprocAttr, tte]
  refine bcase_intro (fun g1 => ?_) fun g1 => ?_
  · simp only [decide_eq_true_eq] at g1
    have hc : countM e = false := by
      have : isOp e.op = false := by simp [isOp]; omega
      rw [countM, this, Bool.false_and]
    rw [evalK_null hc] at hr
    exact ret_v (by first | trivial | (simp; done) | (simp; omega)) (by rw [← hr] <;> first | rfl | (simp [nullV]; done) | (simp_all [nullV]; done)) (by simp [ends])
  simp only [decide_eq_false_iff_not] at g1
  refine bcase_intro (fun g2 => ?_) fun g2 => ?_
  · simp only [gt_iff_lt, decide_eq_true_eq] at g2
    have hc : countM e = false := by
      have : isOp e.op = false := by simp [isOp]; omega
      rw [countM, this, Bool.false_and]
    rw [evalK_null hc] at hr
    exact ret_v (by first | trivial | (simp; done) | (simp; omega)) (by rw [← hr] <;> first | rfl | (simp [nullV]; done) | (simp_all [nullV]; done)) (by simp [ends])
  simp only [gt_iff_lt, decide_eq_false_iff_not] at g2
  have hisop : isOp e.op = true := by simp [isOp]; omega
  refine callq [[0], [0]] [] (c_rkids e.op e.kids.length) ?_
  simp -implicitDefEqProofs only [tabN, aV, ↓steps, push_cast, simprocAttr, tte]
  refine bcase_intro (fun g3 => ?_) fun g3 => ?_
  · have hc : countM e = false := by rw [← kids_count hisop]; simpa using g3
    rw [evalK_null hc] at hr
    exact ret_v (by first | trivial | (simp; done) | (simp; omega)) (by rw [← hr] <;> first | rfl | (simp [nullV]; done) | (simp_all [nullV]; done)) (by simp [ends])
  have hc : countM e = true := by rw [← kids_count hisop]; simpa using g3
  have hk := kids_op hc
  refine loop_count mixed ttok 6 [1, 2, 4] [2, 4] (by simp only [pickT, ends, push_cast, simprocAttr]; rfl) (by simp only [pickO, consO_some, ends, push_cast, simprocAttr]; rfl) e.kids.length (fun _ => True) (fun n => [(5, .vec 500 n)]) (fun n => [(500, .vec 53 3 (rowsOf rV (valsTo row e n)) 0)]) trivial ?_ ?_
  · exact (Weak.nilL 5 500 53 3 rfl rfl).trans (Weak.keepL (by simp [cst, ends]) (by simp [cst, valsTo, ends]) (by simp [cst, ends]))
  intro I hI n hn hi
  have hl2 := valsTo_length row e n hn
  simp -implicitDefEqProofs only [cst, ↓steps, push_cast, simprocAttr, tte]
  refine bcase_intro (fun h => ?_) fun h => ?_
  · simp only [decide_eq_true_eq] at h
    have h' : n < e.kids.length := by omega
    have hw := wrap_succ h' (by omega)
    have hs := valsTo_succ row e n h'
    refine ⟨(by first | omega | trivial | (refine ⟨?_, ?_⟩ <;> first | omega | trivial | (refine ⟨?_, ?_⟩ <;> first | omega | trivial | (refine ⟨?_, ?_⟩ <;> first | omega | trivial | rfl)))), ?_⟩
    refine callq [[0, 0, 0, 0, 0, 6], [3]] [] (ih _ (getD_mem h') (ho.kid (getD_mem h'))) ?_
    simp -implicitDefEqProofs only [tabN, aV, ↓steps, push_cast, simprocAttr, tte]
    refine ⟨⟨hl2.symm, by rw [hl2]; omega⟩, ?_⟩
    exact cnt_again hI n rfl h' trivial (by simp [hw, hs, hl2, rowsOf_append, rV, ends]) (by simp [hw, hs, hl2, rowsOf_append, rV, ends]) (by simp [hw, hs, hl2, rowsOf_append, rV, ends]) (by simp [hw, hs, hl2, rowsOf_append, rV, ends])
  simp only [decide_eq_false_iff_not] at h
  obtain rfl : n = e.kids.length := by omega
  clear hI
  have hT : valsTo row e e.kids.length = e.kids.map (evalM row) := by rw [valsTo, List.take_length]
  rw [← hT] at hr
  rw [← hl2] at hk hl
  generalize valsTo row e e.kids.length = l at hl2 hr hk hl ⊢
  refine bcase_intro (fun h1 => ?_) fun h1 => ?_
  · have op : e.op = 1 := by simpa using h1
    have hM : evalK row e l = nullV := by simp [evalK, applyM, hc, op]
    rw [hM] at hr
    exact ret_v (by first | trivial | (simp; done) | (simp; omega)) (by rw [← hr] <;> first | rfl | (simp [nullV]; done) | (simp_all [nullV]; done)) (by simp [ends])
  refine bcase_intro (fun h2 => ?_) fun h2 => ?_
  · have op : e.op = 2 := by simpa using h2
    have hM : evalK row e l = ⟨1, e.num, ByteArray.empty⟩ := by simp [evalK, applyM, hc, op]
    rw [hM] at hr
    exact ret_v (by first | trivial | (simp; done) | (simp; omega)) (by rw [← hr] <;> first | rfl | (simp [nullV]; done) | (simp_all [nullV]; done)) (by simp [ends])
  refine bcase_intro (fun h3 => ?_) fun h3 => ?_
  · have op : e.op = 3 := by simpa using h3
    have hM : evalK row e l = ⟨2, e.num, ByteArray.empty⟩ := by simp [evalK, applyM, hc, op]
    rw [hM] at hr
    exact ret_v (by first | trivial | (simp; done) | (simp; omega)) (by rw [← hr] <;> first | rfl | (simp [nullV]; done) | (simp_all [nullV]; done)) (by simp [ends])
  refine bcase_intro (fun h4 => ?_) fun h4 => ?_
  · have op : e.op = 4 := by simpa using h4
    have hM : evalK row e l = ⟨3, 0, e.text⟩ := by simp [evalK, applyM, hc, op]
    rw [hM] at hr
    exact ret_v (by first | trivial | (simp; done) | (simp; omega)) (by rw [← hr] <;> first | rfl | (simp [nullV]; done) | (simp_all [nullV]; done)) (by simp [ends])
  refine bcase_intro (fun h5 => ?_) fun h5 => ?_
  · have op : e.op = 5 := by simpa using h5
    refine bcase_intro (fun g1 => ?_) fun g1 => ?_
    · simp only [decide_eq_true_eq] at g1
      have g2 : ¬ (0 ≤ e.col ∧ e.col < row.length) := by omega
      have hM : evalK row e l = nullV := by simp [evalK, applyM, hc, op, -not_and, g2]
      rw [hM] at hr
      exact ret_v (by first | trivial | (simp; done) | (simp; omega)) (by rw [← hr] <;> first | rfl | (simp [nullV]; done) | (simp_all [nullV]; done)) (by simp [ends])
    refine bcase_intro (fun g2 => ?_) fun g2 => ?_
    · simp only [ge_iff_le, decide_eq_true_eq] at g2
      have g3 : ¬ (0 ≤ e.col ∧ e.col < row.length) := by omega
      have hM : evalK row e l = nullV := by simp [evalK, applyM, hc, op, -not_and, g3]
      rw [hM] at hr
      exact ret_v (by first | trivial | (simp; done) | (simp; omega)) (by rw [← hr] <;> first | rfl | (simp [nullV]; done) | (simp_all [nullV]; done)) (by simp [ends])
    · simp only [ge_iff_le, decide_eq_false_iff_not] at g1 g2
      have g3 : 0 ≤ e.col ∧ e.col < row.length := by omega
      have hM : evalK row e l = row.getD e.col.toNat default := by simp only [evalK, hc, op]; simp [g3]
      rw [hM] at hr
      refine ⟨g3, ?_⟩
      exact ret_v (by first | trivial | (simp; done) | (simp; omega)) (by rw [← hr] <;> first | rfl | (simp [nullV]; done) | (simp_all [nullV]; done)) (by simp [ends])
  refine bcase_intro (fun h11 => ?_) fun h11 => ?_
  · have op : e.op = 11 := by simpa using h11
    rw [op] at hk
    have hM : evalK row e l = arithM 7 ⟨1, 0, ByteArray.empty⟩ (l.getD 0 default) := by simp [evalK, applyM, hc, op]
    rw [hM] at hr
    have hl : 1 ≤ l.length := len1 (by simpa [kidsR] using hk)
    repeat (refine And.intro (by first | omega | (refine ⟨?_, ?_⟩ <;> omega)) ?_)
    refine callq [[0], [0, 0, 0], [0, 0, 0]] [] (c_rarith 7 ⟨1, 0, ByteArray.empty⟩ (l.getD 0 default)) ?_
    simp -implicitDefEqProofs only [tabN, aV, ↓steps, push_cast, simprocAttr, tte]
    exact ret_v (by first | trivial | (simp; done) | (simp; omega)) (by rw [← hr] <;> first | rfl | (simp [nullV]; done) | (simp_all [nullV]; done)) (by simp [ends])
  refine bcase_intro (fun h13 => ?_) fun h13 => ?_
  · have op : e.op = 13 := by simpa using h13
    rw [op] at hk
    have hl : 1 ≤ l.length := len1 (by simpa [kidsR] using hk)
    repeat (refine And.intro (by first | omega | (refine ⟨?_, ?_⟩ <;> omega)) ?_)
    refine bcase_intro (fun g => ?_) fun g => ?_
    · have g1 : ¬ (l.getD 0 default).kind = 3 := by simpa using g
      rw [List.getD_eq_getElem?_getD] at g1
      have hM : evalK row e l = nullV := by simp [evalK, applyM, hc, op, g1]
      rw [hM] at hr
      exact ret_v (by first | trivial | (simp; done) | (simp; omega)) (by rw [← hr] <;> first | rfl | (simp [nullV]; done) | (simp_all [nullV]; done)) (by simp [ends])
    · refine ⟨by omega, by omega, by omega, by omega, ?_⟩
      have g1 : (l.getD 0 default).kind = 3 := by simpa using g
      have g2 := g1
      rw [List.getD_eq_getElem?_getD] at g2
      have hM : evalK row e l = ⟨1, (l.getD 0 default).text.size, ByteArray.empty⟩ := by simp [evalK, applyM, hc, op, g2]
      rw [hM] at hr
      exact ret_v (by first | trivial | (simp; done) | (simp; omega)) (by rw [← hr] <;> first | rfl | (simp [nullV]; done) | (simp_all [nullV]; done)) (by simp [ends])
  refine bcase_intro (fun h14 => ?_) fun h14 => ?_
  · have op : e.op = 14 := by simpa using h14
    rw [op] at hk
    have hM : evalK row e l = equalM (l.getD 0 default) (l.getD 1 default) := by simp [evalK, applyM, hc, op]
    rw [hM] at hr
    have hl : 2 ≤ l.length := len2 (by simpa [kidsR] using hk)
    repeat (refine And.intro (by first | omega | (refine ⟨?_, ?_⟩ <;> omega)) ?_)
    refine callq [[0, 0, 0], [0, 0, 0]] [] (c_requal (l.getD 0 default) (l.getD 1 default)) ?_
    simp -implicitDefEqProofs only [tabN, aV, ↓steps, push_cast, simprocAttr, tte]
    refine ⟨drawx_intro (by kernel_rfl), ?_⟩
    exact ret_v (by first | trivial | (simp; done) | (simp; omega)) (by rw [← hr] <;> first | rfl | (simp [nullV]; done) | (simp_all [nullV]; done)) (by simp [ends])
  refine bcase_intro (fun h15 => ?_) fun h15 => ?_
  · have op : e.op = 15 := by simpa using h15
    rw [op] at hk
    have hM : evalK row e l = notM (equalM (l.getD 0 default) (l.getD 1 default)) := by simp [evalK, applyM, hc, op]
    rw [hM] at hr
    have hl : 2 ≤ l.length := len2 (by simpa [kidsR] using hk)
    repeat (refine And.intro (by first | omega | (refine ⟨?_, ?_⟩ <;> omega)) ?_)
    refine callq [[0, 0, 0], [0, 0, 0]] [] (c_requal (l.getD 0 default) (l.getD 1 default)) ?_
    simp -implicitDefEqProofs only [tabN, aV, ↓steps, push_cast, simprocAttr, tte]
    refine callq [[0, 0, 0]] [] (c_rnot (equalM (l.getD 0 default) (l.getD 1 default))) ?_
    simp -implicitDefEqProofs only [tabN, aV, ↓steps, push_cast, simprocAttr, tte]
    refine ⟨drawx_intro (by kernel_rfl), ?_⟩
    exact ret_v (by first | trivial | (simp; done) | (simp; omega)) (by rw [← hr] <;> first | rfl | (simp [nullV]; done) | (simp_all [nullV]; done)) (by simp [ends])
  refine bcase_intro (fun h16 => ?_) fun h16 => ?_
  · have op : e.op = 16 := by simpa using h16
    rw [op] at hk
    have hM : evalK row e l = lessM (l.getD 0 default) (l.getD 1 default) := by simp [evalK, applyM, hc, op]
    rw [hM] at hr
    have hl : 2 ≤ l.length := len2 (by simpa [kidsR] using hk)
    repeat (refine And.intro (by first | omega | (refine ⟨?_, ?_⟩ <;> omega)) ?_)
    refine callq [[0, 0, 0], [0, 0, 0]] [] (c_rless (l.getD 0 default) (l.getD 1 default)) ?_
    simp -implicitDefEqProofs only [tabN, aV, ↓steps, push_cast, simprocAttr, tte]
    refine ⟨drawx_intro (by kernel_rfl), ?_⟩
    exact ret_v (by first | trivial | (simp; done) | (simp; omega)) (by rw [← hr] <;> first | rfl | (simp [nullV]; done) | (simp_all [nullV]; done)) (by simp [ends])
  refine bcase_intro (fun h17 => ?_) fun h17 => ?_
  · have op : e.op = 17 := by simpa using h17
    rw [op] at hk
    have hM : evalK row e l = notM (lessM (l.getD 1 default) (l.getD 0 default)) := by simp [evalK, applyM, hc, op]
    rw [hM] at hr
    have hl : 2 ≤ l.length := len2 (by simpa [kidsR] using hk)
    repeat (refine And.intro (by first | omega | (refine ⟨?_, ?_⟩ <;> omega)) ?_)
    refine callq [[0, 0, 0], [0, 0, 0]] [] (c_rless (l.getD 1 default) (l.getD 0 default)) ?_
    simp -implicitDefEqProofs only [tabN, aV, ↓steps, push_cast, simprocAttr, tte]
    refine callq [[0, 0, 0]] [] (c_rnot (lessM (l.getD 1 default) (l.getD 0 default))) ?_
    simp -implicitDefEqProofs only [tabN, aV, ↓steps, push_cast, simprocAttr, tte]
    refine ⟨drawx_intro (by kernel_rfl), ?_⟩
    exact ret_v (by first | trivial | (simp; done) | (simp; omega)) (by rw [← hr] <;> first | rfl | (simp [nullV]; done) | (simp_all [nullV]; done)) (by simp [ends])
  refine bcase_intro (fun h18 => ?_) fun h18 => ?_
  · have op : e.op = 18 := by simpa using h18
    rw [op] at hk
    have hM : evalK row e l = lessM (l.getD 1 default) (l.getD 0 default) := by simp [evalK, applyM, hc, op]
    rw [hM] at hr
    have hl : 2 ≤ l.length := len2 (by simpa [kidsR] using hk)
    repeat (refine And.intro (by first | omega | (refine ⟨?_, ?_⟩ <;> omega)) ?_)
    refine callq [[0, 0, 0], [0, 0, 0]] [] (c_rless (l.getD 1 default) (l.getD 0 default)) ?_
    simp -implicitDefEqProofs only [tabN, aV, ↓steps, push_cast, simprocAttr, tte]
    refine ⟨drawx_intro (by kernel_rfl), ?_⟩
    exact ret_v (by first | trivial | (simp; done) | (simp; omega)) (by rw [← hr] <;> first | rfl | (simp [nullV]; done) | (simp_all [nullV]; done)) (by simp [ends])
  refine bcase_intro (fun h19 => ?_) fun h19 => ?_
  · have op : e.op = 19 := by simpa using h19
    rw [op] at hk
    have hM : evalK row e l = notM (lessM (l.getD 0 default) (l.getD 1 default)) := by simp [evalK, applyM, hc, op]
    rw [hM] at hr
    have hl : 2 ≤ l.length := len2 (by simpa [kidsR] using hk)
    repeat (refine And.intro (by first | omega | (refine ⟨?_, ?_⟩ <;> omega)) ?_)
    refine callq [[0, 0, 0], [0, 0, 0]] [] (c_rless (l.getD 0 default) (l.getD 1 default)) ?_
    simp -implicitDefEqProofs only [tabN, aV, ↓steps, push_cast, simprocAttr, tte]
    refine callq [[0, 0, 0]] [] (c_rnot (lessM (l.getD 0 default) (l.getD 1 default))) ?_
    simp -implicitDefEqProofs only [tabN, aV, ↓steps, push_cast, simprocAttr, tte]
    refine ⟨drawx_intro (by kernel_rfl), ?_⟩
    exact ret_v (by first | trivial | (simp; done) | (simp; omega)) (by rw [← hr] <;> first | rfl | (simp [nullV]; done) | (simp_all [nullV]; done)) (by simp [ends])
  refine bcase_intro (fun h20 => ?_) fun h20 => ?_
  · have op : e.op = 20 := by simpa using h20
    rw [op] at hk
    have hM : evalK row e l = ofV (sameM (l.getD 0 default) (l.getD 1 default)) := by simp [evalK, applyM, hc, op]
    rw [hM] at hr
    have hl : 2 ≤ l.length := len2 (by simpa [kidsR] using hk)
    repeat (refine And.intro (by first | omega | (refine ⟨?_, ?_⟩ <;> omega)) ?_)
    refine callq [[0, 0, 0], [0, 0, 0]] [] (c_rsame (l.getD 0 default) (l.getD 1 default)) ?_
    simp -implicitDefEqProofs only [tabN, aV, ↓steps, push_cast, simprocAttr, tte]
    refine callq [[0]] [] (c_of (sameM (l.getD 0 default) (l.getD 1 default))) ?_
    simp -implicitDefEqProofs only [tabN, aV, ↓steps, push_cast, simprocAttr, tte]
    refine ⟨drawx_intro (by kernel_rfl), ?_⟩
    exact ret_v (by first | trivial | (simp; done) | (simp; omega)) (by rw [← hr] <;> first | rfl | (simp [nullV]; done) | (simp_all [nullV]; done)) (by simp [ends])
  refine bcase_intro (fun h21 => ?_) fun h21 => ?_
  · have op : e.op = 21 := by simpa using h21
    rw [op] at hk
    have hM : evalK row e l = ofV ((l.getD 0 default).kind == 0) := by simp [evalK, applyM, hc, op]
    rw [hM] at hr
    have hl : 1 ≤ l.length := len1 (by simpa [kidsR] using hk)
    repeat (refine And.intro (by first | omega | (refine ⟨?_, ?_⟩ <;> omega)) ?_)
    refine callq [[0]] [] (c_of ((l.getD 0 default).kind == 0)) ?_
    simp -implicitDefEqProofs only [tabN, aV, ↓steps, push_cast, simprocAttr, tte]
    exact ret_v (by first | trivial | (simp; done) | (simp; omega)) (by rw [← hr] <;> first | rfl | (simp [nullV]; done) | (simp_all [nullV]; done)) (by simp [ends])
  refine bcase_intro (fun h22 => ?_) fun h22 => ?_
  · have op : e.op = 22 := by simpa using h22
    rw [op] at hk
    have hM : evalK row e l = andM (l.getD 0 default) (l.getD 1 default) := by simp [evalK, applyM, hc, op]
    rw [hM] at hr
    have hl : 2 ≤ l.length := len2 (by simpa [kidsR] using hk)
    repeat (refine And.intro (by first | omega | (refine ⟨?_, ?_⟩ <;> omega)) ?_)
    refine callq [[0, 0, 0], [0, 0, 0]] [] (c_rand (l.getD 0 default) (l.getD 1 default)) ?_
    simp -implicitDefEqProofs only [tabN, aV, ↓steps, push_cast, simprocAttr, tte]
    refine ⟨drawx_intro (by kernel_rfl), ?_⟩
    exact ret_v (by first | trivial | (simp; done) | (simp; omega)) (by rw [← hr] <;> first | rfl | (simp [nullV]; done) | (simp_all [nullV]; done)) (by simp [ends])
  refine bcase_intro (fun h23 => ?_) fun h23 => ?_
  · have op : e.op = 23 := by simpa using h23
    rw [op] at hk
    have hM : evalK row e l = orM (l.getD 0 default) (l.getD 1 default) := by simp [evalK, applyM, hc, op]
    rw [hM] at hr
    have hl : 2 ≤ l.length := len2 (by simpa [kidsR] using hk)
    repeat (refine And.intro (by first | omega | (refine ⟨?_, ?_⟩ <;> omega)) ?_)
    refine callq [[0, 0, 0], [0, 0, 0]] [] (c_ror (l.getD 0 default) (l.getD 1 default)) ?_
    simp -implicitDefEqProofs only [tabN, aV, ↓steps, push_cast, simprocAttr, tte]
    refine ⟨drawx_intro (by kernel_rfl), ?_⟩
    exact ret_v (by first | trivial | (simp; done) | (simp; omega)) (by rw [← hr] <;> first | rfl | (simp [nullV]; done) | (simp_all [nullV]; done)) (by simp [ends])
  refine bcase_intro (fun h24 => ?_) fun h24 => ?_
  · have op : e.op = 24 := by simpa using h24
    rw [op] at hk
    have hM : evalK row e l = notM (l.getD 0 default) := by simp [evalK, applyM, hc, op]
    rw [hM] at hr
    have hl : 1 ≤ l.length := len1 (by simpa [kidsR] using hk)
    repeat (refine And.intro (by first | omega | (refine ⟨?_, ?_⟩ <;> omega)) ?_)
    refine callq [[0, 0, 0]] [] (c_rnot (l.getD 0 default)) ?_
    simp -implicitDefEqProofs only [tabN, aV, ↓steps, push_cast, simprocAttr, tte]
    exact ret_v (by first | trivial | (simp; done) | (simp; omega)) (by rw [← hr] <;> first | rfl | (simp [nullV]; done) | (simp_all [nullV]; done)) (by simp [ends])
  refine bcase_intro (fun h25 => ?_) fun h25 => ?_
  · have op : e.op = 25 := by simpa using h25
    rw [op] at hk
    have hM : evalK row e l = ofV (truthM (l.getD 0 default) == 1) := by simp [evalK, applyM, hc, op]
    rw [hM] at hr
    have hl : 1 ≤ l.length := len1 (by simpa [kidsR] using hk)
    repeat (refine And.intro (by first | omega | (refine ⟨?_, ?_⟩ <;> omega)) ?_)
    refine callq [[0, 0, 0]] [] (c_rTruth (l.getD 0 default)) ?_
    simp -implicitDefEqProofs only [tabN, aV, ↓steps, push_cast, simprocAttr, tte]
    refine callq [[0]] [] (c_of (truthM (l.getD 0 default) == 1)) ?_
    simp -implicitDefEqProofs only [tabN, aV, ↓steps, push_cast, simprocAttr, tte]
    exact ret_v (by first | trivial | (simp; done) | (simp; omega)) (by rw [← hr] <;> first | rfl | (simp [nullV]; done) | (simp_all [nullV]; done)) (by simp [ends])
  refine bcase_intro (fun h26 => ?_) fun h26 => ?_
  · have op : e.op = 26 := by simpa using h26
    rw [op] at hk
    have hl : 3 ≤ l.length := by have : (l.length : Int) = 3 := by simpa [kidsR] using hk
                                 omega
    repeat (refine And.intro (by first | omega | (refine ⟨?_, ?_⟩ <;> omega)) ?_)
    refine callq [[0, 0, 0]] [] (c_rTruth (l.getD 0 default)) ?_
    simp -implicitDefEqProofs only [tabN, aV, ↓steps, push_cast, simprocAttr, tte]
    refine bcase_intro (fun g => ?_) fun g => ?_
    · have g1 : truthM (l.getD 0 default) = 1 := by simpa using g
      rw [List.getD_eq_getElem?_getD] at g1
      have hM : evalK row e l = (l.getD 1 default) := by simp [evalK, applyM, hc, op, g1]
      rw [hM] at hr
      refine ⟨(by first | omega | trivial | (refine ⟨?_, ?_⟩ <;> first | omega | trivial | (refine ⟨?_, ?_⟩ <;> first | omega | trivial | (refine ⟨?_, ?_⟩ <;> first | omega | trivial | rfl)))), by omega, by omega, ?_⟩
      exact ret_v (by first | trivial | (simp; done) | (simp; omega)) (by rw [← hr] <;> first | rfl | (simp [nullV]; done) | (simp_all [nullV]; done)) (by simp [ends])
    · have g1 : ¬ truthM (l.getD 0 default) = 1 := by simpa using g
      rw [List.getD_eq_getElem?_getD] at g1
      have hM : evalK row e l = (l.getD 2 default) := by simp [evalK, applyM, hc, op, g1]
      rw [hM] at hr
      refine ⟨(by first | omega | trivial | (refine ⟨?_, ?_⟩ <;> first | omega | trivial | (refine ⟨?_, ?_⟩ <;> first | omega | trivial | (refine ⟨?_, ?_⟩ <;> first | omega | trivial | rfl)))), by omega, by omega, ?_⟩
      exact ret_v (by first | trivial | (simp; done) | (simp; omega)) (by rw [← hr] <;> first | rfl | (simp [nullV]; done) | (simp_all [nullV]; done)) (by simp [ends])
  refine bcase_intro (fun h27 => ?_) fun h27 => ?_
  · have op : e.op = 27 := by simpa using h27
    rw [op] at hk
    have hl : 2 ≤ l.length := len2 (by simpa [kidsR] using hk)
    repeat (refine And.intro (by first | omega | (refine ⟨?_, ?_⟩ <;> omega)) ?_)
    refine bcase_intro (fun g => ?_) fun g => ?_
    · have g1 : ¬ (l.getD 0 default).kind = 0 := by simpa using g
      rw [List.getD_eq_getElem?_getD] at g1
      have hM : evalK row e l = (l.getD 0 default) := by simp [evalK, applyM, hc, op, g1]
      rw [hM] at hr
      refine ⟨(by first | omega | trivial | (refine ⟨?_, ?_⟩ <;> first | omega | trivial | (refine ⟨?_, ?_⟩ <;> first | omega | trivial | (refine ⟨?_, ?_⟩ <;> first | omega | trivial | rfl)))), by omega, by omega, ?_⟩
      exact ret_v (by first | trivial | (simp; done) | (simp; omega)) (by rw [← hr] <;> first | rfl | (simp [nullV]; done) | (simp_all [nullV]; done)) (by simp [ends])
    · have g1 : (l.getD 0 default).kind = 0 := by simpa using g
      rw [List.getD_eq_getElem?_getD] at g1
      have hM : evalK row e l = (l.getD 1 default) := by simp [evalK, applyM, hc, op, g1]
      rw [hM] at hr
      refine ⟨(by first | omega | trivial | (refine ⟨?_, ?_⟩ <;> first | omega | trivial | (refine ⟨?_, ?_⟩ <;> first | omega | trivial | (refine ⟨?_, ?_⟩ <;> first | omega | trivial | rfl)))), by omega, by omega, ?_⟩
      exact ret_v (by first | trivial | (simp; done) | (simp; omega)) (by rw [← hr] <;> first | rfl | (simp [nullV]; done) | (simp_all [nullV]; done)) (by simp [ends])
  refine bcase_intro (fun h28 => ?_) fun h28 => ?_
  · have op : e.op = 28 := by simpa using h28
    rw [op] at hk
    have hl0 : 2 ≤ l.length := by have : (l.length : Int) ≥ 2 := by simpa [kidsR] using hk
                                  omega
    have hM : evalK row e l = inM (l.getD 0 default) (equalM (l.getD 0 default) (l.getD 1 default)) (l.drop 2) := by
      simp only [evalK, hc, op]
      show inM (l.getD 0 default) (ofV false) (l.drop 1) = _
      rw [drop_cons _ 1 (by omega), inM, orM_false]
    rw [hM] at hr
    generalize hv0 : l.getD 0 default = v0 at hr ⊢
    have hacc : ∃ acc : Nat → Val, acc 2 = equalM v0 (l.getD 1 default) ∧ (∀ n, n < l.length → 2 ≤ n → acc (n + 1) = orM (acc n) (equalM v0 (l.getD n default))) ∧ acc l.length = inM v0 (equalM v0 (l.getD 1 default)) (l.drop 2) := by
      refine ⟨fun n => inM v0 (equalM v0 (l.getD 1 default)) ((l.drop 2).take (n - 2)), by simp [inM], fun n h1 h2 => ?_, ?_⟩
      · have e1 : n + 1 - 2 = (n - 2) + 1 := by omega
        have e2 : (l.drop 2).getD (n - 2) default = l.getD n default := by
          simp only [List.getD_eq_getElem?_getD, List.getElem?_drop]
          rw [show 2 + (n - 2) = n by omega]
        simp only []
        rw [e1, take_snoc _ _ (by simp; omega), inM_snoc, e2]
      · simp only []
        rw [List.take_of_length_le (by simp)]
    obtain ⟨acc, ha2, has, haN⟩ := hacc
    rw [← haN] at hr
    repeat (refine And.intro (by first | omega | (refine ⟨?_, ?_⟩ <;> omega)) ?_)
    refine callq [[0, 0, 0], [0, 0, 0]] [] (c_requal v0 (l.getD 1 default)) ?_
    simp -implicitDefEqProofs only [tabN, aV, ↓steps, push_cast, simprocAttr, tte]
    refine ⟨drawx_intro (by kernel_rfl), ?_⟩
    rw [← ha2]
    refine loop_gen mixed ttok (fun n : Nat => (⟨[(8, .d (.lit (.int .i64 n))), (5, .vec 500 l.length), (4, .ptr 4 0), (7, .ptr 7 0)], [(500, .vec 53 3 (rowsOf rV l) 0), (7, .var [.d (.lit (.int .i64 (acc n).kind)), .d (.lit (.int .i64 (acc n).num)), .d (.lit (.string (acc n).text))]), (4, .var [.d (.lit (.int .i64 0)), .d (.lit (.int .i64 0)), .d (.lit (.string ByteArray.empty))])]⟩ : SL)) (fun n => l.length - n) (fun n => 2 ≤ n ∧ n ≤ l.length) 2 ⟨by omega, by omega⟩ ?_ ?_
    · exact Weak.keepL (by simp [hl2, ends]) (by simp [ends]) (by simp [ends])
    intro I hI n ⟨hn1, hn⟩
    simp -implicitDefEqProofs only [↓steps, push_cast, simprocAttr, tte]
    refine bcase_intro (fun h => ?_) fun h => ?_
    · simp only [decide_eq_true_eq] at h
      have h' : n < l.length := by omega
      have hw := wrap_succ h' (by omega)
      repeat (refine And.intro (by first | omega | (refine ⟨?_, ?_⟩ <;> omega)) ?_)
      simp only [hv0]
      refine callq [[0, 0, 0], [0, 0, 0]] [] (c_requal v0 (l.getD n default)) ?_
      simp -implicitDefEqProofs only [tabN, aV, ↓steps, push_cast, simprocAttr, tte]
      refine callq [[0, 0, 0], [0, 0, 0]] [] (c_ror (acc n) (equalM v0 (l.getD n default))) ?_
      simp -implicitDefEqProofs only [tabN, aV, ↓steps, push_cast, simprocAttr, tte]
      refine ⟨drawx_intro (by kernel_rfl), ?_⟩
      rw [← has n h' hn1]
      exact gen_again hI (n + 1) ⟨by omega, by omega⟩ (by show l.length - (n + 1) < l.length - n; omega) (Weak.keepL (by simp [hw, ends]) (by simp [ends]) (by simp [ends]))
    · simp only [decide_eq_false_iff_not] at h
      obtain rfl : n = l.length := by omega
      exact ret_v (by first | trivial | (simp; done) | (simp; omega)) (by rw [← hr] <;> first | rfl | (simp [nullV]; done) | (simp_all [nullV]; done)) (by simp [ends])
  have hcase : e.op = 6 ∨ e.op = 7 ∨ e.op = 8 ∨ e.op = 9 ∨ e.op = 10 ∨ e.op = 12 := by
    simp only [beq_eq_false_iff_ne, ne_eq] at h1 h2 h3 h4 h5 h11 h13 h14 h15 h16 h17 h18 h19 h20 h21 h22 h23 h24 h25 h26 h27 h28
    omega
  have hl0 : 2 ≤ l.length := by
    rcases hcase with h | h | h | h | h | h <;> rw [h] at hk <;> exact len2 (by simpa [kidsR] using hk)
  have hM : evalK row e l = arithM e.op (l.getD 0 default) (l.getD 1 default) := by
    rcases hcase with h | h | h | h | h | h <;> simp [evalK, applyM, hc, h]
  rw [hM] at hr
  repeat (refine And.intro (by first | omega | (refine ⟨?_, ?_⟩ <;> omega)) ?_)
  refine callq [[0], [0, 0, 0], [0, 0, 0]] [] (c_rarith e.op (l.getD 0 default) (l.getD 1 default)) ?_
  simp -implicitDefEqProofs only [tabN, aV, ↓steps, push_cast, simprocAttr, tte]
  refine ⟨drawx_intro (by kernel_rfl), ?_⟩
  exact ret_v (by first | trivial | (simp; done) | (simp; omega)) (by rw [← hr] <;> first | rfl | (simp [nullV]; done) | (simp_all [nullV]; done)) (by simp [ends])
end Go.Proofs.YtiagabnddihchaaGreatDoor
namespace Go.Proofs.YtiagabnddihchaaGreatDoor
open Go.Am
attribute [local simp, local push_cast] num boo str ints aV aTab aInst aS aT aC aRow rRow
set_option linter.unusedVariables false
set_option maxRecDepth 100000
set_option maxHeartbeats 4000000
/-- Rows in their order. -/
def cmpR : List Val → List Val → Int
  | [], [] => 0
  | [], _ :: _ => -1
  | _ :: _, [] => 1
  | x :: a, y :: b => if cmpM x y ≠ 0 then cmpM x y else cmpR a b
theorem cmpR_end {a b : List Val} {n : Nat} (ha : n ≤ a.length) (hb : n ≤ b.length) (h : n = a.length ∨ n = b.length) :
    cmpR (a.drop n) (b.drop n) = if a.length < b.length then -1 else if a.length > b.length then 1 else 0 := by
  rcases h with rfl | rfl
  · rw [List.drop_length]
    by_cases h2 : a.length < b.length
    · rw [drop_cons _ _ h2, if_pos h2]; rfl
    · have : b.drop a.length = [] := List.drop_eq_nil_of_le (by omega)
      rw [this, if_neg h2, if_neg (by omega)]; rfl
  · rw [List.drop_length]
    by_cases h2 : b.length < a.length
    · rw [drop_cons _ _ h2, if_neg (by omega), if_pos h2]; rfl
    · have : a.drop b.length = [] := List.drop_eq_nil_of_le (by omega)
      rw [this, if_neg (by omega), if_neg (by omega)]; rfl
theorem c_cmpRows (a b : List Val) (ha : a.length ≤ 1000000) : ACall Tryz.prog 57 [aRow a, aRow b] [] (num (cmpR a b)) [] := by
  refine enterq mixed ttok Tryz.func57 Tryz.ntmps57 Tryz.results57 ?_
  generalize hr : num (cmpR a b) = R
  simp -implicitDefEqProofs only [argT, ↓steps, push_cast, simprocAttr, tte]
  refine loop_gen mixed ttok (fun n : Nat => (⟨[(5, .d (.lit (.int .i64 n))), (0, aRow a), (1, aRow b)], []⟩ : SL)) (fun n => a.length - n) (fun n => n ≤ a.length ∧ n ≤ b.length ∧ cmpR (a.drop n) (b.drop n) = cmpR a b) 0 ⟨Nat.zero_le _, Nat.zero_le _, rfl⟩ ?_ ?_
  · exact Weak.keepL (by simp [ends]) (by simp [ends]) (by simp [ends])
  intro I hI n ⟨hn, hn2, hi⟩
  simp -implicitDefEqProofs only [↓steps, push_cast, simprocAttr, tte]
  refine bcase_intro (fun h1 => ?_) fun h1 => ?_
  · simp only [decide_eq_true_eq] at h1
    have h1' : n < a.length := by omega
    refine bcase_intro (fun h2 => ?_) fun h2 => ?_
    · simp only [decide_eq_true_eq] at h2
      have h2' : n < b.length := by omega
      have hw := wrap_succ h1' (by omega)
      rw [drop_cons _ _ h1', drop_cons _ _ h2', cmpR] at hi
      refine ⟨⟨by omega, h1⟩, ⟨by omega, h2⟩, ?_⟩
      refine callq [[0, 0, 0], [0, 0, 0]] [] (c_rcompare (a.getD n default) (b.getD n default)) ?_
      simp -implicitDefEqProofs only [↓steps, push_cast, simprocAttr, tte]
      refine ⟨drawx_intro (by kernel_rfl), ?_⟩
      refine bcase_intro (fun g => ?_) fun g => ?_
      · rw [if_pos (by simpa using g)] at hi
        exact ret_d trivial (by rw [← hr, ← hi]; rfl) (by simp [ends])
      · rw [if_neg (by simpa using g)] at hi
        exact gen_again hI (n + 1) ⟨h1', h2', hi⟩ (by show a.length - (n + 1) < a.length - n; omega) (Weak.keepL (by simp [hw, ends]) (by simp [ends]) (by simp [ends]))
    · simp only [decide_eq_false_iff_not] at h2
      rw [cmpR_end hn hn2 (.inr (by omega))] at hi
      refine bcase_intro (fun k1 => ?_) fun k1 => ?_
      · simp only [decide_eq_true_eq] at k1
        exact ret_d trivial (by rw [← hr, ← hi, if_pos (by omega)]; rfl) (by simp [ends])
      refine bcase_intro (fun k2 => ?_) fun k2 => ?_
      · simp only [decide_eq_false_iff_not, gt_iff_lt, decide_eq_true_eq] at k1 k2
        exact ret_d trivial (by rw [← hr, ← hi, if_neg (by omega), if_pos (by omega)]; rfl) (by simp [ends])
      · simp only [decide_eq_false_iff_not, gt_iff_lt] at k1 k2
        exact ret_d trivial (by rw [← hr, ← hi, if_neg (by omega), if_neg (by omega)]; rfl) (by simp [ends])
  · simp only [decide_eq_false_iff_not] at h1
    rw [cmpR_end hn hn2 (.inl (by omega))] at hi
    refine bcase_intro (fun k1 => ?_) fun k1 => ?_
    · simp only [decide_eq_true_eq] at k1
      exact ret_d trivial (by rw [← hr, ← hi, if_pos (by omega)]; rfl) (by simp [ends])
    refine bcase_intro (fun k2 => ?_) fun k2 => ?_
    · simp only [decide_eq_false_iff_not, gt_iff_lt, decide_eq_true_eq] at k1 k2
      exact ret_d trivial (by rw [← hr, ← hi, if_neg (by omega), if_pos (by omega)]; rfl) (by simp [ends])
    · simp only [decide_eq_false_iff_not, gt_iff_lt] at k1 k2
      exact ret_d trivial (by rw [← hr, ← hi, if_neg (by omega), if_neg (by omega)]; rfl) (by simp [ends])
end Go.Proofs.YtiagabnddihchaaGreatDoor
