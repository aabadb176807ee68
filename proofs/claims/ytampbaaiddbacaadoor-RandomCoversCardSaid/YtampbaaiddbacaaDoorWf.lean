/- Each operation of expressions with operands, and each operator of queries, stands at the root for some tape: a proof over an abstract machine of our own (part Wf) -/
import Derived.Test.YtampbaaiddbacaaDoorWe
set_option linter.all false
namespace Go.Proofs.YtampbaaiddbacaaDoor
open Go.Am
attribute [local simp, local push_cast] num boo str ints aV aTab aInst aS aT aC rAgg_eq rQ_eq rQRow pairA aAgg tapeO aQs aQP
set_option linter.unusedVariables false
set_option maxRecDepth 100000
set_option maxHeartbeats 4000000
/-! What the tapes of RandomCovers make. -/
def sN : Sch := [⟨⟨#[116, 97]⟩, [⟨⟨#[107]⟩, 1, false⟩, ⟨⟨#[99, 97]⟩, 1, false⟩], [0], [], [], []⟩]
theorem sN_eq : schemaM [] = sN := by kernel_rfl
theorem q0 : (rqueryM [0, 0, 0] sN 2).2 = 0 := by decide +kernel
theorem q1 : (rqueryM [0, 0, 1] sN 2).2 = 0 := by decide +kernel
theorem q2 : (rqueryM [0, 0, 2] sN 2).2 = 0 := by decide +kernel
theorem q3 : (rqueryM [0, 0, 3] sN 2).2 = 0 := by decide +kernel
theorem q4 : (rqueryM [0, 0, 4] sN 2).2 = 0 := by decide +kernel
theorem q5 : (rqueryM [0, 0, 5] sN 2).2 = 0 := by decide +kernel
theorem o0 : (rqueryM [0, 0, 0] sN 2).1.op = 3 := by decide +kernel
theorem o1 : (rqueryM [0, 0, 1] sN 2).1.op = 4 := by decide +kernel
theorem o2 : (rqueryM [0, 0, 2] sN 2).1.op = 5 := by decide +kernel
theorem o3 : (rqueryM [0, 0, 3] sN 2).1.op = 6 := by decide +kernel
theorem o4 : (rqueryM [0, 0, 4] sN 2).1.op = 9 := by decide +kernel
theorem o5 : (rqueryM [0, 0, 5] sN 2).1.op = 10 := by decide +kernel
theorem qv : (rqueryM [4] sN 1).2 = 0 := by decide +kernel
theorem ov : (rqueryM [4] sN 1).1.op = 2 := by decide +kernel
end Go.Proofs.YtampbaaiddbacaaDoor
namespace Go.Proofs.YtampbaaiddbacaaDoor
open Go.Am
attribute [local simp, local push_cast] num boo str ints aV aTab aInst aS aT aC rAgg_eq rQ_eq rQRow pairA aAgg tapeO aQs aQP
set_option linter.unusedVariables false
set_option maxRecDepth 100000
set_option maxHeartbeats 4000000
/-! RandomCovers: the law. -/
theorem cov {XS : List Int} {T k : Int} (hx : ∀ x ∈ XS, i64 x) (ht : Known T) (h : (exprM (XS.take 400) [1] 2 T 0).1.op = k) :
    ∃ E : Ex, E.op = k ∧ ACall Tryd.prog 4 [ints [1], num T, num 2, ints XS] [] (.tup [aE E, num 0]) [] :=
  ⟨_, h, c5 (xs := XS) (types := [1]) (typ := T) (d := 1) hx (by simp) (by simp [Known]) ht (by omega)⟩
theorem sN_small : SmallS sN := by
  refine ⟨by simp [sN], fun t ht => ?_⟩
  rw [sN, List.mem_singleton] at ht
  rw [ht]
  refine ⟨by simp, by simp, by simp, by simp, by simp, by simp, by simp, by simp⟩
theorem c_sN : ACall Tryd.prog 5 [ints []] [] (aS sN) [] := by
  have := c8 (xs := []) (by simp)
  rwa [List.take_nil, sN_eq] at this
def wantQ (m : Int) : Int := ([3, 4, 5, 6, 9, 10] : List Int).getD m.toNat default
theorem qry_of {xs : List Int} {deep k : Int} (hx : ∀ x ∈ xs, i64 x) (h0 : (rqueryM xs sN deep).2 = 0) (h1 : (rqueryM xs sN deep).1.op = k) : ∃ Q : Qr, Q.op = k ∧ ACall Tryd.prog 6 [aS sN, num deep, ints xs] [] (.tup [aQ Q, num 0]) [] := by
  have := c_rquery (xs := xs) (s := sN) (deep := deep) hx sN_small
  unfold pairQ at this
  rw [h0] at this
  exact ⟨_, h1, this⟩
theorem qry {m : Int} (h0 : 0 ≤ m) (h6 : m < 6) : ∃ Q : Qr, Q.op = wantQ m ∧ ACall Tryd.prog 6 [aS sN, num 2, ints [0, 0, m]] [] (.tup [aQ Q, num 0]) [] := by
  have : m = 0 ∨ m = 1 ∨ m = 2 ∨ m = 3 ∨ m = 4 ∨ m = 5 := by omega
  rcases this with rfl | rfl | rfl | rfl | rfl | rfl
  · exact qry_of (by simp [i64]) q0 o0
  · exact qry_of (by simp [i64]) q1 o1
  · exact qry_of (by simp [i64]) q2 o2
  · exact qry_of (by simp [i64]) q3 o3
  · exact qry_of (by simp [i64]) q4 o4
  · exact qry_of (by simp [i64]) q5 o5
theorem qryV : ∃ Q : Qr, Q.op = 2 ∧ ACall Tryd.prog 6 [aS sN, num 1, ints [4]] [] (.tup [aQ Q, num 0]) [] := qry_of (by simp [i64]) qv ov
theorem want_row {m : Int} (h0 : 0 ≤ m) (h6 : m < 6) : [[D.lit (.int .i64 3)], [D.lit (.int .i64 4)], [D.lit (.int .i64 5)], [D.lit (.int .i64 6)], [D.lit (.int .i64 9)], [D.lit (.int .i64 10)]].getD m.toNat [] = [D.lit (.int .i64 (wantQ m))] := by
  have : m = 0 ∨ m = 1 ∨ m = 2 ∨ m = 3 ∨ m = 4 ∨ m = 5 := by omega
  rcases this with rfl | rfl | rfl | rfl | rfl | rfl <;> rfl
theorem c_lawC (op : Int) (h0 : 0 ≤ op) (h1 : op ≤ 255) (more : Int) (m0 : 0 ≤ more) (m1 : more ≤ 255) : ACall Tryd.prog 3 [.d (.lit (.int .u8 op)), .d (.lit (.int .u8 more))] [] (boo true) [] := by
  refine enterq mixed ttok Tryd.func3 Tryd.ntmps3 Tryd.results3 ?_
  have w1 : IntKind.i64.wrap op = op := wrap_eq (by omega) (by omega)
  have w2 : IntKind.i64.wrap more = more := wrap_eq (by omega) (by omega)
  have e1 : op.tmod 23 = op % 23 := Int.tmod_eq_emod_of_nonneg h0
  have w3 : IntKind.i64.wrap (6 + op % 23) = 6 + op % 23 := wrap_eq (by omega) (by omega)
  simp -implicitDefEqProofs only [argT, ↓steps, push_cast, simprocAttr, tte]
  simp only [w1, w2, e1, w3]
  obtain ⟨k, hk⟩ : ∃ k, 6 + op % 23 = k := ⟨_, rfl⟩
  have hk6 : 6 ≤ k ∧ k ≤ 28 := by omega
  rw [hk]
  have w6 : IntKind.i64.wrap (k - 6) = k - 6 := wrap_eq (by omega) (by omega)
  have w14 : IntKind.i64.wrap (k - 14) = k - 14 := wrap_eq (by omega) (by omega)
  have w22 : IntKind.i64.wrap (IntKind.i64.wrap (8 + k) - 22) = k - 14 := by rw [wrap_eq (n := 8 + k) (by omega) (by omega), wrap_eq (by omega) (by omega)]; omega
  have w24 : IntKind.i64.wrap (IntKind.i64.wrap (10 + k) - 24) = k - 14 := by rw [wrap_eq (n := 10 + k) (by omega) (by omega), wrap_eq (by omega) (by omega)]; omega
  have w26 : IntKind.i64.wrap (k - 26) = k - 26 := wrap_eq (by omega) (by omega)
  simp only [w6, w14, w22, w24, w26]
  have hm : i64 more := by unfold i64; omega
  have e6 : more.tmod 6 = more % 6 := Int.tmod_eq_emod_of_nonneg m0
  obtain ⟨m, hmm⟩ : ∃ m, more % 6 = m := ⟨_, rfl⟩
  have hm6 : 0 ≤ m ∧ m < 6 := by omega
  obtain ⟨Q, hQ, hcq⟩ := qry hm6.1 hm6.2
  obtain ⟨V, hV, hcv⟩ := qryV
  rw [aQ_eq, hQ] at hcq
  rw [aQ_eq, hV] at hcv
  have hcs := c_sN
  refine bcase_intro (fun b0 => ?_) fun b0 => ?_
  · have b0' : k ≤ 10 := of_decide_eq_true b0
    obtain ⟨E, hE, hc⟩ := cov (XS := [1, k - 6, more]) (T := 1) (k := k) (by simp [i64]; omega) rfl (by
      have : k = 6 ∨ k = 7 ∨ k = 8 ∨ k = 9 ∨ k = 10 := by omega
      rcases this with rfl | rfl | rfl | rfl | rfl <;> rfl)
    rw [aE_eq, hE] at hc
    refine callq [[1], [], [], [1]] [] (hc) ?_
    simp -implicitDefEqProofs only [↓steps, push_cast, simprocAttr, tte]
    refine callq [[1]] [] (hcs) ?_
    simp -implicitDefEqProofs only [w2, e6, hmm, ↓steps, push_cast, simprocAttr, tte]
    refine callq [[6], [], [1]] [] (hcq) ?_
    simp -implicitDefEqProofs only [↓steps, push_cast, simprocAttr, tte]
    refine ⟨by omega, ?_⟩
    rw [want_row hm6.1 hm6.2]
    simp -implicitDefEqProofs only [↓steps, push_cast, simprocAttr, tte]
    refine ⟨by omega, ?_⟩
    refine callq [[6], [], [1]] [] (hcv) ?_
    simp -implicitDefEqProofs only [↓steps, push_cast, simprocAttr, tte]
    refine callq [[]] [] (c4) ?_
    simp -implicitDefEqProofs only [↓steps, push_cast, simprocAttr, tte]
    exact ret_d trivial rfl (by simp [ends])
  have b0' : ¬ k ≤ 10 := of_decide_eq_false b0
  refine bcase_intro (fun b1 => ?_) fun b1 => ?_
  · have b1' : k = 11 := eq_of_beq b1
    obtain ⟨E, hE, hc⟩ := cov (XS := [1, 5, more]) (T := 1) (k := k) (by simp [i64]; omega) rfl (by
      have : k = 11 := by omega
      rcases this with rfl <;> rfl)
    rw [aE_eq, hE] at hc
    refine callq [[1], [], [], [1]] [] (hc) ?_
    simp -implicitDefEqProofs only [↓steps, push_cast, simprocAttr, tte]
    refine callq [[1]] [] (hcs) ?_
    simp -implicitDefEqProofs only [w2, e6, hmm, ↓steps, push_cast, simprocAttr, tte]
    refine callq [[6], [], [1]] [] (hcq) ?_
    simp -implicitDefEqProofs only [↓steps, push_cast, simprocAttr, tte]
    refine ⟨by omega, ?_⟩
    rw [want_row hm6.1 hm6.2]
    simp -implicitDefEqProofs only [↓steps, push_cast, simprocAttr, tte]
    refine ⟨by omega, ?_⟩
    refine callq [[6], [], [1]] [] (hcv) ?_
    simp -implicitDefEqProofs only [↓steps, push_cast, simprocAttr, tte]
    refine callq [[]] [] (c4) ?_
    simp -implicitDefEqProofs only [↓steps, push_cast, simprocAttr, tte]
    exact ret_d trivial rfl (by simp [ends])
  have b1' : ¬ k = 11 := beq_eq_false_iff_ne.1 b1
  refine bcase_intro (fun b2 => ?_) fun b2 => ?_
  · have b2' : k = 12 := eq_of_beq b2
    obtain ⟨E, hE, hc⟩ := cov (XS := [1, 0, more]) (T := 3) (k := k) (by simp [i64]; omega) rfl (by
      have : k = 12 := by omega
      rcases this with rfl <;> rfl)
    rw [aE_eq, hE] at hc
    refine callq [[1], [], [], [1]] [] (hc) ?_
    simp -implicitDefEqProofs only [↓steps, push_cast, simprocAttr, tte]
    refine callq [[1]] [] (hcs) ?_
    simp -implicitDefEqProofs only [w2, e6, hmm, ↓steps, push_cast, simprocAttr, tte]
    refine callq [[6], [], [1]] [] (hcq) ?_
    simp -implicitDefEqProofs only [↓steps, push_cast, simprocAttr, tte]
    refine ⟨by omega, ?_⟩
    rw [want_row hm6.1 hm6.2]
    simp -implicitDefEqProofs only [↓steps, push_cast, simprocAttr, tte]
    refine ⟨by omega, ?_⟩
    refine callq [[6], [], [1]] [] (hcv) ?_
    simp -implicitDefEqProofs only [↓steps, push_cast, simprocAttr, tte]
    refine callq [[]] [] (c4) ?_
    simp -implicitDefEqProofs only [↓steps, push_cast, simprocAttr, tte]
    exact ret_d trivial rfl (by simp [ends])
  have b2' : ¬ k = 12 := beq_eq_false_iff_ne.1 b2
  refine bcase_intro (fun b3 => ?_) fun b3 => ?_
  · have b3' : k = 13 := eq_of_beq b3
    obtain ⟨E, hE, hc⟩ := cov (XS := [1, 6, more]) (T := 1) (k := k) (by simp [i64]; omega) rfl (by
      have : k = 13 := by omega
      rcases this with rfl <;> rfl)
    rw [aE_eq, hE] at hc
    refine callq [[1], [], [], [1]] [] (hc) ?_
    simp -implicitDefEqProofs only [↓steps, push_cast, simprocAttr, tte]
    refine callq [[1]] [] (hcs) ?_
    simp -implicitDefEqProofs only [w2, e6, hmm, ↓steps, push_cast, simprocAttr, tte]
    refine callq [[6], [], [1]] [] (hcq) ?_
    simp -implicitDefEqProofs only [↓steps, push_cast, simprocAttr, tte]
    refine ⟨by omega, ?_⟩
    rw [want_row hm6.1 hm6.2]
    simp -implicitDefEqProofs only [↓steps, push_cast, simprocAttr, tte]
    refine ⟨by omega, ?_⟩
    refine callq [[6], [], [1]] [] (hcv) ?_
    simp -implicitDefEqProofs only [↓steps, push_cast, simprocAttr, tte]
    refine callq [[]] [] (c4) ?_
    simp -implicitDefEqProofs only [↓steps, push_cast, simprocAttr, tte]
    exact ret_d trivial rfl (by simp [ends])
  have b3' : ¬ k = 13 := beq_eq_false_iff_ne.1 b3
  refine bcase_intro (fun b4 => ?_) fun b4 => ?_
  · have b4' : k ≤ 20 := of_decide_eq_true b4
    obtain ⟨E, hE, hc⟩ := cov (XS := [1, k - 14, more]) (T := 2) (k := k) (by simp [i64]; omega) rfl (by
      have : k = 14 ∨ k = 15 ∨ k = 16 ∨ k = 17 ∨ k = 18 ∨ k = 19 ∨ k = 20 := by omega
      rcases this with rfl | rfl | rfl | rfl | rfl | rfl | rfl <;> rfl)
    rw [aE_eq, hE] at hc
    refine callq [[1], [], [], [1]] [] (hc) ?_
    simp -implicitDefEqProofs only [↓steps, push_cast, simprocAttr, tte]
    refine callq [[1]] [] (hcs) ?_
    simp -implicitDefEqProofs only [w2, e6, hmm, ↓steps, push_cast, simprocAttr, tte]
    refine callq [[6], [], [1]] [] (hcq) ?_
    simp -implicitDefEqProofs only [↓steps, push_cast, simprocAttr, tte]
    refine ⟨by omega, ?_⟩
    rw [want_row hm6.1 hm6.2]
    simp -implicitDefEqProofs only [↓steps, push_cast, simprocAttr, tte]
    refine ⟨by omega, ?_⟩
    refine callq [[6], [], [1]] [] (hcv) ?_
    simp -implicitDefEqProofs only [↓steps, push_cast, simprocAttr, tte]
    refine callq [[]] [] (c4) ?_
    simp -implicitDefEqProofs only [↓steps, push_cast, simprocAttr, tte]
    exact ret_d trivial rfl (by simp [ends])
  have b4' : ¬ k ≤ 20 := of_decide_eq_false b4
  refine bcase_intro (fun b5 => ?_) fun b5 => ?_
  · have b5' : k = 21 := eq_of_beq b5
    obtain ⟨E, hE, hc⟩ := cov (XS := [1, 7, more]) (T := 2) (k := k) (by simp [i64]; omega) rfl (by
      have : k = 21 := by omega
      rcases this with rfl <;> rfl)
    rw [aE_eq, hE] at hc
    refine callq [[1], [], [], [1]] [] (hc) ?_
    simp -implicitDefEqProofs only [↓steps, push_cast, simprocAttr, tte]
    refine callq [[1]] [] (hcs) ?_
    simp -implicitDefEqProofs only [w2, e6, hmm, ↓steps, push_cast, simprocAttr, tte]
    refine callq [[6], [], [1]] [] (hcq) ?_
    simp -implicitDefEqProofs only [↓steps, push_cast, simprocAttr, tte]
    refine ⟨by omega, ?_⟩
    rw [want_row hm6.1 hm6.2]
    simp -implicitDefEqProofs only [↓steps, push_cast, simprocAttr, tte]
    refine ⟨by omega, ?_⟩
    refine callq [[6], [], [1]] [] (hcv) ?_
    simp -implicitDefEqProofs only [↓steps, push_cast, simprocAttr, tte]
    refine callq [[]] [] (c4) ?_
    simp -implicitDefEqProofs only [↓steps, push_cast, simprocAttr, tte]
    exact ret_d trivial rfl (by simp [ends])
  have b5' : ¬ k = 21 := beq_eq_false_iff_ne.1 b5
  refine bcase_intro (fun b6 => ?_) fun b6 => ?_
  · have b6' : k ≤ 23 := of_decide_eq_true b6
    obtain ⟨E, hE, hc⟩ := cov (XS := [1, k - 14, more]) (T := 2) (k := k) (by simp [i64]; omega) rfl (by
      have : k = 22 ∨ k = 23 := by omega
      rcases this with rfl | rfl <;> rfl)
    rw [aE_eq, hE] at hc
    refine callq [[1], [], [], [1]] [] (hc) ?_
    simp -implicitDefEqProofs only [↓steps, push_cast, simprocAttr, tte]
    refine callq [[1]] [] (hcs) ?_
    simp -implicitDefEqProofs only [w2, e6, hmm, ↓steps, push_cast, simprocAttr, tte]
    refine callq [[6], [], [1]] [] (hcq) ?_
    simp -implicitDefEqProofs only [↓steps, push_cast, simprocAttr, tte]
    refine ⟨by omega, ?_⟩
    rw [want_row hm6.1 hm6.2]
    simp -implicitDefEqProofs only [↓steps, push_cast, simprocAttr, tte]
    refine ⟨by omega, ?_⟩
    refine callq [[6], [], [1]] [] (hcv) ?_
    simp -implicitDefEqProofs only [↓steps, push_cast, simprocAttr, tte]
    refine callq [[]] [] (c4) ?_
    simp -implicitDefEqProofs only [↓steps, push_cast, simprocAttr, tte]
    exact ret_d trivial rfl (by simp [ends])
  have b6' : ¬ k ≤ 23 := of_decide_eq_false b6
  refine bcase_intro (fun b7 => ?_) fun b7 => ?_
  · have b7' : k ≤ 25 := of_decide_eq_true b7
    obtain ⟨E, hE, hc⟩ := cov (XS := [1, k - 14, more]) (T := 2) (k := k) (by simp [i64]; omega) rfl (by
      have : k = 24 ∨ k = 25 := by omega
      rcases this with rfl | rfl <;> rfl)
    rw [aE_eq, hE] at hc
    refine callq [[1], [], [], [1]] [] (hc) ?_
    simp -implicitDefEqProofs only [↓steps, push_cast, simprocAttr, tte]
    refine callq [[1]] [] (hcs) ?_
    simp -implicitDefEqProofs only [w2, e6, hmm, ↓steps, push_cast, simprocAttr, tte]
    refine callq [[6], [], [1]] [] (hcq) ?_
    simp -implicitDefEqProofs only [↓steps, push_cast, simprocAttr, tte]
    refine ⟨by omega, ?_⟩
    rw [want_row hm6.1 hm6.2]
    simp -implicitDefEqProofs only [↓steps, push_cast, simprocAttr, tte]
    refine ⟨by omega, ?_⟩
    refine callq [[6], [], [1]] [] (hcv) ?_
    simp -implicitDefEqProofs only [↓steps, push_cast, simprocAttr, tte]
    refine callq [[]] [] (c4) ?_
    simp -implicitDefEqProofs only [↓steps, push_cast, simprocAttr, tte]
    exact ret_d trivial rfl (by simp [ends])
  have b7' : ¬ k ≤ 25 := of_decide_eq_false b7
  obtain ⟨E, hE, hc⟩ := cov (XS := [1, 12, k - 26, more]) (T := 2) (k := k) (by simp [i64]; omega) rfl (by
    have : k = 26 ∨ k = 27 ∨ k = 28 := by omega
    rcases this with rfl | rfl | rfl <;> rfl)
  rw [aE_eq, hE] at hc
  refine callq [[1], [], [], [1]] [] (hc) ?_
  simp -implicitDefEqProofs only [↓steps, push_cast, simprocAttr, tte]
  refine callq [[1]] [] (hcs) ?_
  simp -implicitDefEqProofs only [w2, e6, hmm, ↓steps, push_cast, simprocAttr, tte]
  refine callq [[6], [], [1]] [] (hcq) ?_
  simp -implicitDefEqProofs only [↓steps, push_cast, simprocAttr, tte]
  refine ⟨by omega, ?_⟩
  rw [want_row hm6.1 hm6.2]
  simp -implicitDefEqProofs only [↓steps, push_cast, simprocAttr, tte]
  refine ⟨by omega, ?_⟩
  refine callq [[6], [], [1]] [] (hcv) ?_
  simp -implicitDefEqProofs only [↓steps, push_cast, simprocAttr, tte]
  refine callq [[]] [] (c4) ?_
  simp -implicitDefEqProofs only [↓steps, push_cast, simprocAttr, tte]
  exact ret_d trivial rfl (by simp [ends])
end Go.Proofs.YtampbaaiddbacaaDoor
