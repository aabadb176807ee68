/- Histories and their anomalies (part Wl) -/
import Derived.Test.YthknpcpddlaapaaWk
set_option linter.all false
namespace Go.Proofs.Ythknpcpddlaapaa
open Go.Am
attribute [local simp, local push_cast] num boo str ints rEv aEv rTk aTk rEg aEg aH vEv vecI vecH
set_option linter.unusedVariables false
set_option maxRecDepth 100000
set_option maxHeartbeats 4000000
/-! The example of the chapter. -/
def skA (n : Nat) : List Hv := (List.range n).flatMap fun (t : Nat) => [⟨5, t, 0, 0, 0⟩, ⟨1, t, 0, 0, -1⟩, ⟨1, t, 1, 0, -1⟩]
def skB (n : Nat) : List Hv := skA 2 ++ (List.range n).flatMap fun (t : Nat) => [⟨2, t, t, 1, 0⟩, ⟨3, t, 0, 0, 0⟩]
theorem skA_succ (n : Nat) : skA (n + 1) = skA n ++ [⟨5, n, 0, 0, 0⟩, ⟨1, n, 0, 0, -1⟩, ⟨1, n, 1, 0, -1⟩] := by unfold skA; rw [List.range_succ, List.flatMap_append]; simp
theorem skB_succ (n : Nat) : skB (n + 1) = skB n ++ [⟨2, n, n, 1, 0⟩, ⟨3, n, 0, 0, 0⟩] := by unfold skB; rw [List.range_succ, List.flatMap_append, ← List.append_assoc]; simp
theorem skA_len (n : Nat) : (skA n).length = 3 * n := by
  induction n with
  | zero => rfl
  | succ n ih => rw [skA_succ, List.length_append, ih]; simp; omega
theorem skB_len (n : Nat) : (skB n).length = 6 + 2 * n := by
  induction n with
  | zero => rfl
  | succ n ih => rw [skB_succ, List.length_append, ih]; simp; omega
theorem skB_all : skB 2 = skewE := rfl
theorem c_skew : ACall Try.prog 30 [] [] (aH [0, 0] skewE) [] := by
  refine enterq mixed ttok Try.func30 Try.ntmps30 Try.results30 ?_
  obtain ⟨R, hR⟩ : ∃ R, R = aH [0, 0] skewE := ⟨_, rfl⟩
  rw [← hR]
  simp -implicitDefEqProofs only [argT, ↓steps, push_cast, simprocAttr, tte]
  refine loop_gen mixed ttok (fun n : Nat => (⟨[(2, .d (.lit (.int .i64 n))), (1, .ptr 1 0), (0, .ptr 0 0)], [(1, .var [ints [0, 0], .vec 500 (skA n).length]), (500, vecH (skA n)), (0, .var [.snil, .snil])]⟩ : SL)) (fun n => 2 - n) (fun n => n ≤ 2) 0 (Nat.zero_le _) ?_ ?_
  · refine (Weak.frzCellL 1 0 1 rfl rfl rfl (by simp) rfl).trans ((Weak.nilCellL 1 1 500 58 5 rfl rfl rfl).trans ?_)
    exact Weak.keepL (by simp [skA, ends]) (by simp [skA, rowsOf, rI, ends]) (by simp [ends])
  intro I hI n hn
  have hl := skA_len n
  simp -implicitDefEqProofs only [↓steps, push_cast, simprocAttr, tte]
  refine bcase_intro (fun h => ?_) fun h => ?_
  · simp only [decide_eq_true_eq] at h
    have h' : n < 2 := by omega
    have hw := wrap_succ h' (by omega)
    have hsu := skA_succ n
    have hap : ∀ l : List Hv, rowsOf rEv l ++ [[D.lit (.int .i64 5), D.lit (.int .i64 n), D.lit (.int .i64 0), D.lit (.int .i64 0), D.lit (.int .i64 0)], [D.lit (.int .i64 1), D.lit (.int .i64 n), D.lit (.int .i64 0), D.lit (.int .i64 0), D.lit (.int .i64 (-1))], [D.lit (.int .i64 1), D.lit (.int .i64 n), D.lit (.int .i64 1), D.lit (.int .i64 0), D.lit (.int .i64 (-1))]] = rowsOf rEv (l ++ [⟨5, n, 0, 0, 0⟩, ⟨1, n, 0, 0, -1⟩, ⟨1, n, 1, 0, -1⟩]) := fun l => by simp [rowsOf, rEv]
    have hl1 := skA_len (n + 1)
    simp only [hap, ← hsu]
    refine ⟨by omega, ?_⟩
    exact gen_again hI (n + 1) h' (by show 2 - (n + 1) < 2 - n; omega) (Weak.keepL (by simp [hw, ends]) (by simp [hl, hl1, ends]; omega) (by simp [ends]))
  simp only [decide_eq_false_iff_not] at h
  obtain rfl : n = 2 := by omega
  clear hI I
  refine loop_gen mixed ttok (fun n : Nat => (⟨[(3, .d (.lit (.int .i64 n))), (1, .ptr 1 0), (0, .ptr 0 0)], [(1, .var [ints [0, 0], .vec 500 (skB n).length]), (500, vecH (skB n)), (0, .var [.snil, .snil])]⟩ : SL)) (fun n => 2 - n) (fun n => n ≤ 2) 0 (Nat.zero_le _) ?_ ?_
  · have e0 : skB 0 = skA 2 := List.append_nil _
    simp only [e0]
    exact Weak.keepL (by simp [ends]) (by simp [rowsOf, rI, ends]) (by simp [ends])
  intro I hI n hn
  have hl := skB_len n
  simp -implicitDefEqProofs only [↓steps, push_cast, simprocAttr, tte]
  refine bcase_intro (fun h => ?_) fun h => ?_
  · simp only [decide_eq_true_eq] at h
    have h' : n < 2 := by omega
    have hw := wrap_succ h' (by omega)
    have hsu := skB_succ n
    have hap : ∀ l : List Hv, rowsOf rEv l ++ [[D.lit (.int .i64 2), D.lit (.int .i64 n), D.lit (.int .i64 n), D.lit (.int .i64 1), D.lit (.int .i64 0)], [D.lit (.int .i64 3), D.lit (.int .i64 n), D.lit (.int .i64 0), D.lit (.int .i64 0), D.lit (.int .i64 0)]] = rowsOf rEv (l ++ [⟨2, n, n, 1, 0⟩, ⟨3, n, 0, 0, 0⟩]) := fun l => by simp [rowsOf, rEv]
    have hl1 := skB_len (n + 1)
    simp only [hap, ← hsu]
    refine ⟨by omega, ?_⟩
    exact gen_again hI (n + 1) h' (by show 2 - (n + 1) < 2 - n; omega) (Weak.keepL (by simp [hw, ends]) (by simp [hl, hl1, ends]; omega) (by simp [ends]))
  simp only [decide_eq_false_iff_not] at h
  obtain rfl : n = 2 := by omega
  rw [skB_all]
  subst hR
  refine retx_of [1, 5] rfl trivial ?_ rfl rfl trivial ?_
  · simp [rowsOf_length]
  · simp [ends]
end Go.Proofs.Ythknpcpddlaapaa
namespace Go.Proofs.Ythknpcpddlaapaa
open Go.Am
attribute [local simp, local push_cast] num boo str ints rEv aEv rTk aTk rEg aEg aH vEv vecI vecH tapeO
set_option linter.unusedVariables false
set_option maxRecDepth 100000
set_option maxHeartbeats 4000000
/-! The laws of levels and of serial orders. -/
theorem c_awake : ACall Try.prog 11 [] [] (boo true) [] := by
  refine enterq mixed ttok Try.func11 Try.ntmps11 Try.results11 ?_
  have hA := c_Anomalies [0, 0] skewE skew_valid
  have hC := c_Circle [0, 0] skewE skew_valid
  have h2 := c_check 2 [0, 0] skewE skew_valid
  have h3 := c_check 3 [0, 0] skewE skew_valid
  have hl : ([0, 0] : List Int).length = 2 := rfl
  have hcm : circM 2 skewE = some [0, 1] := skew_circ
  have t7 : toI [0, 1] = [0, 1] := rfl
  have k2 : checkM 2 [7] = true := by decide
  have k3 : checkM 3 [7] = false := by decide
  rw [hl, skew_anom] at hA
  rw [hl, hcm] at hC
  simp only [t7] at hC
  rw [hl, skew_anom, k2] at h2
  rw [hl, skew_anom, k3] at h3
  have i1 := c_ints [7] [7] (by decide) (by decide)
  have i2 := c_ints [0, 1] [0, 1] (by decide) (by decide)
  rw [beq_self_eq_true] at i1 i2
  simp -implicitDefEqProofs only [argT, ↓steps, push_cast, simprocAttr, tte]
  refine callq [] [] (c_skew) ?_
  simp -implicitDefEqProofs only [↓steps, push_cast, simprocAttr, tte]
  refine callq [[1, 5]] [] (hA) ?_
  simp -implicitDefEqProofs only [↓steps, push_cast, simprocAttr, tte]
  refine callq [] [] (c_skew) ?_
  simp -implicitDefEqProofs only [↓steps, push_cast, simprocAttr, tte]
  refine callq [[1, 5]] [] (hC) ?_
  simp -implicitDefEqProofs only [↓steps, push_cast, simprocAttr, tte]
  refine callq [[1], [1]] [] (i1) ?_
  simp -implicitDefEqProofs only [↓steps, push_cast, simprocAttr, tte]
  refine callq [[1], [1]] [] (i2) ?_
  simp -implicitDefEqProofs only [↓steps, push_cast, simprocAttr, tte]
  refine callq [] [] (c_skew) ?_
  simp -implicitDefEqProofs only [↓steps, push_cast, simprocAttr, tte]
  refine callq [[], [1, 5]] [] (h2) ?_
  simp -implicitDefEqProofs only [↓steps, push_cast, simprocAttr, tte]
  refine callq [] [] (c_skew) ?_
  simp -implicitDefEqProofs only [↓steps, push_cast, simprocAttr, tte]
  refine callq [[], [1, 5]] [] (h3) ?_
  simp -implicitDefEqProofs only [↓steps, push_cast, simprocAttr, tte]
  exact ret_d trivial rfl (by simp [ends])
theorem made_ok {xs : List Int} (hx : TapeF xs) : validH (madeSt xs) (madeH xs).evs = true := by
  have hk := keysN_range xs 0
  have hn := nN_range xs (0 + 1 + keysN xs 0)
  have ht := tN_range xs (0 + 1 + keysN xs 0 + 1)
  have hl : (madeSt xs).length = keysN xs 0 := startL_len ..
  exact made_valid xs (madeSt xs) (nN xs (0 + 1 + keysN xs 0)) (tN xs (0 + 1 + keysN xs 0 + 1)) (0 + 1 + keysN xs 0 + 1 + 1) (by omega) hn.2 (by omega) (by omega) ht.2
theorem tapeF_take {t : List Int} (h : ∀ x ∈ t, i64 x) : TapeF (t.take 2000) := ⟨by simp; omega, fun x hx => h x (List.mem_of_mem_take hx)⟩
theorem c_lawL (t : List Int) (ht : ∀ x ∈ t, i64 x) : ACall Try.prog 4 [ints t] [] (boo true) [] := by
  refine enterq mixed ttok Try.func4 Try.ntmps4 Try.results4 ?_
  have hx := tapeF_take ht
  simp -implicitDefEqProofs only [argT, ↓steps, push_cast, simprocAttr, tte]
  refine callq [[1]] [(1000, 13)] (c_new t) ?_
  simp -implicitDefEqProofs only [↓steps, push_cast, simprocAttr, tte]
  have hm := c_made hx
  have hok := made_ok hx
  generalize hxs : t.take 2000 = xs at hm hok hx ⊢
  refine callq [[]] [(1000, 13)] (hm) ?_
  simp -implicitDefEqProofs only [↓steps, push_cast, simprocAttr, tte]
  generalize madeSt xs = start at hok ⊢
  generalize (madeH xs).evs = evs at hok ⊢
  refine callq [[1, 5]] [] (c_Anomalies start evs hok) ?_
  simp -implicitDefEqProofs only [↓steps, push_cast, simprocAttr, tte]
  refine callq [[], [1, 5]] [] (c_check 1 start evs hok) ?_
  simp -implicitDefEqProofs only [↓steps, push_cast, simprocAttr, tte]
  refine callq [[], [1, 5]] [] (c_check 2 start evs hok) ?_
  simp -implicitDefEqProofs only [↓steps, push_cast, simprocAttr, tte]
  refine callq [[], [1, 5]] [] (c_check 3 start evs hok) ?_
  simp -implicitDefEqProofs only [↓steps, push_cast, simprocAttr, tte]
  refine ⟨drawx_intro (by kernel_rfl), ?_⟩
  refine callq [[1, 5]] [] (c_Anomaly start evs hok) ?_
  simp -implicitDefEqProofs only [↓steps, push_cast, simprocAttr, tte]
  obtain ⟨l1, l2, l3⟩ := levels_anom start.length evs
  have hd : (default : Int) = 0 := rfl
  generalize anomM start.length evs = L at l1 l2 l3 ⊢
  rw [hd]
  cases L with
  | nil =>
    have k1 : checkM 1 [] = true := by decide
    have k2 : checkM 2 [] = true := by decide
    have k3 : checkM 3 [] = true := by decide
    have e1 : ([] : List Int).getD 0 0 = 0 := rfl
    simp -implicitDefEqProofs only [k1, k2, k3, e1, ↓steps, push_cast, simprocAttr, tte]
    refine callq [] [] (c_awake) ?_
    simp -implicitDefEqProofs only [↓steps, push_cast, simprocAttr, tte]
    exact ret_d trivial rfl (by simp [ends])
  | cons x l =>
    have l3 := l3 (by simp)
    have e0 : (x :: l).getD 0 0 = x := rfl
    have k3 : checkM 3 (x :: l) = false := by unfold checkM; rw [if_neg (by decide), if_neg (by decide), if_pos rfl]; rfl
    have hlen : (((x :: l).length : Int) == 0) = false := beq_eq_false_iff_ne.2 (by simp; omega)
    have hgt : decide ((((x :: l).length : Nat) : Int) > 0) = true := decide_eq_true (by simp)
    rw [e0] at l3
    rw [k3, hlen, hgt, e0]
    generalize checkM 1 (x :: l) = c1 at l1 l3 ⊢
    generalize checkM 2 (x :: l) = c2 at l1 ⊢
    rw [← l3]
    have hout : ∀ b : Bool, (b == b) = true := fun b => beq_self_eq_true b
    refine bcase_intro (fun a => ?_) fun a => ?_
    · have := l1 a
      simp -implicitDefEqProofs only [this, Bool.not_true, Bool.not_false, hout, ↓steps, push_cast, simprocAttr, tte]
      refine ⟨by omega, ?_⟩
      refine callq [] [] (c_awake) ?_
      simp -implicitDefEqProofs only [↓steps, push_cast, simprocAttr, tte]
      exact ret_d trivial rfl (by simp [ends])
    · simp -implicitDefEqProofs only [Bool.not_false, hout, ↓steps, push_cast, simprocAttr, tte]
      refine ⟨by omega, ?_⟩
      refine callq [] [] (c_awake) ?_
      simp -implicitDefEqProofs only [↓steps, push_cast, simprocAttr, tte]
      exact ret_d trivial rfl (by simp [ends])
end Go.Proofs.Ythknpcpddlaapaa
