/- Histories and their anomalies (part Wd) -/
import Derived.Test.YthknpcpddlaapaaWc
set_option linter.all false
namespace Go.Proofs.Ythknpcpddlaapaa
open Go.Am
attribute [local simp, local push_cast] num boo str ints rEv aEv rTk aTk rEg aEg aH vEv vecI aDone boos_ren d5_take d5_drop d5_len vTk rTk_snoc vecE rEg_snoc aG gC_len gC_take gC_drop gC_closed gC_ren cellO_closed cellO_ren
set_option linter.unusedVariables false
set_option maxRecDepth 100000
set_option maxHeartbeats 4000000
/-! The first circle; whether one is single; what is odd; what is lost. -/
theorem runC_first : ∀ (cs : List (List Nat)) (s : Option (List Nat)), (runC step1 cs s).2 = match cs.head? with | some c => some c | none => s
  | [], s => rfl
  | c :: cs, s => rfl
def circ1 (p a : Gr) : Option (List Nat) := (circlesC (fun x y => p x y || a x y)).head?
theorem c_circle (p a : Gr) : ACall Try.prog 42 [aG p a] [] (cellO (circ1 p a)) [] := by
  refine enterq mixed ttok Try.func42 Try.ntmps42 Try.results42 ?_
  generalize hr : cellO (circ1 p a) = R
  have hc := c_circles1 p a none
  have h1 : (runC step1 (circlesC (fun x y => p x y || a x y)) none).2 = circ1 p a := by
    rw [runC_first]; unfold circ1; cases (circlesC (fun x y => p x y || a x y)).head? <;> rfl
  rw [h1] at hc
  simp -implicitDefEqProofs only [argT, ↓steps, push_cast, simprocAttr, tte]
  have h0 : cellO none = .snil := rfl
  rw [h0] at hc
  refine callq [[], [], []] [(1000, 3)] (hc) ?_ (hz := by simp only [frzAL, frzA, frz_gC, frz_boos, List.cons_append, List.nil_append, List.append_nil]; exact rfl) (hgs := by simp [rowsOf_length] <;> omega) (hargs := by simp [ends, bs]) (hcl := by simp [ends, bs])
  simp -implicitDefEqProofs only [↓steps, push_cast, simprocAttr, tte]
  exact ret_same trivial hr (cellO_closed _ _) trivial (by simp [ends])
def sing1 (p a : Gr) : Bool := (circlesC (fun x y => p x y || a x y)).any (anyA p a)
theorem c_single (p a : Gr) : ACall Try.prog 47 [aG p a] [] (boo (sing1 p a)) [] := by
  refine enterq mixed ttok Try.func47 Try.ntmps47 Try.results47 ?_
  generalize hr : boo (sing1 p a) = R
  have hc := c_circles2 p a false
  rw [runC_single, Bool.false_or] at hc
  simp -implicitDefEqProofs only [argT, ↓steps, push_cast, simprocAttr, tte]
  refine callq [[], [], []] [(1000, 1), (1001, 3)] (hc) ?_ (hz := by simp only [frzAL, frzA, frz_gC, frz_boos, List.cons_append, List.nil_append, List.append_nil]; exact rfl) (hgs := by simp [rowsOf_length] <;> omega) (hargs := by simp [ends, bs]) (hcl := by simp [ends, bs])
  simp -implicitDefEqProofs only [↓steps, push_cast, simprocAttr, tte]
  exact ret_d trivial (by rw [← hr]; rfl) (by simp [ends])
def abE (evs : List Hv) (x : Hv) : Bool := !oddSkip evs x && !doneM evs x.frm
def btE (evs : List Hv) (x : Hv) : Bool := !oddSkip evs x && (match evs.reverse.find? (ownOf x.frm x.key) with | some w => w.value != x.value | none => false)
theorem any_take (p : Hv → Bool) {l : List Hv} {n : Nat} (h : n < l.length) : (l.take (n + 1)).any p = ((l.take n).any p || p (l.getD n default)) := by
  rw [take_snoc _ _ h, List.any_append]; simp
theorem c_odd (start : List Int) (evs : List Hv) (hl : evs.length ≤ 100000) (hv : TxOk evs) (hf : FrOk evs) :
    ACall Try.prog 45 [aH start evs] [] (.tup [boo (abortedM evs), boo (betweenM evs)]) [] := by
  refine enterq mixed ttok Try.func45 Try.ntmps45 Try.results45 ?_
  generalize hr : A.tup [boo (abortedM evs), boo (betweenM evs)] = R
  have hwl : IntKind.i64.wrap ((evs.length : Int) - 1) = (evs.length : Int) - 1 := wrap_eq (by omega) (by omega)
  simp -implicitDefEqProofs only [argT, ↓steps, push_cast, simprocAttr, tte]
  refine callq [[1, 5]] [] (c_done start evs (by omega) hv) ?_
  simp -implicitDefEqProofs only [↓steps, push_cast, simprocAttr, tte]
  refine loop_gen mixed ttok (fun n : Nat => (⟨[(14, .d (.lit (.int .i64 n))), (13, .d (.lit (.int .i64 evs.length))), (12, .d (.sl 5 (rowsOf rEv evs))), (4, .ptr 4 0), (3, boo ((evs.take n).any (btE evs))), (2, boo ((evs.take n).any (abE evs))), (1, .ptr 1 0)], [(4, .var (boos (done5 evs))), (1, .var [ints start, .d (.sl 5 (rowsOf rEv evs))])]⟩ : SL)) (fun n => evs.length - n)
    (fun n => n ≤ evs.length) 0 (Nat.zero_le _) ?_ ?_
  · have hclo := fun g => boos_closed g (done5 evs)
    exact Weak.keepL (by simp [ends]) (by simp [hclo, ends]) (by simp [ends])
  intro I hI n hn
  have hclo := fun g => boos_closed g (done5 evs)
  simp -implicitDefEqProofs only [↓steps, push_cast, simprocAttr, tte]
  refine bcase_intro (fun h => ?_) fun h => ?_
  · simp only [decide_eq_true_eq] at h
    have h' : n < evs.length := by omega
    have hw := wrap_succ h' (by omega)
    have htx := hv _ (getD_mem h')
    have hfr := hf _ (getD_mem h')
    have ha := any_take (abE evs) h'
    have hb := any_take (btE evs) h'
    refine ⟨⟨by omega, h⟩, ?_⟩
    generalize hx : evs.getD n default = x at htx hfr ha hb ⊢
    generalize (evs.take n).any (abE evs) = AB at ha ⊢
    generalize (evs.take n).any (btE evs) = BT at hb ⊢
    have hat : (boos (done5 evs))[x.tx.toNat * 1]? = some (.d (.lit (.bool (doneM evs x.tx)))) := by
      rw [Nat.mul_one, boos_at (by rw [done5_len]; omega), done5_at evs htx.1 htx.2]
    have hsk : oddSkip evs x = ((((x.kind != 1) || !doneM evs x.tx) || decide (x.frm < 0)) || (x.frm == x.tx)) := rfl
    have hskip : oddSkip evs x = true → (evs.take (n + 1)).any (abE evs) = AB ∧ (evs.take (n + 1)).any (btE evs) = BT := fun q => by
      rw [ha, hb]; unfold abE btE; rw [q]; simp
    refine bcase_intro (fun a => ?_) fun a => ?_
    · obtain ⟨e1, e2⟩ := hskip (by rw [hsk, a]; simp)
      exact gen_again hI (n + 1) h' (by show evs.length - (n + 1) < evs.length - n; omega) (Weak.keepL (by simp [hw, e1, e2, ends]) (by simp [hclo, ends]) (by simp [ends]))
    refine ⟨htx, ?_⟩
    simp -implicitDefEqProofs only [hat, ↓steps, push_cast, simprocAttr, tte]
    refine bcase_intro (fun b => ?_) fun b => ?_
    · obtain ⟨e1, e2⟩ := hskip (by rw [hsk, b]; simp)
      exact gen_again hI (n + 1) h' (by show evs.length - (n + 1) < evs.length - n; omega) (Weak.keepL (by simp [hw, e1, e2, ends]) (by simp [hclo, ends]) (by simp [ends]))
    refine bcase_intro (fun c => ?_) fun c => ?_
    · obtain ⟨e1, e2⟩ := hskip (by rw [hsk, c]; simp)
      exact gen_again hI (n + 1) h' (by show evs.length - (n + 1) < evs.length - n; omega) (Weak.keepL (by simp [hw, e1, e2, ends]) (by simp [hclo, ends]) (by simp [ends]))
    refine bcase_intro (fun d => ?_) fun d => ?_
    · obtain ⟨e1, e2⟩ := hskip (by rw [hsk, d]; simp)
      exact gen_again hI (n + 1) h' (by show evs.length - (n + 1) < evs.length - n; omega) (Weak.keepL (by simp [hw, e1, e2, ends]) (by simp [hclo, ends]) (by simp [ends]))
    have hno : oddSkip evs x = false := by rw [hsk, a, b, c, d]; rfl
    have hk1 : x.kind = 1 := by simpa using a
    have hfr := hfr hk1
    have d0 : 0 ≤ x.frm := by simpa using c
    have hat2 : (boos (done5 evs))[x.frm.toNat * 1]? = some (.d (.lit (.bool (doneM evs x.frm)))) := by
      rw [Nat.mul_one, boos_at (by rw [done5_len]; omega), done5_at evs d0 hfr]
    have hab : abE evs x = !doneM evs x.frm := by unfold abE; rw [hno]; rfl
    have hbt : btE evs x = (match evs.reverse.find? (ownOf x.frm x.key) with | some w => w.value != x.value | none => false) := by unfold btE; rw [hno]; rfl
    rw [hab] at ha
    rw [hbt] at hb
    have hlb : IntKind.i64.wrap ((evs.length : Int) - 1) = (evs.length : Int) - 1 := hwl
    generalize hW : (evs.take (n + 1)).any (abE evs) = W at ha
    simp only [hwl]
    refine bcase_intro (fun q => ?ga) fun q => ⟨⟨d0, hfr⟩, ?gb⟩
    case' ga => rw [q, Bool.true_or] at ha
    case' gb =>
      rw [q, Bool.false_or] at ha
      simp -implicitDefEqProofs only [hat2, hwl, ↓steps, push_cast, simprocAttr, tte]
    all_goals
      refine loop_gen mixed ttok (fun m : Nat => (⟨[(7, .d (.lit (.int .i64 ((m : Int) - 1)))), (14, .d (.lit (.int .i64 n))), (13, .d (.lit (.int .i64 evs.length))), (12, .d (.sl 5 (rowsOf rEv evs))), (6, .ptr 6 0), (4, .ptr 4 0), (3, boo BT), (2, boo W), (1, .ptr 1 0)], [(6, vEv x), (4, .var (boos (done5 evs))), (1, .var [ints start, .d (.sl 5 (rowsOf rEv evs))])]⟩ : SL)) (fun m => m)
        (fun m => m ≤ evs.length ∧ ∀ j, m ≤ j → j < evs.length → ownOf x.frm x.key (evs.getD j default) = false) evs.length ⟨Nat.le_refl _, fun j h1 h2 => absurd h1 (by omega)⟩ ?_ ?_
      · exact Weak.keepL (by simp [ha, ends]) (by simp [hclo, ends]) (by simp [ends])
      intro J hJ m ⟨hm, hi⟩
      simp -implicitDefEqProofs only [↓steps, push_cast, simprocAttr, tte]
      refine bcase_intro (fun g => ?_) fun g => ?_
      · simp only [decide_eq_true_eq] at g
        have e1 : ((m : Int) - 1).toNat = m - 1 := by omega
        have hwm : IntKind.i64.wrap ((m : Int) - 1 - 1) = ((m - 1 : Nat) : Int) - 1 := by rw [wrap_eq (by omega) (by omega)]; omega
        simp only [e1]
        have hhit := rev_hit (p := ownOf x.frm x.key) (l := evs) (k := m - 1) (by omega) fun j h2 h3 => hi j (by omega) h3
        have hown : ownOf x.frm x.key (evs.getD (m - 1) default) = ((((evs.getD (m - 1) default).kind == 2) && ((evs.getD (m - 1) default).key == x.key)) && ((evs.getD (m - 1) default).tx == x.frm)) := rfl
        have hag : ∀ c, ownOf x.frm x.key (evs.getD (m - 1) default) = c → c = false → ∀ j, m - 1 ≤ j → j < evs.length → ownOf x.frm x.key (evs.getD j default) = false := fun c h1 h2 j h3 h4 => by
          by_cases h5 : j = m - 1
          · rw [h5, h1, h2]
          · exact hi j (by omega) h4
        generalize evs.getD (m - 1) default = w at hown hag hhit ⊢
        refine ⟨⟨by omega, by omega⟩, ?_⟩
        refine bcase_intro (fun a1 => bcase_intro (fun a2 => bcase_intro (fun a3 => ?hit) fun a3 => ?_) fun a2 => ?_) fun a1 => ?_
        case hit =>
          rw [a1, a2, a3] at hown
          rw [hhit hown] at hb
          simp only at hb
          refine bcase_intro (fun z => ?_) fun z => ?_
          · rw [z, Bool.true_or] at hb
            exact gen_again hI (n + 1) h' (by show evs.length - (n + 1) < evs.length - n; omega) (Weak.keepL (by simp [hw, hb, hW, ends]) (by simp [hclo, ends]) (by simp [ends]))
          · rw [z, Bool.false_or] at hb
            exact gen_again hI (n + 1) h' (by show evs.length - (n + 1) < evs.length - n; omega) (Weak.keepL (by simp [hw, hb, hW, ends]) (by simp [hclo, ends]) (by simp [ends]))
        all_goals
          have hown : ownOf x.frm x.key w = false := by rw [hown, a1] <;> first | rfl | (rw [a2]; first | rfl | (rw [a3]; rfl) | simp) | simp
          exact gen_again hJ (m - 1) ⟨by omega, hag _ hown rfl⟩ (by show m - 1 < m; omega) (Weak.keepL (by simp [hwm, ends]) (by simp [hclo, ends]) (by simp [ends]))
      · simp only [decide_eq_false_iff_not] at g
        obtain rfl : m = 0 := by omega
        rw [rev_none (p := ownOf x.frm x.key) (l := evs) fun j h2 => hi j (by omega) h2, Bool.or_false] at hb
        exact gen_again hI (n + 1) h' (by show evs.length - (n + 1) < evs.length - n; omega) (Weak.keepL (by simp [hw, hb, hW, ends]) (by simp [hclo, ends]) (by simp [ends]))
  · simp only [decide_eq_false_iff_not] at h
    obtain rfl : n = evs.length := by omega
    rw [List.take_length]
    exact ret_d2 trivial (by rw [← hr]; rfl) (by simp [ends])
end Go.Proofs.Ythknpcpddlaapaa
