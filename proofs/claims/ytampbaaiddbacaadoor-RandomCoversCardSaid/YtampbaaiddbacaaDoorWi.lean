/- Each operation of expressions with operands, and each operator of queries, stands at the root for some tape: a proof over an abstract machine of our own (part Wi) -/
import Derived.Test.YtampbaaiddbacaaDoorWg
import Derived.Test.YtampbaaiddbacaaDoorTie
import Derived.Test.YtampbaaiddbacaaDoorCards
import Derived.SevenTiedAt
import Derived.Stop.Joined
set_option linter.all false
namespace Go.Proofs.YtampbaaiddbacaaDoor.randomCovers
open Go.ChangeShapes Go.WideShapes Go.ChangeAt Go.RowKit Go.Am
set_option linter.unusedVariables false
set_option linter.unusedSimpArgs false
set_option maxRecDepth 100000
theorem own : ownKnob Tryd.prog.godebug = none := by kernel_rfl
theorem laidOut : laidOutB Tryd.prog = true := by kernel_rfl
theorem readable : (Tryd.f3.params.toList.all fun t => Tryd.prog.readableRec t && decide (t < Tryd.prog.types.size)) = true := by rw [Tryd.params3]; kernel_rfl
theorem uu8 : Tryd.prog.underlying 5 = some (.int .u8) := by kernel_rfl
theorem range_u8 {m : Int} (h : (Lit.int .u8 m).wf = true) : 0 ≤ m ∧ m ≤ 255 := by simpa [Lit.wf, IntKind.min, IntKind.max, IntKind.signed, IntKind.bits] using h
theorem maxLen {W : World} (h : W.ShapedOpen Tryd.prog) : ∃ m, W.cell? ⟨1, 0, none⟩ = some (.int .i64 m) :=
  Go.Proofs.cell_of_shapedOpen_int h (zero := #[.int .i64 0]) (t := 3) (of_decide_eq_true (by kernel_rfl)) (by kernel_rfl) rfl (by kernel_rfl) (by kernel_rfl) ui64
theorem contract (H : Type) (enc : TypeId × Value → H) (W : World) (base : Nat) (args : Array Value) (ds gs : List (DataW H)) (before : List MemPlace)
    (hval : ∀ (j : Nat) t v, Tryd.f3.params[j]? = some t → args[j]? = some v → Value.okWide Tryd.prog W .any base t v)
    (hW : DataW.Whole enc Tryd.prog Tryd.f3.params.toList Rows.randomCoversSpec.vars false W args.toList ds gs before)
    (hL : laidMetH Tryd.prog Rows.randomCoversRow.laid W) (hsh : W.ShapedOpen Tryd.prog) :
    Calls Tryd.prog 3 args W fun e W' => ∃ v, e = .returned v ∧ Rows.randomCoversSpec.post enc Tryd.prog Tryd.f3 false true false false W args v W' := by
  have hW' := hW
  obtain ⟨p, q, hA0, hV, rfl, hfz, hnd⟩ := hW
  have hA : DataW.TrodAll enc Tryd.prog W 0 (fun _ => true) true Tryd.f3.params.toList args.toList ds p := hA0
  rw [Tryd.params3] at hA hval
  obtain ⟨v0, vs0, d0, ds0, p0, q0, hargs, rfl, rfl, h0, r0⟩ := trodAll_cons hA
  obtain ⟨v1, vs1, d1, ds1, p1, q1, rfl, rfl, rfl, h1, r1⟩ := trodAll_cons r0
  obtain ⟨rfl, rfl, rfl⟩ := trodAll_nil r1
  obtain rfl : args = #[v0, v1] := by cases args; simp_all
  obtain ⟨m0, rfl⟩ := okWide_int uu8 (hval 0 5 v0 rfl rfl)
  obtain ⟨f0, hf0⟩ := h0
  have w0 : (Lit.int .u8 m0).wf = true := by
    obtain ⟨n, e, _, hw⟩ := DataW.trod_int uu8 (show DataW.trod enc Tryd.prog W 0 (fun _ => true) true f0 5 [.int .u8 m0] = some (d0, p0) from hf0)
    simp only [List.cons.injEq, Value.int.injEq, and_true, true_and] at e
    rw [e]; exact hw
  have g0 : (A.d (.lit (.int .u8 m0))).rep (E0 W) (.int .u8 m0) := by simp [A.rep, D.rep, Go.Am.one]
  obtain ⟨m1, rfl⟩ := okWide_int uu8 (hval 1 5 v1 rfl rfl)
  obtain ⟨f1, hf1⟩ := h1
  have w1 : (Lit.int .u8 m1).wf = true := by
    obtain ⟨n, e, _, hw⟩ := DataW.trod_int uu8 (show DataW.trod enc Tryd.prog W 0 (fun _ => true) true f1 5 [.int .u8 m1] = some (d1, p1) from hf1)
    simp only [List.cons.injEq, Value.int.injEq, and_true, true_and] at e
    rw [e]; exact hw
  have g1 : (A.d (.lit (.int .u8 m1))).rep (E0 W) (.int .u8 m1) := by simp [A.rep, D.rep, Go.Am.one]
  have hr : repL (E0 W) [.d (.lit (.int .u8 m0)), .d (.lit (.int .u8 m1))] [.int .u8 m0, .int .u8 m1] := repL_mk g0 (repL_mk g1 repL_mk0)
  have hm := maxLen hsh
  have ht := tabs_of hL
  refine ((c_lawC m0 (range_u8 w0).1 (range_u8 w0).2 m1 (range_u8 w1).1 (range_u8 w1).2).run (fun g row h => (ht g row h).1) (fun g h => ?_) (fun g row h => (ht g row h).2) hr).mono fun e W' ⟨he, hb⟩ => ?_
  · obtain rfl : g = 1 := by simpa [Tab.ints] using h
    obtain ⟨m, hm⟩ := hm
    exact ⟨m, E0_cell hm⟩
  · exact ⟨_, he, post_true hW' rfl laidOut readable rfl uboo rfl hb⟩
theorem door_met (os : Os) (args : Array Value) : laidMetH Tryd.prog Rows.randomCoversRow.laid ((World.doorLaid Tryd.prog 400 os).forCall (fun _ _ => 0) ⟨#[], args, []⟩).memory :=
  laidMetH_of_parts3 (fuel := 8) (laidMet_of_run' 8 (by kernel_rfl) (by kernel_rfl)) (by kernel_rfl) (by kernel_rfl)
theorem lifted (os : Os) (started : os.Started) (H : Type) (enc : TypeId × Value → H) :
    ReturnsInHanded {} Tryd.checked os 3 .any (fun w args => (Rows.randomCoversSpec.pre enc Tryd.prog Tryd.f3 [] false w args ∧ laidMetH Tryd.prog Rows.randomCoversRow.laid w) ∧ sizedMet enc Tryd.prog Tryd.f3 (OpenSpec.ofChange Rows.randomCoversSpec) false w args)
      (Rows.randomCoversSpec.post enc Tryd.prog Tryd.f3 false true false false) := by
  refine returns_and_shaped (C := Tryd.checked) (X := fun w _ => laidMetH Tryd.prog Rows.randomCoversRow.laid w) (fun _ _ _ hh h => h.of_heap hh) own started (by kernel_rfl) Tryd.func3
    (ChangeSpec.witness_shaped (enc := enc) (C := Tryd.checked) (os := os) (X := fun w _ => laidMetH Tryd.prog Rows.randomCoversRow.laid w) false (World.doorLaid Tryd.prog 400 os) #[.int .u8 0, .int .u8 0] 8 rfl (World.shaped_of_RefB (by kernel_rfl) (by kernel_rfl)) (by kernel_rfl) (by kernel_rfl) (by kernel_rfl) (door_met os _)) ?_
  intro W base args ds gs before hval hW hL hsh
  exact contract H enc W base args ds gs before hval hW hL hsh
theorem row_proved : Rows.RandomCoversSaid :=
  OpenClaim.holds_of_wide 3 Tryd.f3 rfl rfl rfl rfl rfl rfl rfl ⟨rfl, rfl, rfl, rfl, rfl⟩ rfl rfl rfl rfl rfl (by kernel_rfl) Tryd.func3 (by kernel_rfl)
    (of_decide_eq_true (by kernel_rfl)) (by unfold Func.isWrapper; first | (rw [if_pos (by decide +kernel)]; kernel_rfl) | (rw [if_neg (by decide +kernel)]; exact ⟨rfl, rfl⟩))
    (fun os started H enc _ => lifted os started H enc)
/-- THE TIED CARD of RandomCovers. -/
theorem proved : Rows.RandomCoversCardSaid :=
  Claim7.holds_tied_plain_at .later [] [.data, .data] true (true, "338052b1eeaaeb9bec6d8887c83eff10e227bd0af40f4a7fd661529bc37da864") false
    row_proved (fun _ h => by cases h) (by kernel_rfl) (fun _ h => by cases h) randomCovers_row_tie rfl ⟨rfl, rfl⟩ (by kernel_rfl) rfl
    (fun f fn hf hfn => by
      obtain rfl : f = 3 := Option.some.inj ((show Tryd.prog.funcNamed "querylab/querylablaw32.RandomCovers" = some 3 by kernel_rfl).symm.trans hf) |>.symm
      obtain rfl : fn = Tryd.f3 := (Option.some.inj (Tryd.func3.symm.trans hfn)).symm
      exact ⟨by kernel_rfl, fun j t ht => by
        rw [Tryd.params3] at ht
        have hm : t ∈ [5, 5] := by simpa using Array.mem_of_getElem? ht
        have hall : ([5, 5].all fun u => !Tryd.prog.wantsStandIn u) = true := by kernel_rfl
        exact (show Tryd.prog.wantsStandIn t = false by simpa using List.all_eq_true.1 hall t hm)⟩)
    (by kernel_rfl)
end Go.Proofs.YtampbaaiddbacaaDoor.randomCovers
