/- Whether an instance can be asked about a schema: a proof over an abstract machine of our own (part Wf) -/
import Derived.Test.YtkccdfaelbepeaaDoorWe
import Derived.Test.YtkccdfaelbepeaaDoorWd
import Derived.Test.YtkccdfaelbepeaaDoorTie
import Derived.Test.YtkccdfaelbepeaaDoorCards
import Derived.SevenTiedAt
import Derived.Stop.Joined
set_option linter.all false

namespace Go.Proofs.YtkccdfaelbepeaaDoor.meaningFits
open Go.ChangeShapes Go.WideShapes Go.ChangeAt Go.RowKit Go.Am
set_option linter.unusedVariables false
set_option linter.unusedSimpArgs false
set_option maxRecDepth 100000

theorem own : ownKnob Tryd.prog.godebug = none := by kernel_rfl
theorem laidOut : laidOutB Tryd.prog = true := by kernel_rfl
theorem readable : (Tryd.f3.params.toList.all fun t => Tryd.prog.readableRec t && decide (t < Tryd.prog.types.size)) = true := by rw [Tryd.params3]; kernel_rfl
theorem uS : ∃ fs, Tryd.prog.underlying 24 = some (.struct fs) := by
  have := sSch
  unfold structOk at this
  split at this
  · rename_i fs hu; exact ⟨fs, hu⟩
  · cases this
theorem uI : ∃ fs, Tryd.prog.underlying 27 = some (.struct fs) := by
  have := sIns
  unfold structOk at this
  split at this
  · rename_i fs hu; exact ⟨fs, hu⟩
  · cases this
theorem maxLen {W : World} (h : W.ShapedOpen Tryd.prog) : ∃ m, W.cell? ⟨2, 0, none⟩ = some (.int .i64 m) :=
  Go.Proofs.cell_of_shapedOpen_int h (zero := #[.int .i64 0]) (t := 3) (of_decide_eq_true (by kernel_rfl)) (by kernel_rfl) rfl (by kernel_rfl) (by kernel_rfl) ui64

theorem contract (H : Type) (enc : TypeId × Value → H) (W : World) (base : Nat) (args : Array Value) (ds gs : List (DataW H)) (before : List MemPlace)
    (hval : ∀ (j : Nat) t v, Tryd.f3.params[j]? = some t → args[j]? = some v → Value.okWide Tryd.prog W .any base t v)
    (hW : DataW.Whole enc Tryd.prog Tryd.f3.params.toList Rows.meaningFitsSpec.vars false W args.toList ds gs before)
    (hL : laidMetH Tryd.prog Rows.meaningFitsRow.laid W) (hsh : W.ShapedOpen Tryd.prog) :
    Calls Tryd.prog 3 args W fun e W' => ∃ v, e = .returned v ∧ Rows.meaningFitsSpec.post enc Tryd.prog Tryd.f3 false true false false W args v W' := by
  have hW' := hW
  obtain ⟨p, q, hA0, hV, rfl, hfz, hnd⟩ := hW
  have hA : DataW.TrodAll enc Tryd.prog W 0 (fun _ => true) true Tryd.f3.params.toList args.toList ds p := hA0
  rw [Tryd.params3] at hA hval
  obtain ⟨v0, vs0, d0, ds0, p0, q0, hargs, rfl, rfl, h0, r0⟩ := trodAll_cons hA
  obtain ⟨v1, vs1, d1, ds1, p1, q1, rfl, rfl, rfl, h1, r1⟩ := trodAll_cons r0
  obtain ⟨rfl, rfl, rfl⟩ := trodAll_nil r1
  obtain rfl : args = #[v0, v1] := by cases args; simp_all
  obtain ⟨fs0, hfs0⟩ := uS
  obtain ⟨fs1, hfs1⟩ := uI
  obtain ⟨cs0, rfl, _⟩ := okWide_struct hfs0 (hval 0 24 v0 rfl rfl)
  obtain ⟨cs1, rfl, _⟩ := okWide_struct hfs1 (hval 1 27 v1 rfl rfl)
  obtain ⟨f0, hf0⟩ := h0
  obtain ⟨f1, hf1⟩ := h1
  obtain ⟨s, rs⟩ := rd_sch (show DataW.trod enc Tryd.prog W 0 (fun _ => true) true f0 24 cs0.toList = some (d0, p0) from hf0)
  obtain ⟨i, ri⟩ := rd_ins (show DataW.trod enc Tryd.prog W 0 (fun _ => true) true f1 27 cs1.toList = some (d1, p1) from hf1)
  have hr : repL (E0 W) [aS s, aInst i] [.agg cs0, .agg cs1] := repL_mk (crep_agg rs) (repL_mk (crep_agg ri) repL_mk0)
  have hm := maxLen hsh
  refine ((c_law s i).run (fun g row h => ?_) (fun g h => ?_) hr).mono fun e W' ⟨he, hb⟩ => ?_
  · match g, h with
    | 0, h => cases h; exact tab_of hL
    | g + 1, h => cases h
  · obtain rfl : g = 2 := by simpa [Tab.ints] using h
    obtain ⟨m, hm⟩ := hm
    exact ⟨m, E0_cell hm⟩
  · exact ⟨_, he, post_true hW' rfl laidOut readable rfl uboo rfl hb⟩

theorem door_met (os : Os) (args : Array Value) : laidMetH Tryd.prog Rows.meaningFitsRow.laid ((World.doorLaid Tryd.prog 400 os).forCall (fun _ _ => 0) ⟨#[], args, []⟩).memory :=
  laidMetH_of_parts3 (fuel := 8) (laidMet_of_run' 8 (by kernel_rfl) (by kernel_rfl)) (by kernel_rfl) (by kernel_rfl)

theorem lifted (os : Os) (started : os.Started) (H : Type) (enc : TypeId × Value → H) :
    ReturnsInHanded {} Tryd.checked os 3 .any (fun w args => (Rows.meaningFitsSpec.pre enc Tryd.prog Tryd.f3 [] false w args ∧ laidMetH Tryd.prog Rows.meaningFitsRow.laid w) ∧ sizedMet enc Tryd.prog Tryd.f3 (OpenSpec.ofChange Rows.meaningFitsSpec) false w args)
      (Rows.meaningFitsSpec.post enc Tryd.prog Tryd.f3 false true false false) := by
  refine returns_and_shaped (C := Tryd.checked) (X := fun w _ => laidMetH Tryd.prog Rows.meaningFitsRow.laid w) (fun _ _ _ hh h => h.of_heap hh) own started (by kernel_rfl) Tryd.func3
    (ChangeSpec.witness_shaped (enc := enc) (C := Tryd.checked) (os := os) (X := fun w _ => laidMetH Tryd.prog Rows.meaningFitsRow.laid w) false (World.doorLaid Tryd.prog 400 os) #[.agg #[.slice none 0 0], .agg #[.slice none 0 0]] 8 rfl (World.shaped_of_RefB (by kernel_rfl) (by kernel_rfl)) (by kernel_rfl) (by kernel_rfl) (by kernel_rfl) (door_met os _)) ?_
  intro W base args ds gs before hval hW hL hsh
  exact contract H enc W base args ds gs before hval hW hL hsh

theorem row_proved : Rows.MeaningFitsSaid :=
  OpenClaim.holds_of_wide 3 Tryd.f3 rfl rfl rfl rfl rfl rfl rfl ⟨rfl, rfl, rfl, rfl, rfl⟩ rfl rfl rfl rfl rfl (by kernel_rfl) Tryd.func3 (by kernel_rfl)
    (of_decide_eq_true (by kernel_rfl)) (by unfold Func.isWrapper; first | (rw [if_pos (by decide +kernel)]; kernel_rfl) | (rw [if_neg (by decide +kernel)]; exact ⟨rfl, rfl⟩))
    (fun os started H enc _ => lifted os started H enc)

/-- THE TIED CARD of MeaningFits. -/
theorem proved : Rows.MeaningFitsCardSaid :=
  Claim7.holds_tied_plain_at .later [] [.data] true (true, "029320a2740ca7cf77510986b2efacf99414d13067977350b90deb1695b0cd63") false
    row_proved (fun _ h => by cases h) (by kernel_rfl) (fun _ h => by cases h) meaningFits_row_tie rfl ⟨rfl, rfl⟩ (by kernel_rfl) rfl
    (fun f fn hf hfn => by
      obtain rfl : f = 3 := Option.some.inj ((show Tryd.prog.funcNamed "querylab/querylablaw08.MeaningFits" = some 3 by kernel_rfl).symm.trans hf) |>.symm
      obtain rfl : fn = Tryd.f3 := (Option.some.inj (Tryd.func3.symm.trans hfn)).symm
      exact ⟨by kernel_rfl, fun j t ht => by
        rw [Tryd.params3] at ht
        have hm : t ∈ [24, 27] := by simpa using Array.mem_of_getElem? ht
        have hall : ([24, 27].all fun u => !Tryd.prog.wantsStandIn u) = true := by kernel_rfl
        exact (show Tryd.prog.wantsStandIn t = false by simpa using List.all_eq_true.1 hall t hm)⟩)
    (by kernel_rfl)
end Go.Proofs.YtkccdfaelbepeaaDoor.meaningFits
