/- Any aggregate over any rows is what the specification says: a proof over an abstract machine of our own (part Vg) -/
import Derived.Test.YtkccdfaelbepeaaDoorVf
import Derived.Test.YtkccdfaelbepeaaDoorTie
import Derived.Test.YtkccdfaelbepeaaDoorCards
import Derived.SevenTiedAt
import Derived.Stop.Joined
set_option linter.all false

namespace Go.Proofs.YtkccdfaelbepeaaDoor.meaningAggregates
open Go.ChangeShapes Go.WideShapes Go.ChangeAt Go.RowKit Go.Am
set_option linter.unusedVariables false
set_option linter.unusedSimpArgs false
set_option maxRecDepth 100000

theorem own : ownKnob Tryd.prog.godebug = none := by kernel_rfl
theorem laidOut : laidOutB Tryd.prog = true := by kernel_rfl
theorem readable : (Tryd.f4.params.toList.all fun t => Tryd.prog.readableRec t && decide (t < Tryd.prog.types.size)) = true := by rw [Tryd.params4]; kernel_rfl
theorem uA : ∃ fs, Tryd.prog.underlying 37 = some (.struct fs) := by
  have := sAgg
  unfold aggOk at this
  split at this
  · rename_i fs hu; exact ⟨fs, hu⟩
  · cases this
theorem maxLen {W : World} (h : W.ShapedOpen Tryd.prog) : ∃ m, W.cell? ⟨2, 0, none⟩ = some (.int .i64 m) :=
  Go.Proofs.cell_of_shapedOpen_int h (zero := #[.int .i64 0]) (t := 3) (of_decide_eq_true (by kernel_rfl)) (by kernel_rfl) rfl (by kernel_rfl) (by kernel_rfl) ui64

theorem contract (H : Type) (enc : TypeId × Value → H) (W : World) (base : Nat) (args : Array Value) (ds gs : List (DataW H)) (before : List MemPlace)
    (hval : ∀ (j : Nat) t v, Tryd.f4.params[j]? = some t → args[j]? = some v → Value.okWide Tryd.prog W .any base t v)
    (hW : DataW.Whole enc Tryd.prog Tryd.f4.params.toList Rows.meaningAggregatesSpec.vars false W args.toList ds gs before)
    (hL : laidMetH Tryd.prog Rows.meaningAggregatesRow.laid W) (hsh : W.ShapedOpen Tryd.prog) :
    Calls Tryd.prog 4 args W fun e W' => ∃ v, e = .returned v ∧ Rows.meaningAggregatesSpec.post enc Tryd.prog Tryd.f4 false true false false W args v W' := by
  have hW' := hW
  obtain ⟨p, q, hA0, hV, rfl, hfz, hnd⟩ := hW
  have hA : DataW.TrodAll enc Tryd.prog W 0 (fun _ => true) true Tryd.f4.params.toList args.toList ds p := hA0
  rw [Tryd.params4] at hA hval
  obtain ⟨v0, vs0, d0, ds0, p0, q0, hargs, rfl, rfl, h0, r0⟩ := trodAll_cons hA
  obtain ⟨v1, vs1, d1, ds1, p1, q1, rfl, rfl, rfl, h1, r1⟩ := trodAll_cons r0
  obtain ⟨v2, vs2, d2, ds2, p2, q2, rfl, rfl, rfl, h2, r2⟩ := trodAll_cons r1
  obtain ⟨rfl, rfl, rfl⟩ := trodAll_nil r2
  obtain rfl : args = #[v0, v1, v2] := by cases args; simp_all
  obtain ⟨fs0, hfs0⟩ := uA
  obtain ⟨cs0, rfl, _⟩ := okWide_struct hfs0 (hval 0 37 v0 rfl rfl)
  obtain ⟨a1, l1, c1, rfl⟩ := okWide_slice uRows (hval 1 38 v1 rfl rfl)
  obtain ⟨n, rfl, rfl, rfl, wn⟩ := open_int ui64 (hval 2 3 v2 rfl rfl) h2
  obtain ⟨f0, hf0⟩ := h0
  obtain ⟨f1, hf1⟩ := h1
  obtain ⟨fn, e, he, ra⟩ := rd_agg (show DataW.trod enc Tryd.prog W 0 (fun _ => true) true f0 37 cs0.toList = some (d0, p0) from hf0)
  obtain ⟨rows, hrows, rt⟩ := rd_tabX (show DataW.trod enc Tryd.prog W 0 (fun _ => true) true f1 38 [.slice a1 l1 c1] = some (d1, p1) from hf1)
  have hag : aAgg fn e = A.agg ((D.lit (.int .i64 fn) :: rE e).map .d) := by rw [rE_eq]; rfl
  have ha : (aAgg fn e).rep (E0 W) (.agg cs0) := by rw [hag]; exact crep_agg ra
  have hr : repL (E0 W) [aAgg fn e, aTab rows, num n] [.agg cs0, .slice a1 l1 c1, .int .i64 n] := repL_mk ha (repL_mk (by simpa [aTab, A.rep] using rt.1.1) (repL_mk (repL_lit rfl) repL_mk0))
  have hm := maxLen hsh
  have ht := tabs_of hL
  refine ((c_lawA fn e rows n he hrows).run (fun g row h => ?_) (fun g h => ?_) hr).mono fun e W' ⟨he, hb⟩ => ?_
  · match g, h with
    | 0, h => cases h; exact ht.1
    | 1, h => cases h; exact ht.2
    | g + 2, h => cases h
  · obtain rfl : g = 2 := by simpa [Tab.ints] using h
    obtain ⟨m, hm⟩ := hm
    exact ⟨m, E0_cell hm⟩
  · exact ⟨_, he, post_true hW' rfl laidOut readable rfl uboo rfl hb⟩

theorem door_met (os : Os) (args : Array Value) : laidMetH Tryd.prog Rows.meaningAggregatesRow.laid ((World.doorLaid Tryd.prog 400 os).forCall (fun _ _ => 0) ⟨#[], args, []⟩).memory :=
  laidMetH_of_parts3 (fuel := 8) (laidMet_of_run' 8 (by kernel_rfl) (by kernel_rfl)) (by kernel_rfl) (by kernel_rfl)

theorem lifted (os : Os) (started : os.Started) (H : Type) (enc : TypeId × Value → H) :
    ReturnsInHanded {} Tryd.checked os 4 .any (fun w args => (Rows.meaningAggregatesSpec.pre enc Tryd.prog Tryd.f4 [] false w args ∧ laidMetH Tryd.prog Rows.meaningAggregatesRow.laid w) ∧ sizedMet enc Tryd.prog Tryd.f4 (OpenSpec.ofChange Rows.meaningAggregatesSpec) false w args)
      (Rows.meaningAggregatesSpec.post enc Tryd.prog Tryd.f4 false true false false) := by
  refine returns_and_shaped (C := Tryd.checked) (X := fun w _ => laidMetH Tryd.prog Rows.meaningAggregatesRow.laid w) (fun _ _ _ hh h => h.of_heap hh) own started (by kernel_rfl) Tryd.func4
    (ChangeSpec.witness_shaped (enc := enc) (C := Tryd.checked) (os := os) (X := fun w _ => laidMetH Tryd.prog Rows.meaningAggregatesRow.laid w) false (World.doorLaid Tryd.prog 400 os) #[.agg #[.int .i64 0, .int .i64 0, .int .i64 0, .int .i64 0, .string ⟨#[]⟩, .int .i64 0, .slice none 0 0], .slice none 0 0, .int .i64 0] 8 rfl (World.shaped_of_RefB (by kernel_rfl) (by kernel_rfl)) (by kernel_rfl) (by kernel_rfl) (by kernel_rfl) (door_met os _)) ?_
  intro W base args ds gs before hval hW hL hsh
  exact contract H enc W base args ds gs before hval hW hL hsh

theorem row_proved : Rows.MeaningAggregatesSaid :=
  OpenClaim.holds_of_wide 4 Tryd.f4 rfl rfl rfl rfl rfl rfl rfl ⟨rfl, rfl, rfl, rfl, rfl⟩ rfl rfl rfl rfl rfl (by kernel_rfl) Tryd.func4 (by kernel_rfl)
    (of_decide_eq_true (by kernel_rfl)) (by unfold Func.isWrapper; first | (rw [if_pos (by decide +kernel)]; kernel_rfl) | (rw [if_neg (by decide +kernel)]; exact ⟨rfl, rfl⟩))
    (fun os started H enc _ => lifted os started H enc)

/-- THE TIED CARD of MeaningAggregates. -/
theorem proved : Rows.MeaningAggregatesCardSaid :=
  Claim7.holds_tied_plain_at .later [] [.data, .data] true (true, "029320a2740ca7cf77510986b2efacf99414d13067977350b90deb1695b0cd63") false
    row_proved (fun _ h => by cases h) (by kernel_rfl) (fun _ h => by cases h) meaningAggregates_row_tie rfl ⟨rfl, rfl⟩ (by kernel_rfl) rfl
    (fun f fn hf hfn => by
      obtain rfl : f = 4 := Option.some.inj ((show Tryd.prog.funcNamed "querylab/querylablaw08.MeaningAggregates" = some 4 by kernel_rfl).symm.trans hf) |>.symm
      obtain rfl : fn = Tryd.f4 := (Option.some.inj (Tryd.func4.symm.trans hfn)).symm
      exact ⟨by kernel_rfl, fun j t ht => by
        rw [Tryd.params4] at ht
        have hm : t ∈ [37, 38, 3] := by simpa using Array.mem_of_getElem? ht
        have hall : ([37, 38, 3].all fun u => !Tryd.prog.wantsStandIn u) = true := by kernel_rfl
        exact (show Tryd.prog.wantsStandIn t = false by simpa using List.all_eq_true.1 hall t hm)⟩)
    (by kernel_rfl)
end Go.Proofs.YtkccdfaelbepeaaDoor.meaningAggregates
