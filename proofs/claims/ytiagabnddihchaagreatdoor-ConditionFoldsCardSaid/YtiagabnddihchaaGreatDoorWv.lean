/- Conditions over finite domains (part Wv) -/
import Derived.Test.YtiagabnddihchaaGreatDoorWu
import Derived.Test.YtiagabnddihchaaGreatDoorWo
import Derived.Test.YtiagabnddihchaaGreatDoorTie
import Derived.Test.YtiagabnddihchaaGreatDoorCards
import Derived.SevenTiedAt
import Derived.Stop.Joined
set_option linter.all false

namespace Go.Proofs.YtiagabnddihchaaGreatDoor.conditionFolds
open Go.ChangeShapes Go.WideShapes Go.ChangeAt Go.RowKit Go.Am
set_option linter.unusedVariables false
set_option linter.unusedSimpArgs false
set_option maxRecDepth 100000

theorem own : ownKnob Tryz.prog.godebug = none := by kernel_rfl
theorem laidOut : laidOutB Tryz.prog = true := by kernel_rfl
theorem cells3 : Tryz.prog.cellsOf 3 = 1 := by kernel_rfl
theorem readable : (Tryz.f6.params.toList.all fun t => Tryz.prog.readableRec t && decide (t < Tryz.prog.types.size)) = true := by rw [Tryz.params6]; kernel_rfl
theorem u_ex : ∃ fs, Tryz.prog.underlying 29 = some (.struct fs) := by
  have := sEx
  unfold structOk at this
  split at this
  · rename_i fs hu; exact ⟨fs, hu⟩
  · cases this
theorem rd_exA {H : Type} {enc : TypeId × Value → H} {w : World} {base : Nat} {spare : Nat → Bool} {held : Bool} {fuel : Nat} {cs : List Value} {x : DataW H × List MemPlace} (h : DataW.trod enc Tryz.prog w base spare held fuel 29 cs = some x) : ∃ e : Ex, crep (E0 w).R (rE e) cs := rd_ex _ _ _ h
theorem aE_rep {e : Ex} {w : World} {cs : Array Value} (h : crep (E0 w).R (rE e) cs.toList) : (aE e).rep (E0 w) (.agg cs) := by
  have : aE e = A.agg ((rE e).map .d) := by rw [aE_eq, rE_eq]; rfl
  rw [this]
  exact crep_agg h
theorem i64_of' {x : Int} (h : (Lit.int .i64 x).wf = true) : i64 x := by
  have : -9223372036854775808 ≤ x ∧ x ≤ 9223372036854775807 := by simpa [Lit.wf, IntKind.min, IntKind.max, IntKind.signed, IntKind.bits] using h
  unfold i64
  omega

theorem contract (H : Type) (enc : TypeId × Value → H) (W : World) (base : Nat) (args : Array Value) (ds gs : List (DataW H)) (before : List MemPlace)
    (hval : ∀ (j : Nat) t v, Tryz.f6.params[j]? = some t → args[j]? = some v → Value.okWide Tryz.prog W .any base t v)
    (hW : DataW.Whole enc Tryz.prog Tryz.f6.params.toList Rows.conditionFoldsSpec.vars false W args.toList ds gs before)
    (hL : laidMetH Tryz.prog Rows.conditionFoldsRow.laid W) (hsh : W.ShapedOpen Tryz.prog) :
    Calls Tryz.prog 6 args W fun e W' => ∃ v, e = .returned v ∧ Rows.conditionFoldsSpec.post enc Tryz.prog Tryz.f6 false true false false W args v W' := by
  have hW' := hW
  obtain ⟨p, q, hA0, hV, rfl, hfz, hnd⟩ := hW
  have hA : DataW.TrodAll enc Tryz.prog W 0 (fun _ => true) true Tryz.f6.params.toList args.toList ds p := hA0
  rw [Tryz.params6] at hA hval
  obtain ⟨v0, vs0, d0, ds0, p0, q0, hargs, rfl, rfl, h0, r0⟩ := trodAll_cons hA
  obtain ⟨v1, vs1, d1, ds1, p1, q1, rfl, rfl, rfl, h1, r1⟩ := trodAll_cons r0
  obtain ⟨v2, vs2, d2, ds2, p2, q2, rfl, rfl, rfl, h2, r2⟩ := trodAll_cons r1
  obtain ⟨rfl, rfl, rfl⟩ := trodAll_nil r2
  obtain rfl : args = #[v0, v1, v2] := by cases args; simp_all
  obtain ⟨x0, w0, g0, _⟩ := open_sl Tryz.underlying22 ui64 cells3 (hval 0 22 v0 rfl rfl) h0
  obtain ⟨fs1, hfs1⟩ := u_ex
  obtain ⟨cs1, rfl, _⟩ := okWide_struct hfs1 (hval 1 29 v1 rfl rfl)
  obtain ⟨f1, hf1⟩ := h1
  obtain ⟨y1, g1⟩ := rd_exA (show DataW.trod enc Tryz.prog W 0 (fun _ => true) true f1 29 cs1.toList = some (d1, p1) from hf1)
  obtain ⟨a2, l2, c2, rfl⟩ := okWide_slice uVals (hval 2 32 v2 rfl rfl)
  obtain ⟨f2, hf2⟩ := h2
  obtain ⟨y2, g2⟩ := rd_row (show DataW.trod enc Tryz.prog W 0 (fun _ => true) true f2 32 [.slice a2 l2 c2] = some (d2, p2) from hf2)
  have hr : repL (E0 W) [ints x0, aE y1, aRow y2] [v0, .agg cs1, .slice a2 l2 c2] := repL_mk g0 (repL_mk (aE_rep g1) (repL_mk (by simpa [aRow, rRow, A.rep] using g2.1.1) repL_mk0))
  have ht := tabs_of hL
  refine ((c_lawO x0 (fun x h => i64_of' (w0 x h)) y1 y2).run (fun g row h => (ht g row h).1) (fun g h => ?_) (fun g row h => (ht g row h).2) hr).mono fun e W' ⟨he, hb⟩ => ?_
  · simp [Tab.ints] at h
  · exact ⟨_, he, post_true hW' rfl laidOut readable rfl uboo rfl hb⟩

theorem door_met (os : Os) (args : Array Value) : laidMetH Tryz.prog Rows.conditionFoldsRow.laid ((World.doorLaid Tryz.prog 400 os).forCall (fun _ _ => 0) ⟨#[], args, []⟩).memory :=
  laidMetH_of_parts3 (fuel := 8) (laidMet_of_run' 8 (by kernel_rfl) (by kernel_rfl)) (by kernel_rfl) (by kernel_rfl)

theorem lifted (os : Os) (started : os.Started) (H : Type) (enc : TypeId × Value → H) :
    ReturnsInHanded {} Tryz.checked os 6 .any (fun w args => (Rows.conditionFoldsSpec.pre enc Tryz.prog Tryz.f6 [] false w args ∧ laidMetH Tryz.prog Rows.conditionFoldsRow.laid w) ∧ sizedMet enc Tryz.prog Tryz.f6 (OpenSpec.ofChange Rows.conditionFoldsSpec) false w args)
      (Rows.conditionFoldsSpec.post enc Tryz.prog Tryz.f6 false true false false) := by
  refine returns_and_shaped (C := Tryz.checked) (X := fun w _ => laidMetH Tryz.prog Rows.conditionFoldsRow.laid w) (fun _ _ _ hh h => h.of_heap hh) own started (by kernel_rfl) Tryz.func6
    (ChangeSpec.witness_shaped (enc := enc) (C := Tryz.checked) (os := os) (X := fun w _ => laidMetH Tryz.prog Rows.conditionFoldsRow.laid w) false (World.doorLaid Tryz.prog 400 os) #[.slice none 0 0, .agg #[.int .i64 0, .int .i64 0, .int .i64 0, .string ByteArray.empty, .int .i64 0, .slice none 0 0], .slice none 0 0] 8 rfl (World.shaped_of_RefB (by kernel_rfl) (by kernel_rfl)) (by kernel_rfl) (by kernel_rfl) (by kernel_rfl) (door_met os _)) ?_
  intro W base args ds gs before hval hW hL hsh
  exact contract H enc W base args ds gs before hval hW hL hsh

theorem row_proved : Rows.ConditionFoldsSaid :=
  OpenClaim.holds_of_wide 6 Tryz.f6 rfl rfl rfl rfl rfl rfl rfl ⟨rfl, rfl, rfl, rfl, rfl⟩ rfl rfl rfl rfl rfl (by kernel_rfl) Tryz.func6 (by kernel_rfl)
    (of_decide_eq_true (by kernel_rfl)) (by unfold Func.isWrapper; first | (rw [if_pos (by decide +kernel)]; kernel_rfl) | (rw [if_neg (by decide +kernel)]; exact ⟨rfl, rfl⟩))
    (fun os started H enc _ => lifted os started H enc)

/-- THE TIED CARD of ConditionFolds. -/
theorem proved : Rows.ConditionFoldsCardSaid :=
  Claim7.holds_tied_plain_at .later [] [.data, .data] true (true, "6757cc4831b5606286dcbefba24a185436d678f892efae1faf51d741b33f2066") false
    row_proved (fun _ h => by cases h) (by kernel_rfl) (fun _ h => by cases h) conditionFolds_row_tie rfl ⟨rfl, rfl⟩ (by kernel_rfl) rfl
    (fun f fn hf hfn => by
      obtain rfl : f = 6 := Option.some.inj ((show Tryz.prog.funcNamed "querylab/querylablaw23.ConditionFolds" = some 6 by kernel_rfl).symm.trans hf) |>.symm
      obtain rfl : fn = Tryz.f6 := (Option.some.inj (Tryz.func6.symm.trans hfn)).symm
      exact ⟨by kernel_rfl, fun j t ht => by
        rw [Tryz.params6] at ht
        have hm : t ∈ [22, 29, 32] := by simpa using Array.mem_of_getElem? ht
        have hall : ([22, 29, 32].all fun u => !Tryz.prog.wantsStandIn u) = true := by kernel_rfl
        exact (show Tryz.prog.wantsStandIn t = false by simpa using List.all_eq_true.1 hall t hm)⟩)
    (by kernel_rfl)
end Go.Proofs.YtiagabnddihchaaGreatDoor.conditionFolds
