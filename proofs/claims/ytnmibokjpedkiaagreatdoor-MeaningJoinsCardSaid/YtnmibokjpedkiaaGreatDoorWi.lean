/- Joins of two tables: a proof over an abstract machine of our own (part Wi) -/
import Derived.Test.YtnmibokjpedkiaaGreatDoorWo
import Derived.Test.YtnmibokjpedkiaaGreatDoorTie
import Derived.Test.YtnmibokjpedkiaaGreatDoorCards
import Derived.SevenTiedAt
import Derived.Stop.Joined
set_option maxRecDepth 100000
set_option maxHeartbeats 4000000
set_option linter.all false
namespace Go.Proofs.YtnmibokjpedkiaaGreatDoor.meaningJoins
section
open Go.ChangeShapes Go.WideShapes Go.ChangeAt Go.RowKit Go.Am
theorem own:ownKnob Tryz.prog.godebug=none:=by kernel_rfl
theorem laidOut:laidOutB Tryz.prog=true:=by kernel_rfl
theorem cells3:Tryz.prog.cellsOf 3=1:=by kernel_rfl
theorem readable:(Tryz.f7.params.toList.all fun t=>Tryz.prog.readableRec t&&decide (t<Tryz.prog.types.size))=true:=by rw [Tryz.params7];kernel_rfl
theorem maxLen {W:World} (h:W.ShapedOpen Tryz.prog): ∃m,W.cell? ⟨3,0,none⟩=some (.int .i64 m):=
 Go.Proofs.cell_of_shapedOpen_int h (zero:= #[.int .i64 0]) (t:=3) (of_decide_eq_true (by kernel_rfl)) (by kernel_rfl) rfl (by kernel_rfl) (by kernel_rfl) ui64
theorem i64_of' {x:Int} (h:(Lit.int .i64 x).wf=true):i64 x:=by
 have: -9223372036854775808<=x/\x<=9223372036854775807:=by simpa [Lit.wf,IntKind.min,IntKind.max,IntKind.signed,IntKind.bits] using h
 unfold i64
 omega
theorem contract (H:Type) (enc:TypeId×Value->H) (W:World) (base:Nat) (args:Array Value) (ds gs:List (DataW H)) (before:List MemPlace)
 (hval: ∀(j:Nat) t v,Tryz.f7.params[j]? =some t->args[j]? =some v->Value.okWide Tryz.prog W .any base t v)
 (hW:DataW.Whole enc Tryz.prog Tryz.f7.params.toList Rows.meaningJoinsSpec.vars false W args.toList ds gs before)
 (hL:laidMetH Tryz.prog Rows.meaningJoinsRow.laid W) (hsh:W.ShapedOpen Tryz.prog):
 Calls Tryz.prog 7 args W fun e W'=> ∃v,e= .returned v/\Rows.meaningJoinsSpec.post enc Tryz.prog Tryz.f7 false true false false W args v W':=by
 have hW':=hW
 obtain ⟨p,q,hA0,hV,rfl,hfz,hnd⟩:=hW
 have hA:DataW.TrodAll enc Tryz.prog W 0 (fun _=>true) true Tryz.f7.params.toList args.toList ds p:=hA0
 rw [Tryz.params7] at hA hval
 obtain ⟨v0,vs0,d0,ds0,p0,q0,hargs,rfl,rfl,h0,r0⟩:=trodAll_cons hA
 obtain ⟨rfl,rfl,rfl⟩:=trodAll_nil r0
 obtain rfl:args= #[v0]:=by cases args;simp_all
 obtain ⟨x0,w0,g0,_⟩:=open_sl Tryz.underlying22 ui64 cells3 (hval 0 22 v0 rfl rfl) h0
 have hr:repL (E0 W) [ints x0] [v0]:=repL_mk g0 repL_mk0
 have hm:=maxLen hsh
 have ht:=tabs_of hL
 refine ((c_lawJ x0 (fun x h=>i64_of' (w0 x h))).run (fun g row h=>(ht g row h).1) (fun g h=>?_) (fun g row h=>(ht g row h).2) hr).mono fun e W' ⟨he,hb⟩=>?_
 ·obtain rfl:g=3:=by simpa [Tab.ints] using h
  obtain ⟨m,hm⟩:=hm
  exact ⟨m,E0_cell hm⟩
 ·exact ⟨_,he,post_true hW' rfl laidOut readable rfl uboo rfl hb⟩
theorem door_met (os:Os) (args:Array Value):laidMetH Tryz.prog Rows.meaningJoinsRow.laid ((World.doorLaid Tryz.prog 400 os).forCall (fun _ _=>0) ⟨#[],args,[]⟩).memory:=
 laidMetH_of_parts3 (fuel:=8) (laidMet_of_run' 8 (by kernel_rfl) (by kernel_rfl)) (by kernel_rfl) (by kernel_rfl)
theorem lifted (os:Os) (started:os.Started) (H:Type) (enc:TypeId×Value->H):
 ReturnsInHanded {} Tryz.checked os 7 .any (fun w args=>(Rows.meaningJoinsSpec.pre enc Tryz.prog Tryz.f7 [] false w args/\laidMetH Tryz.prog Rows.meaningJoinsRow.laid w)/\sizedMet enc Tryz.prog Tryz.f7 (OpenSpec.ofChange Rows.meaningJoinsSpec) false w args)
  (Rows.meaningJoinsSpec.post enc Tryz.prog Tryz.f7 false true false false):=by
 refine qq (C:=Tryz.checked) (X:=fun w _=>laidMetH Tryz.prog Rows.meaningJoinsRow.laid w) (fun _ _ _ hh h=>h.of_heap hh) own started (by kernel_rfl) Tryz.func7
  (ChangeSpec.witness_shaped (enc:=enc) (C:=Tryz.checked) (os:=os) (X:=fun w _=>laidMetH Tryz.prog Rows.meaningJoinsRow.laid w) false (World.doorLaid Tryz.prog 400 os) #[.slice none 0 0] 8 rfl (World.shaped_of_RefB (by kernel_rfl) (by kernel_rfl)) (by kernel_rfl) (by kernel_rfl) (by kernel_rfl) (door_met os _)) ?_
 intro W base args ds gs before hval hW hL hsh
 exact contract H enc W base args ds gs before hval hW hL hsh
theorem row_proved:Rows.MeaningJoinsSaid:=
 OpenClaim.holds_of_wide 7 Tryz.f7 rfl rfl rfl rfl rfl rfl rfl ⟨rfl,rfl,rfl,rfl,rfl⟩ rfl rfl rfl rfl rfl (by kernel_rfl) Tryz.func7 (by kernel_rfl)
  (of_decide_eq_true (by kernel_rfl)) (by unfold Func.isWrapper;first | (rw [if_pos (by decide+kernel)];kernel_rfl) | (rw [if_neg (by decide+kernel)];exact ⟨rfl,rfl⟩))
  (fun os started H enc _=>lifted os started H enc)
theorem proved:Rows.MeaningJoinsCardSaid:=
 Claim7.holds_tied_plain_at .later [] [.data, .data, .data] true (true, "99c31e5e7fe800060cd328e9f8feb0327df292dc31cdf73f4a2e764a23ef275c") false
  row_proved (fun _ h=>by cases h) (by kernel_rfl) (fun _ h=>by cases h) meaningJoins_row_tie rfl ⟨rfl,rfl⟩ (by kernel_rfl) rfl
  (fun f fn hf hfn=>by
    obtain rfl : f = 7 := Option.some.inj ((show Tryz.prog.funcNamed "querylab/querylablaw08.MeaningJoins" = some 7 by kernel_rfl).symm.trans hf) |>.symm
    obtain rfl:fn=Tryz.f7:=(Option.some.inj (Tryz.func7.symm.trans hfn)).symm
    exact ⟨by kernel_rfl,fun j t ht=>by
     rw [Tryz.params7] at ht
     have hm:t∈[22]:=by simpa using Array.mem_of_getElem? ht
     have hall:([22].all fun u=> !Tryz.prog.wantsStandIn u)=true:=by kernel_rfl
     exact (show Tryz.prog.wantsStandIn t=false by simpa using List.all_eq_true.1 hall t hm)⟩)
  (by kernel_rfl)
end
end Go.Proofs.YtnmibokjpedkiaaGreatDoor.meaningJoins
