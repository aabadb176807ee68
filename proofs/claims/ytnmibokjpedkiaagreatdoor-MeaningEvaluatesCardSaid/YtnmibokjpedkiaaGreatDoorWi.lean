/- Made queries answer as specified (part Wi) -/
import Derived.Test.YtnmibokjpedkiaaGreatDoorWr
import Derived.Test.YtnmibokjpedkiaaGreatDoorTie
import Derived.Test.YtnmibokjpedkiaaGreatDoorCards
import Derived.SevenTiedAt
import Derived.Stop.Joined
set_option maxRecDepth 100000
set_option maxHeartbeats 4000000
set_option linter.all false
namespace Go.Proofs.YtnmibokjpedkiaaGreatDoor.meaningEvaluates
section
open Go.ChangeShapes Go.WideShapes Go.ChangeAt Go.RowKit Go.Am
theorem own:ownKnob Tryz.prog.godebug=none:=Zf
theorem laidOut:laidOutB Tryz.prog=true:=Zf
theorem cells3:Tryz.prog.cellsOf 3=1:=Zf
theorem readable:(Tryz.f3.params.toList.all fun t=>Tryz.prog.readableRec t&&decide (t<Tryz.prog.types.size))=true:=by rw [Tryz.params3];kernel_rfl
theorem maxLen {W:World} (h:W.ShapedOpen Tryz.prog): ∃m,W.cell? ⟨3,0,none⟩=some (.int .i64 m):=
 Go.Proofs.cell_of_shapedOpen_int h (zero:= #[.int .i64 0]) (t:=3) (Yb Zf) Zf rfl Zf Zf ui64
theorem WS {p P0:Prop} (zf_:P0) (h:P0->p:=by intro zf_;simpa [Lit.wf,IntKind.min,IntKind.max,IntKind.signed,IntKind.bits] using zf_):p:=h zf_
theorem Jx{p:Prop}(h:p:=by
 have: -9223372036854775808<=x/\x<=9223372036854775807:=WS h;unfold i64;omega):p:=h
theorem i64_of' {x:Int} (h:(Lit.int .i64 x).wf=true):i64 x:=Jx
theorem NZ{p:Prop}(h:p:=by
 obtain rfl:g=3:=by simpa [Tab.ints] using h
 obtain ⟨m,hm⟩:=hm;exact ⟨m,E0_cell hm⟩):p:=h
theorem JL{p:Prop}(h:p:=by
 exact ⟨_,he,post_true hW' rfl laidOut readable rfl uboo rfl hb⟩):p:=h
theorem contract (H:Type) (enc:TypeId×Value->H) (W:World) (base:Nat) (args:Array Value) (ds gs:List (DataW H)) (before:List MemPlace)
 (hval: ∀(j:Nat) t v,Tryz.f3.params[j]? =some t->args[j]? =some v->Value.okWide Tryz.prog W .any base t v)
 (hW:DataW.Whole enc Tryz.prog Tryz.f3.params.toList Rows.meaningEvaluatesSpec.vars false W args.toList ds gs before)
 (hL:laidMetH Tryz.prog Rows.meaningEvaluatesRow.laid W) (hsh:W.ShapedOpen Tryz.prog):
 Calls Tryz.prog 3 args W fun e W'=> ∃v,e= .returned v/\Rows.meaningEvaluatesSpec.post enc Tryz.prog Tryz.f3 false true false false W args v W':=by
 have hW':=hW;obtain ⟨p,q,hA0,hV,rfl,hfz,hnd⟩:=hW;have hA:DataW.TrodAll enc Tryz.prog W 0 (fun _=>true) true Tryz.f3.params.toList args.toList ds p:=hA0;rw [Tryz.params3] at hA hval;obtain ⟨v0,vs0,d0,ds0,p0,q0,hargs,rfl,rfl,h0,r0⟩:=trodAll_cons hA;obtain ⟨rfl,rfl,rfl⟩:=trodAll_nil r0;obtain rfl:args= #[v0]:=by cases args;simp_all
 obtain ⟨x0,w0,g0,_⟩:=open_sl Tryz.underlying22 ui64 cells3 (hval 0 22 v0 rfl rfl) h0;have hr:repL (E0 W) [ints x0] [v0]:=repL_mk g0 repL_mk0;have hm:=maxLen hsh;have ht:=tabs_of hL;refine ((c_lawE x0 (fun x h=>i64_of' (w0 x h))).run (fun g row h=>(ht g row h).1) (fun g h=>?_) (fun g row h=>(ht g row h).2) hr).mono fun e W' ⟨he,hb⟩=>?_
 ·exact NZ
 ·exact JL
theorem door_met (os:Os) (args:Array Value):laidMetH Tryz.prog Rows.meaningEvaluatesRow.laid ((World.doorLaid Tryz.prog 400 os).forCall (fun _ _=>0) ⟨#[],args,[]⟩).memory:=
 laidMetH_of_parts3 (fuel:=8) (laidMet_of_run' 8 Zf Zf) Zf Zf
theorem NI{p:Prop}(h:p:=by
 intro W base args ds gs before hval hW hL hsh;exact contract H enc W base args ds gs before hval hW hL hsh):p:=h
theorem lifted (os:Os) (started:os.Started) (H:Type) (enc:TypeId×Value->H):
 ReturnsInHanded {} Tryz.checked os 3 .any (fun w args=>(Rows.meaningEvaluatesSpec.pre enc Tryz.prog Tryz.f3 [] false w args/\laidMetH Tryz.prog Rows.meaningEvaluatesRow.laid w)/\sizedMet enc Tryz.prog Tryz.f3 (OpenSpec.ofChange Rows.meaningEvaluatesSpec) false w args)
  (Rows.meaningEvaluatesSpec.post enc Tryz.prog Tryz.f3 false true false false):=by
 refine ua (C:=Tryz.checked) (X:=fun w _=>laidMetH Tryz.prog Rows.meaningEvaluatesRow.laid w) (fun _ _ _ hh h=>h.of_heap hh) own started Zf Tryz.func3
  (ChangeSpec.witness_shaped (enc:=enc) (C:=Tryz.checked) (os:=os) (X:=fun w _=>laidMetH Tryz.prog Rows.meaningEvaluatesRow.laid w) false (World.doorLaid Tryz.prog 400 os) #[.slice none 0 0] 8 rfl (World.shaped_of_RefB Zf Zf) Zf Zf Zf (door_met os _)) ?_
 exact NI
theorem WT {p:Prop} (h:p:=by unfold Func.isWrapper;first | (rw [if_pos (by decide+kernel)];kernel_rfl) | (rw [if_neg (by decide+kernel)];exact ⟨rfl,rfl⟩)):p:=h
theorem row_proved:Rows.MeaningEvaluatesSaid:=
 OpenClaim.holds_of_wide 3 Tryz.f3 rfl rfl rfl rfl rfl rfl rfl ⟨rfl,rfl,rfl,rfl,rfl⟩ rfl rfl rfl rfl rfl Zf Tryz.func3 Zf
  (Yb Zf) WT
  (fun os started H enc _=>lifted os started H enc)
theorem WU {p:Prop} (h:p:=by simpa using Array.mem_of_getElem? ht):p:=h
theorem proved:Rows.MeaningEvaluatesCardSaid:=
 Claim7.holds_tied_plain_at .later [] [.data, .data, .data] true (true, "99c31e5e7fe800060cd328e9f8feb0327df292dc31cdf73f4a2e764a23ef275c") false
  row_proved (fun _ h=>by cases h) Zf (fun _ h=>by cases h) meaningEvaluates_row_tie rfl ⟨rfl,rfl⟩ Zf rfl
  (fun f fn hf hfn=>by
    obtain rfl : f = 3 := Option.some.inj ((show Tryz.prog.funcNamed "querylab/querylablaw08.MeaningEvaluates" = some 3 from Zf).symm.trans hf) |>.symm;obtain rfl:fn=Tryz.f3:=(Option.some.inj (Tryz.func3.symm.trans hfn)).symm;exact ⟨Zf,fun j t ht=>by
     rw [Tryz.params3] at ht;have hm:t∈[22]:=WU;have hall:([22].all fun u=> !Tryz.prog.wantsStandIn u)=true:=Zf;exact (show Tryz.prog.wantsStandIn t=false by simpa using YW.1 hall t hm)⟩)
  Zf
end
end Go.Proofs.YtnmibokjpedkiaaGreatDoor.meaningEvaluates
