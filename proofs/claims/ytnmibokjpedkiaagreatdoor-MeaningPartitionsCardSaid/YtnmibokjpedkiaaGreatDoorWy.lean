/- Made queries answer as specified (part Wy) -/
import Derived.Test.YtnmibokjpedkiaaGreatDoorWt
import Derived.Test.YtnmibokjpedkiaaGreatDoorTie
import Derived.Test.YtnmibokjpedkiaaGreatDoorCards
import Derived.SevenTiedAt
import Derived.Stop.Joined
set_option maxRecDepth 100000
set_option maxHeartbeats 4000000
set_option linter.all false
namespace Go.Proofs.YtnmibokjpedkiaaGreatDoor.meaningPartitions
section
open Go.ChangeShapes Go.WideShapes Go.ChangeAt Go.RowKit Go.Am
theorem own:ownKnob Tryz.prog.godebug=none:=Zg
theorem laidOut:laidOutB Tryz.prog=true:=Zg
theorem cells3:Tryz.prog.cellsOf 3=1:=Zg
theorem readable:(Tryz.f6.params.toList.all fun t=>Tryz.prog.readableRec t&&decide (t<Tryz.prog.types.size))=true:=by rw [Tryz.params6];kernel_rfl
theorem maxLen {W:World} (h:W.ShapedOpen Tryz.prog): ∃m,W.cell? ⟨3,0,none⟩=some (.int .i64 m):=
 Go.Proofs.cell_of_shapedOpen_int h (zero:= #[.int .i64 0]) (t:=3) (Yd Zg) Zg rfl Zg Zg ui64
theorem i64_of' {x:Int} (h:(Lit.int .i64 x).wf=true):i64 x:=by
 have: -9223372036854775808<=x/\x<=9223372036854775807:=by simpa [Lit.wf,IntKind.min,IntKind.max,IntKind.signed,IntKind.bits] using h
 unfold i64
 omega
theorem contract (H:Type) (enc:TypeId×Value->H) (W:World) (base:Nat) (args:Array Value) (ds gs:List (DataW H)) (before:List MemPlace)
 (hval: ∀(j:Nat) t v,Tryz.f6.params[j]? =some t->args[j]? =some v->Value.okWide Tryz.prog W .any base t v)
 (hW:DataW.Whole enc Tryz.prog Tryz.f6.params.toList Rows.meaningPartitionsSpec.vars false W args.toList ds gs before)
 (hL:laidMetH Tryz.prog Rows.meaningPartitionsRow.laid W) (hsh:W.ShapedOpen Tryz.prog):
 Calls Tryz.prog 6 args W fun e W'=> ∃v,e= .returned v/\Rows.meaningPartitionsSpec.post enc Tryz.prog Tryz.f6 false true false false W args v W':=by
 have hW':=hW;obtain ⟨p,q,hA0,hV,rfl,hfz,hnd⟩:=hW;have hA:DataW.TrodAll enc Tryz.prog W 0 (fun _=>true) true Tryz.f6.params.toList args.toList ds p:=hA0;rw [Tryz.params6] at hA hval;obtain ⟨v0,vs0,d0,ds0,p0,q0,hargs,rfl,rfl,h0,r0⟩:=trodAll_cons hA;obtain ⟨rfl,rfl,rfl⟩:=trodAll_nil r0;obtain rfl:args= #[v0]:=by cases args;simp_all
 obtain ⟨x0,w0,g0,_⟩:=open_sl Tryz.underlying22 ui64 cells3 (hval 0 22 v0 rfl rfl) h0;have hr:repL (E0 W) [ints x0] [v0]:=repL_mk g0 repL_mk0;have hm:=maxLen hsh;have ht:=tabs_of hL;refine ((c_lawP x0 (fun x h=>i64_of' (w0 x h))).run (fun g row h=>(ht g row h).1) (fun g h=>?_) (fun g row h=>(ht g row h).2) hr).mono fun e W' ⟨he,hb⟩=>?_
 ·obtain rfl:g=3:=by simpa [Tab.ints] using h
  obtain ⟨m,hm⟩:=hm
  exact ⟨m,E0_cell hm⟩
 ·exact ⟨_,he,post_true hW' rfl laidOut readable rfl uboo rfl hb⟩
theorem door_met (os:Os) (args:Array Value):laidMetH Tryz.prog Rows.meaningPartitionsRow.laid ((World.doorLaid Tryz.prog 400 os).forCall (fun _ _=>0) ⟨#[],args,[]⟩).memory:=
 laidMetH_of_parts3 (fuel:=8) (laidMet_of_run' 8 Zg Zg) Zg Zg
theorem lifted (os:Os) (started:os.Started) (H:Type) (enc:TypeId×Value->H):
 ReturnsInHanded {} Tryz.checked os 6 .any (fun w args=>(Rows.meaningPartitionsSpec.pre enc Tryz.prog Tryz.f6 [] false w args/\laidMetH Tryz.prog Rows.meaningPartitionsRow.laid w)/\sizedMet enc Tryz.prog Tryz.f6 (OpenSpec.ofChange Rows.meaningPartitionsSpec) false w args)
  (Rows.meaningPartitionsSpec.post enc Tryz.prog Tryz.f6 false true false false):=by
 refine returns_and_shaped (C:=Tryz.checked) (X:=fun w _=>laidMetH Tryz.prog Rows.meaningPartitionsRow.laid w) (fun _ _ _ hh h=>h.of_heap hh) own started Zg Tryz.func6
  (ChangeSpec.witness_shaped (enc:=enc) (C:=Tryz.checked) (os:=os) (X:=fun w _=>laidMetH Tryz.prog Rows.meaningPartitionsRow.laid w) false (World.doorLaid Tryz.prog 400 os) #[.slice none 0 0] 8 rfl (World.shaped_of_RefB Zg Zg) Zg Zg Zg (door_met os _)) ?_
 intro W base args ds gs before hval hW hL hsh
 exact contract H enc W base args ds gs before hval hW hL hsh
theorem row_proved:Rows.MeaningPartitionsSaid:=
 OpenClaim.holds_of_wide 6 Tryz.f6 rfl rfl rfl rfl rfl rfl rfl ⟨rfl,rfl,rfl,rfl,rfl⟩ rfl rfl rfl rfl rfl Zg Tryz.func6 Zg
  (of_decide_eq_true (by kernel_rfl)) (by unfold Func.isWrapper;first | (rw [if_pos (by decide+kernel)];kernel_rfl) | (rw [if_neg (by decide+kernel)];exact ⟨rfl,rfl⟩))
  (fun os started H enc _=>lifted os started H enc)
theorem proved:Rows.MeaningPartitionsCardSaid:=
 Claim7.holds_tied_plain_at .later [] [.data, .data, .data] true (true, "99c31e5e7fe800060cd328e9f8feb0327df292dc31cdf73f4a2e764a23ef275c") false
  row_proved (fun _ h=>by cases h) Zg (fun _ h=>by cases h) meaningPartitions_row_tie rfl ⟨rfl,rfl⟩ Zg rfl
  (fun f fn hf hfn=>by
    obtain rfl : f = 6 := Option.some.inj ((show Tryz.prog.funcNamed "querylab/querylablaw08.MeaningPartitions" = some 6 from Zg).symm.trans hf) |>.symm;obtain rfl:fn=Tryz.f6:=(Option.some.inj (Tryz.func6.symm.trans hfn)).symm;exact ⟨Zg,fun j t ht=>by
     rw [Tryz.params6] at ht
     have hm:t∈[22]:=by simpa using Array.mem_of_getElem? ht
     have hall:([22].all fun u=> !Tryz.prog.wantsStandIn u)=true:=by kernel_rfl
     exact (show Tryz.prog.wantsStandIn t=false by simpa using List.all_eq_true.1 hall t hm)⟩)
  Zg
end
end Go.Proofs.YtnmibokjpedkiaaGreatDoor.meaningPartitions
