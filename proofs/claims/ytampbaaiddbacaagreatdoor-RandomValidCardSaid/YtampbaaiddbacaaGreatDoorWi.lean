/- What random makes of a tape is valid, of its types, and not too large: a proof over an abstract machine of our own (part Wi) -/
import Derived.Test.YtampbaaiddbacaaGreatDoorWl
import Derived.Test.YtampbaaiddbacaaGreatDoorWn
import Derived.Test.YtampbaaiddbacaaGreatDoorTie
import Derived.Test.YtampbaaiddbacaaGreatDoorCards
import Derived.SevenTiedAt
import Derived.Stop.Joined
set_option maxRecDepth 100000
set_option maxHeartbeats 4000000
set_option linter.all false
namespace Go.Proofs.YtampbaaiddbacaaGreatDoor.randomValid
section
open Go.ChangeShapes Go.WideShapes Go.ChangeAt Go.RowKit Go.Am
theorem own:ownKnob Tryz.prog.godebug=none:=by kernel_rfl
theorem laidOut:laidOutB Tryz.prog=true:=by kernel_rfl
theorem cells3:Tryz.prog.cellsOf 3=1:=by kernel_rfl
theorem readable:(Tryz.f4.params.toList.all fun t=>Tryz.prog.readableRec t&&decide (t<Tryz.prog.types.size))=true:=by rw [Tryz.params4];kernel_rfl
theorem uu8:Tryz.prog.underlying 5=some (.int .u8):=by kernel_rfl
theorem range_u8 {m:Int} (h:(Lit.int .u8 m).wf=true):0<=m/\m<=255:=by simpa [Lit.wf,IntKind.min,IntKind.max,IntKind.signed,IntKind.bits] using h
theorem maxLen {W:World} (h:W.ShapedOpen Tryz.prog): ∃m,W.cell? ⟨1,0,none⟩=some (.int .i64 m):=
 Go.Proofs.cell_of_shapedOpen_int h (zero:= #[.int .i64 0]) (t:=3) (of_decide_eq_true (by kernel_rfl)) (by kernel_rfl) rfl (by kernel_rfl) (by kernel_rfl) ui64
theorem i64_of' {x:Int} (h:(Lit.int .i64 x).wf=true):i64 x:=by
 have: -9223372036854775808<=x/\x<=9223372036854775807:=by simpa [Lit.wf,IntKind.min,IntKind.max,IntKind.signed,IntKind.bits] using h
 unfold i64
 omega
theorem contract (H:Type) (enc:TypeId×Value->H) (W:World) (base:Nat) (args:Array Value) (ds gs:List (DataW H)) (before:List MemPlace)
 (hval: ∀(j:Nat) t v,Tryz.f4.params[j]? =some t->args[j]? =some v->Value.okWide Tryz.prog W .any base t v)
 (hW:DataW.Whole enc Tryz.prog Tryz.f4.params.toList Rows.randomValidSpec.vars false W args.toList ds gs before)
 (hL:laidMetH Tryz.prog Rows.randomValidRow.laid W) (hsh:W.ShapedOpen Tryz.prog):
 Calls Tryz.prog 4 args W fun e W'=> ∃v,e= .returned v/\Rows.randomValidSpec.post enc Tryz.prog Tryz.f4 false true false false W args v W':=by
 have hW':=hW
 obtain ⟨p,q,hA0,hV,rfl,hfz,hnd⟩:=hW
 have hA:DataW.TrodAll enc Tryz.prog W 0 (fun _=>true) true Tryz.f4.params.toList args.toList ds p:=hA0
 rw [Tryz.params4] at hA hval
 obtain ⟨v0,vs0,d0,ds0,p0,q0,hargs,rfl,rfl,h0,r0⟩:=trodAll_cons hA
 obtain ⟨v1,vs1,d1,ds1,p1,q1,rfl,rfl,rfl,h1,r1⟩:=trodAll_cons r0
 obtain ⟨v2,vs2,d2,ds2,p2,q2,rfl,rfl,rfl,h2,r2⟩:=trodAll_cons r1
 obtain ⟨rfl,rfl,rfl⟩:=trodAll_nil r2
 obtain rfl:args= #[v0,v1,v2]:=by cases args;simp_all
 obtain ⟨x0,w0,g0,_⟩:=open_sl Tryz.underlying22 ui64 cells3 (hval 0 22 v0 rfl rfl) h0
 obtain ⟨x1,w1,g1,_⟩:=open_sl Tryz.underlying22 ui64 cells3 (hval 1 22 v1 rfl rfl) h1
 obtain ⟨m2,rfl⟩:=okWide_int uu8 (hval 2 5 v2 rfl rfl)
 obtain ⟨f2,hf2⟩:=h2
 have w2:(Lit.int .u8 m2).wf=true:=by
  obtain ⟨n,e,_,hw⟩:=DataW.trod_int uu8 (show DataW.trod enc Tryz.prog W 0 (fun _=>true) true f2 5 [.int .u8 m2]=some (d2,p2) from hf2)
  simp only [List.cons.injEq,Value.int.injEq,and_true,true_and] at e
  rw [e];exact hw
 have g2:(A.d (.lit (.int .u8 m2))).rep (E0 W) (.int .u8 m2):=by simp [A.rep,D.rep,Go.Am.one]
 have hr:repL (E0 W) [ints x0,ints x1,.d (.lit (.int .u8 m2))] [v0,v1,.int .u8 m2]:=repL_mk g0 (repL_mk g1 (repL_mk g2 repL_mk0))
 have hm:=maxLen hsh
 have ht:=tabs_of hL
 refine ((c_lawV x0 (fun x h=>i64_of' (w0 x h)) x1 (fun x h=>i64_of' (w1 x h)) m2 (range_u8 w2).1 (range_u8 w2).2).run (fun g row h=>(ht g row h).1) (fun g h=>?_) (fun g row h=>(ht g row h).2) hr).mono fun e W' ⟨he,hb⟩=>?_
 ·obtain rfl:g=1:=by simpa [Tab.ints] using h
  obtain ⟨m,hm⟩:=hm
  exact ⟨m,E0_cell hm⟩
 ·exact ⟨_,he,post_true hW' rfl laidOut readable rfl uboo rfl hb⟩
theorem door_met (os:Os) (args:Array Value):laidMetH Tryz.prog Rows.randomValidRow.laid ((World.doorLaid Tryz.prog 400 os).forCall (fun _ _=>0) ⟨#[],args,[]⟩).memory:=
 laidMetH_of_parts3 (fuel:=8) (laidMet_of_run' 8 (by kernel_rfl) (by kernel_rfl)) (by kernel_rfl) (by kernel_rfl)
theorem lifted (os:Os) (started:os.Started) (H:Type) (enc:TypeId×Value->H):
 ReturnsInHanded {} Tryz.checked os 4 .any (fun w args=>(Rows.randomValidSpec.pre enc Tryz.prog Tryz.f4 [] false w args/\laidMetH Tryz.prog Rows.randomValidRow.laid w)/\sizedMet enc Tryz.prog Tryz.f4 (OpenSpec.ofChange Rows.randomValidSpec) false w args)
  (Rows.randomValidSpec.post enc Tryz.prog Tryz.f4 false true false false):=by
 refine kY (C:=Tryz.checked) (X:=fun w _=>laidMetH Tryz.prog Rows.randomValidRow.laid w) (fun _ _ _ hh h=>h.of_heap hh) own started (by kernel_rfl) Tryz.func4
  (ChangeSpec.witness_shaped (enc:=enc) (C:=Tryz.checked) (os:=os) (X:=fun w _=>laidMetH Tryz.prog Rows.randomValidRow.laid w) false (World.doorLaid Tryz.prog 400 os) #[.slice none 0 0,.slice none 0 0,.int .u8 0] 8 rfl (World.shaped_of_RefB (by kernel_rfl) (by kernel_rfl)) (by kernel_rfl) (by kernel_rfl) (by kernel_rfl) (door_met os _)) ?_
 intro W base args ds gs before hval hW hL hsh
 exact contract H enc W base args ds gs before hval hW hL hsh
theorem row_proved:Rows.RandomValidSaid:=
 OpenClaim.holds_of_wide 4 Tryz.f4 rfl rfl rfl rfl rfl rfl rfl ⟨rfl,rfl,rfl,rfl,rfl⟩ rfl rfl rfl rfl rfl (by kernel_rfl) Tryz.func4 (by kernel_rfl)
  (of_decide_eq_true (by kernel_rfl)) (by unfold Func.isWrapper;first | (rw [if_pos (by decide+kernel)];kernel_rfl) | (rw [if_neg (by decide+kernel)];exact ⟨rfl,rfl⟩))
  (fun os started H enc _=>lifted os started H enc)
theorem proved:Rows.RandomValidCardSaid:=
 Claim7.holds_tied_plain_at .later [] [.data, .data, .data, .data, .data, .data] true (true, "b5947bc6d3d3c419f2e3af056b7c4f0a8e0abd1c90f30d2d8cb433bcc460adcc") false
  row_proved (fun _ h=>by cases h) (by kernel_rfl) (fun _ h=>by cases h) randomValid_row_tie rfl ⟨rfl,rfl⟩ (by kernel_rfl) rfl
  (fun f fn hf hfn=>by
    obtain rfl : f = 4 := Option.some.inj ((show Tryz.prog.funcNamed "querylab/querylablaw32.RandomValid" = some 4 by kernel_rfl).symm.trans hf) |>.symm
    obtain rfl:fn=Tryz.f4:=(Option.some.inj (Tryz.func4.symm.trans hfn)).symm
    exact ⟨by kernel_rfl,fun j t ht=>by
     rw [Tryz.params4] at ht
     have hm:t∈[22,22,5]:=by simpa using Array.mem_of_getElem? ht
     have hall:([22,22,5].all fun u=> !Tryz.prog.wantsStandIn u)=true:=by kernel_rfl
     exact (show Tryz.prog.wantsStandIn t=false by simpa using List.all_eq_true.1 hall t hm)⟩)
  (by kernel_rfl)
end
end Go.Proofs.YtampbaaiddbacaaGreatDoor.randomValid
