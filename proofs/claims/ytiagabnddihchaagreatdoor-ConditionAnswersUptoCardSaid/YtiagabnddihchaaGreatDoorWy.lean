/- Conditions over finite domains (part Wy) -/
import Derived.Test.YtiagabnddihchaaGreatDoorWo
import Derived.Test.YtiagabnddihchaaGreatDoorRows
import Derived.Test.YtiagabnddihchaaGreatDoorWt
import Derived.Test.YtiagabnddihchaaGreatDoorTie
import Derived.Test.YtiagabnddihchaaGreatDoorCards
import Derived.SevenTiedAt
import Derived.Stop.Joined
import Derived.Deep.DeepWitnessRowRef
set_option maxRecDepth 100000
set_option maxHeartbeats 4000000
set_option linter.all false
namespace Go.Proofs.YtiagabnddihchaaGreatDoor
open Go.Am
theorem bulk_one {H:Type} (d:DataW H):1<=Rows.uptoBulk d:=by
 cases d with
 | lit l=>cases l<;>simp [Rows.uptoBulk]
 | _=>simp [Rows.uptoBulk]
theorem bulk_len {H:Type}: ∀es:List (DataW H),es.length<=Rows.uptoBulkAll es
 | []=>by simp
 | e::es=>by
   rw [Rows.uptoBulkAll]
   have:=bulk_len es
   have:=bulk_one e
   simp only [List.length_cons]
   omega
theorem bulk_at {H:Type}: ∀(es:List (DataW H)) (i:Nat) (hi:i<es.length),Rows.uptoBulk es[i]<=Rows.uptoBulkAll es
 | e::es,0,_=>by rw [Rows.uptoBulkAll];simp
 | e::es,i+1,h=>by
   rw [Rows.uptoBulkAll]
   have:=bulk_at es i (by simpa using h)
   simp only [List.getElem_cons_succ]
   omega
section
variable {H:Type} {enc:TypeId×Value->H} {w:World} {base:Nat} {spare:Nat->Bool} {held:Bool} {fuel:Nat} {cs:List Value} {x:DataW H×List MemPlace}
theorem rd_rowB (h:DataW.trod enc Tryz.prog w base spare held fuel 32 cs=some x): ∃l:Row,crep (E0 w).R (rRow l) cs/\l.length<=Rows.uptoBulk x.1:=by
 obtain ⟨l,h1,h2⟩:=rd_sliceP rV (fun _ _=>True) uVals c3v (by decide) h fun n cs' y _ hy=>by
  obtain ⟨v,hv⟩:=rd_val hy
  exact ⟨v,hv,trivial⟩
 refine ⟨l,h1,?_⟩
 rcases h2 with rfl | ⟨es,sp,e1,e2,_⟩
 ·simp
 ·rw [e1,Rows.uptoBulk]
  have:=bulk_len es
  omega
theorem rd_tabB (h:DataW.trod enc Tryz.prog w base spare held fuel 25 cs=some x):
 ∃d:List Row,crep (E0 w).R (rTab d) cs/\d.length<=Rows.uptoBulk x.1/\ ∀l∈d,l.length<=Rows.uptoBulk x.1:=by
 obtain ⟨l,h1,h2⟩:=rd_sliceP rRow (fun l y=>l.length<=Rows.uptoBulk y) uRows c1vs (by decide) h fun n cs' y _ hy=>rd_rowB hy
 refine ⟨l,h1,?_⟩
 rcases h2 with rfl | ⟨es,sp,e1,e2,e3⟩
 ·exact ⟨by simp,fun l hl=>absurd hl (by simp)⟩
 ·rw [e1,Rows.uptoBulk]
  have:=bulk_len es
  refine ⟨by omega,fun r hr=>?_⟩
  obtain ⟨i,hi,rfl⟩:=List.getElem_of_mem hr
  have h4:=e3 i hi (by omega)
  have h5:=bulk_at es i (by omega)
  omega
end
end Go.Proofs.YtiagabnddihchaaGreatDoor
namespace Go.Proofs.YtiagabnddihchaaGreatDoor.conditionAnswers
open Go.ChangeShapes Go.WideShapes Go.ChangeAt Go.RowKit Go.Am
theorem own:ownKnob Tryz.prog.godebug=none:=by kernel_rfl
theorem laidOut:laidOutB Tryz.prog=true:=by kernel_rfl
theorem cells3:Tryz.prog.cellsOf 3=1:=by kernel_rfl
theorem readable:(Tryz.f7.params.toList.all fun t=>Tryz.prog.readableRec t&&decide (t<Tryz.prog.types.size))=true:=by rw [Tryz.params7];kernel_rfl
theorem u_ex: ∃fs,Tryz.prog.underlying 29=some (.struct fs):=by
 have:=sEx
 unfold wD at this
 split at this
 ·rename_i fs hu;exact ⟨fs,hu⟩
 ·cases this
theorem rd_exA {H:Type} {enc:TypeId×Value->H} {w:World} {base:Nat} {spare:Nat->Bool} {held:Bool} {fuel:Nat} {cs:List Value} {x:DataW H×List MemPlace} (h:DataW.trod enc Tryz.prog w base spare held fuel 29 cs=some x): ∃e:Ex,crep (E0 w).R (rE e) cs:=rd_ex _ _ _ h
theorem aE_rep {e:Ex} {w:World} {cs:Array Value} (h:crep (E0 w).R (rE e) cs.toList):(aE e).rep (E0 w) (.agg cs):=by
 have:aE e=A.agg ((rE e).map .d):=by rw [zl,yI];rfl
 rw [this]
 exact crep_agg h
theorem i64_of' {x:Int} (h:(Lit.int .i64 x).wf=true):i64 x:=by
 have: -9223372036854775808<=x/\x<=9223372036854775807:=by simpa [Lit.wf,IntKind.min,IntKind.max,IntKind.signed,IntKind.bits] using h
 unfold i64
 omega
theorem contract (H:Type) (enc:TypeId×Value->H) (W:World) (base:Nat) (args:Array Value) (ds gs:List (DataW H)) (before:List MemPlace)
 (hval: ∀(j:Nat) t v,Tryz.f7.params[j]? =some t->args[j]? =some v->Value.okWide Tryz.prog W .any base t v)
 (hW:DataW.Whole enc Tryz.prog Tryz.f7.params.toList Rows.conditionAnswersSpec.vars false W args.toList ds gs before)
 (hL:laidMetH Tryz.prog Rows.conditionAnswersUptoRow.laid W) (hsh:W.ShapedOpen Tryz.prog) (hk:Rows.uptoSmall H (ds++gs)=true):
 Calls Tryz.prog 7 args W fun e W'=> ∃v,e= .returned v/\Rows.conditionAnswersSpec.post enc Tryz.prog Tryz.f7 false true false false W args v W':=by
 have hW':=hW
 obtain ⟨p,q,hA0,hV,rfl,hfz,hnd⟩:=hW
 have hA:DataW.TrodAll enc Tryz.prog W 0 (fun _=>true) true Tryz.f7.params.toList args.toList ds p:=hA0
 rw [Tryz.params7] at hA hval
 obtain ⟨v0,vs0,d0,ds0,p0,q0,hargs,rfl,rfl,h0,r0⟩:=trodAll_cons hA
 obtain ⟨v1,vs1,d1,ds1,p1,q1,rfl,rfl,rfl,h1,r1⟩:=trodAll_cons r0
 obtain ⟨v2,vs2,d2,ds2,p2,q2,rfl,rfl,rfl,h2,r2⟩:=trodAll_cons r1
 obtain ⟨v3,vs3,d3,ds3,p3,q3,rfl,rfl,rfl,h3,r3⟩:=trodAll_cons r2
 obtain ⟨v4,vs4,d4,ds4,p4,q4,rfl,rfl,rfl,h4,r4⟩:=trodAll_cons r3
 obtain ⟨rfl,rfl,rfl⟩:=trodAll_nil r4
 obtain rfl:args= #[v0,v1,v2,v3,v4]:=by cases args;simp_all
 obtain ⟨x0,w0,g0,_⟩:=open_sl Tryz.underlying22 ui64 cells3 (hval 0 22 v0 rfl rfl) h0
 obtain ⟨a1,l1,c1,rfl⟩:=okWide_slice uRows (hval 1 25 v1 rfl rfl)
 obtain ⟨f1,hf1⟩:=h1
 obtain ⟨y1,g1,hb1,hb2⟩:=rd_tabB (show DataW.trod enc Tryz.prog W 0 (fun _=>true) true f1 25 [.slice a1 l1 c1]=some (d1,p1) from hf1)
 obtain ⟨fs2,hfs2⟩:=u_ex
 obtain ⟨cs2,rfl,_⟩:=okWide_struct hfs2 (hval 2 29 v2 rfl rfl)
 obtain ⟨f2,hf2⟩:=h2
 obtain ⟨y2,g2⟩:=rd_exA (show DataW.trod enc Tryz.prog W 0 (fun _=>true) true f2 29 cs2.toList=some (d2,p2) from hf2)
 obtain ⟨fs3,hfs3⟩:=u_ex
 obtain ⟨cs3,rfl,_⟩:=okWide_struct hfs3 (hval 3 29 v3 rfl rfl)
 obtain ⟨f3,hf3⟩:=h3
 obtain ⟨y3,g3⟩:=rd_exA (show DataW.trod enc Tryz.prog W 0 (fun _=>true) true f3 29 cs3.toList=some (d3,p3) from hf3)
 obtain ⟨a4,l4,c4,rfl⟩:=okWide_slice uVals (hval 4 32 v4 rfl rfl)
 obtain ⟨f4,hf4⟩:=h4
 obtain ⟨y4,g4⟩:=rd_row (show DataW.trod enc Tryz.prog W 0 (fun _=>true) true f4 32 [.slice a4 l4 c4]=some (d4,p4) from hf4)
 have hr:repL (E0 W) [ints x0,aTab y1,aE y2,aE y3,aRow y4] [v0,.slice a1 l1 c1,.agg cs2,.agg cs3,.slice a4 l4 c4]:=k7 g0 (k7 (by simpa [aTab,rTab,A.rep] using g1.1.1) (k7 (aE_rep g2) (k7 (aE_rep g3) (k7 (by simpa [aRow,rRow,A.rep] using g4.1.1) repL_mk0))))
 have ht:=tabs_of hL
 have hbk:=of_decide_eq_true hk
 simp only [List.cons_append,Rows.uptoBulkAll] at hbk
 simp only at hb1 hb2
 refine ((c_lawA x0 (fun x h=>i64_of' (w0 x h)) y1 y2 y3 y4 (by omega) (fun l hl=>by have:=hb2 l hl;omega)).run (fun g row h=>(ht g row h).1) (fun g h=>?_) (fun g row h=>(ht g row h).2) hr).mono fun e W' ⟨he,hb⟩=>?_
 ·simp [Tab.ints] at h
 ·exact ⟨_,he,post_true hW' rfl laidOut readable rfl uboo rfl hb⟩
theorem door_met (os:Os) (args:Array Value):laidMetH Tryz.prog Rows.conditionAnswersUptoRow.laid ((World.doorLaid Tryz.prog 400 os).forCall (fun _ _=>0) ⟨#[],args,[]⟩).memory:=
 laidMetH_of_parts3 (fuel:=8) (laidMet_of_run' 8 (by kernel_rfl) (by kernel_rfl)) (by kernel_rfl) (by kernel_rfl)
theorem lifted (os:Os) (started:os.Started) (H:Type) (enc:TypeId×Value->H) (F:Stop.Interp):
 ReturnsInHanded {} Tryz.checked os 7 .any ((Rows.OpenSpec.upto Rows.conditionAnswersSpec).preRow enc Tryz.prog Tryz.f7 Rows.conditionAnswersUptoRow.domain false Rows.conditionAnswersUptoRow.laid) (((Rows.OpenSpec.upto Rows.conditionAnswersSpec).at F).post enc Tryz.prog Tryz.f7 false true false false):=by
 obtain ⟨x,hx,hk⟩:=Option.map_eq_some_iff.1 (show (DataW.whole enc Tryz.prog ((World.doorLaid Tryz.prog 400 os).forCall (fun _ _=>0) ⟨#[], #[.slice none 0 0,.slice none 0 0,.agg #[.int .i64 0,.int .i64 0,.int .i64 0,.string ByteArray.empty,.int .i64 0,.slice none 0 0],.agg #[.int .i64 0,.int .i64 0,.int .i64 0,.string ByteArray.empty,.int .i64 0,.slice none 0 0],.slice none 0 0],[]⟩).memory Tryz.f7.params.toList Rows.conditionAnswersSpec.vars false (#[.slice none 0 0,.slice none 0 0,.agg #[.int .i64 0,.int .i64 0,.int .i64 0,.string ByteArray.empty,.int .i64 0,.slice none 0 0],.agg #[.int .i64 0,.int .i64 0,.int .i64 0,.string ByteArray.empty,.int .i64 0,.slice none 0 0],.slice none 0 0]:Array Value).toList 8).map (fun x=>Rows.uptoSmall H (x.1++x.2.1))=some true by kernel_rfl)
 refine returnsInHanded_of_row (C:=Tryz.checked) (s:=Rows.OpenSpec.upto Rows.conditionAnswersSpec) own started (by kernel_rfl) Tryz.func7
  (witness_row_atRef (enc:=enc) (C:=Tryz.checked) false (World.doorLaid Tryz.prog 400 os) #[.slice none 0 0,.slice none 0 0,.agg #[.int .i64 0,.int .i64 0,.int .i64 0,.string ByteArray.empty,.int .i64 0,.slice none 0 0],.agg #[.int .i64 0,.int .i64 0,.int .i64 0,.string ByteArray.empty,.int .i64 0,.slice none 0 0],.slice none 0 0] rfl (by kernel_rfl) (by kernel_rfl) (by kernel_rfl)
    (OpenSpec.preRow_of_cond 8 hx (by rfl) (fun k hk'=>by cases hk';exact hk) (by kernel_rfl) (door_met os _))) ?_
 intro W base args ds gs before hval hW _ hcond _ hL hsh _
 exact contract H enc W base args ds gs before hval hW hL hsh (hcond _ rfl)
theorem lifted2 (os:Os) (started:os.Started) (H:Type) (enc:TypeId×Value->H) (F:Stop.Interp):
 ReturnsInHanded Rows.conditionAnswersUptoRow.assume Tryz.pinned.checked os 7 .any (Rows.conditionAnswersUptoRow.pre enc Tryz.pinned.checked.prog Tryz.f7 (Rows.OpenSpec.upto Rows.conditionAnswersSpec))
  (((Rows.OpenSpec.upto Rows.conditionAnswersSpec).at F).post enc Tryz.pinned.checked.prog Tryz.f7 Rows.conditionAnswersUptoRow.apart Rows.conditionAnswersUptoRow.fresh Rows.conditionAnswersUptoRow.handsOn Rows.conditionAnswersUptoRow.again):=by
 rw [OpenClaim.pre_eq_preRow]
 exact lifted os started H enc F
theorem row_proved:Rows.ConditionAnswersUptoSaid:=
 OpenClaim.holds_of_cond 7 Tryz.f7 rfl rfl rfl rfl rfl rfl rfl ⟨rfl,rfl,rfl,rfl,rfl⟩ rfl rfl rfl rfl rfl (by kernel_rfl) Tryz.func7 (by kernel_rfl)
  (of_decide_eq_true (by kernel_rfl)) (by unfold Func.isWrapper;first | (rw [if_pos (by decide+kernel)];kernel_rfl) | (rw [if_neg (by decide+kernel)];exact ⟨rfl,rfl⟩))
  (fun os started H enc _ F=>lifted2 os started H enc F)
theorem proved:Rows.ConditionAnswersUptoCardSaid:=
 Claim7.holds_tied_plain_at .later [] [.data, .data] true (true, "6757cc4831b5606286dcbefba24a185436d678f892efae1faf51d741b33f2066") false
  row_proved (fun _ h=>by cases h) (by kernel_rfl) (fun _ h=>by cases h) conditionAnswersUpto_row_tie rfl ⟨rfl,rfl⟩ (by kernel_rfl) rfl
  (fun f fn hf hfn=>by
    obtain rfl : f = 7 := Option.some.inj ((show Tryz.prog.funcNamed "querylab/querylablaw23.ConditionAnswers" = some 7 by kernel_rfl).symm.trans hf) |>.symm
    obtain rfl:fn=Tryz.f7:=(Option.some.inj (Tryz.func7.symm.trans hfn)).symm
    exact ⟨by kernel_rfl,fun j t ht=>by
     rw [Tryz.params7] at ht
     have hm:t∈[22,25,29,29,32]:=by simpa using Array.mem_of_getElem? ht
     have hall:([22,25,29,29,32].all fun u=> !Tryz.prog.wantsStandIn u)=true:=by kernel_rfl
     exact (show Tryz.prog.wantsStandIn t=false by simpa using List.all_eq_true.1 hall t hm)⟩)
  (by kernel_rfl)
end Go.Proofs.YtiagabnddihchaaGreatDoor.conditionAnswers
