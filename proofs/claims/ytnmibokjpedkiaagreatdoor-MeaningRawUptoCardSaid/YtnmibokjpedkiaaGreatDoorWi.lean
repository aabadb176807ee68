/- Queries over made schemas answer as specified (part Wi) -/
import Derived.Test.YtnmibokjpedkiaaGreatDoorWo
import Derived.Test.YtnmibokjpedkiaaGreatDoorRows
import Derived.Test.YtnmibokjpedkiaaGreatDoorTie
import Derived.Test.YtnmibokjpedkiaaGreatDoorCards
import Derived.SevenTiedAt
import Derived.Stop.Joined
import Derived.Deep.DeepWitnessRowRef
set_option maxRecDepth 100000
set_option maxHeartbeats 4000000
set_option linter.all false
namespace Go.Proofs.YtnmibokjpedkiaaGreatDoor
open Go.Am
attribute [local simp, local push_cast] num boo str
open Go.ChangeShapes Go.WideShapes Go.ChangeAt Go.RowKit
def fldOk (P:Program) (t:TypeId) (fl:List (TypeId×Nat×Nat)) (N:Nat):Bool:=match P.underlying t with
 | some (.struct fs)=>fs.toList.map (fun f=>(f.type,f.offset,P.cellsOf f.type))==fl&&P.cellsOf t==N
 | _=>false
theorem rd_flds {H:Type} {enc:TypeId×Value->H} {P:Program} {w:World} {base:Nat} {spare:Nat->Bool} {held:Bool} {t:TypeId} {fuel:Nat} {cs:List Value} {x:DataW H×List MemPlace} (fl:List (TypeId×Nat×Nat)) (N:Nat)
 (hs:fldOk P t fl N=true) (h:DataW.trod enc P w base spare held fuel t cs=some x): ∃(n:Nat) (xs:List (DataW H×List MemPlace)),fuel=n+1/\x.1= .agg (xs.map (·.1))/\xs.length=fl.length/\cs.length=N/\
   ∀(i:Nat) (u o k:Nat),fl[i]? =some (u,o,k)->DataW.trod enc P w base spare held n u ((cs.drop o).take k)=xs[i]? :=by
 unfold fldOk at hs
 split at hs
 ·rename_i fs hu;simp only [Ys,beq_iff_eq] at hs;obtain ⟨h1,h2⟩:=hs;obtain ⟨xs,n,hn,h0,hl,hx,hf⟩:=DataW.trod_struct hu h;rw [h2] at hl;refine ⟨n,xs,hn,ZB h0,by rw [hx,<-h1];simp,hl,fun i u o k hi=>?_⟩;rw [<-h1,List.getElem?_map,YI] at hi;obtain ⟨f,hf1,he⟩:=hi;simp only [Prod.mk.injEq] at he;obtain ⟨rfl,rfl,rfl⟩:=he;exact hf i f (Zc hf1)
 ·cases hs
theorem crep_cat {R:Rd}: ∀{a b:List D} {c d:List Value},crep R a c->crep R b d->crep R (a++b) (c++d)
 | [],b,[],d,_,h=>h
 | x::a,b,v::c,d,h1,h2=>⟨h1.1,crep_cat h1.2 h2⟩
 | [],_,_::_,_,h,_=>h.elim
 | _::_,_,[],_,h,_=>h.elim
theorem xb {R:Rd} {a b:List D} {cs:List Value} (o k:Nat) (h1:crep R a ((cs.drop o).take k)) (h2:crep R b (cs.drop (o+k))):crep R (a++b) (cs.drop o):=by
 have:=crep_cat h1 h2;rwa [<-Uk,Yn] at this
theorem bulk_one {H:Type} (d:DataW H):1<=Rows.uptoBulk d:=by
 cases d with
 | lit l=>cases l<;>simp [Rows.uptoBulk]
 | _=>simp [Rows.uptoBulk]
theorem bulk_sum {H α:Type} (μ:α->Nat): ∀(l:List α) (es:List (DataW H)),es.length=l.length->(∀(i:Nat) (hi:i<l.length) (hj:i<es.length),μ l[i]<=Rows.uptoBulk es[i])->(l.map μ).sum<=Rows.uptoBulkAll es
 | [],_,_,_=>Zd
 | a::l,[],h,_=>by simp at h
 | a::l,e::es,h,hp=>by
   rw [Yw,Uv,Rows.uptoBulkAll];have h0:=hp 0 Zd Zd;have:=bulk_sum μ l es (Zc h) fun i hi hj=>by have:=hp (i+1) (Zc hi) (Zc hj);simpa using this
   simp only [List.getElem_cons_zero] at h0;omega
theorem sQry:fldOk Tryz.prog 41 [(3,0,1),(9,1,1),(3,2,1),(4,3,1),(36,4,6),(34,10,1),(37,11,1),(22,12,1),(38,13,1),(39,14,1)] 15=true:=Zf
theorem sExF:fldOk Tryz.prog 36 [(3,0,1),(3,1,1),(2,2,1),(9,3,1),(3,4,1),(34,5,1)] 6=true:=Zf
theorem sAggF:fldOk Tryz.prog 68 [(3,0,1),(36,1,6)] 7=true:=Zf
theorem uAggs:Tryz.prog.underlying 37=some (.slice 68):=Zf
theorem uQrs:Tryz.prog.underlying 39=some (.slice 41):=Zf
theorem c15q:Tryz.prog.cellsOf 41=15:=Zf
section
variable {H:Type} {enc:TypeId×Value->H} {w:World} {base:Nat} {spare:Nat->Bool} {held:Bool} {fuel:Nat} {cs:List Value} {x:DataW H×List MemPlace}
theorem jk {P:Program} {t e:TypeId} {α:Type} (f:α->List D) (μ:α->Nat) {wd:Nat} (ht:P.underlying t=some (.slice e)) (hc:P.cellsOf e=wd) (hw0:0<wd) (h:DataW.trod enc P w base spare held fuel t cs=some x)
 (he: ∀n cs' y,n<fuel->DataW.trod enc P w base spare held n e cs'=some y-> ∃a:α,crep (E0 w).R (f a) cs'/\μ a<=Rows.uptoBulk y.1):
 ∃l:List α,crep (E0 w).R [.sl wd (zd f l)] cs/\(l.map μ).sum<=Rows.uptoBulk x.1:=by
 obtain ⟨l,h1,h2⟩:=rd_sliceP f (fun a y=>μ a<=Rows.uptoBulk y) ht hc hw0 h he;refine ⟨l,h1,?_⟩;rcases h2 with rfl | ⟨es,sp,e1,e2,e3⟩
 ·simp
 ·rw [e1,Rows.uptoBulk];have:=bulk_sum μ l es e2 e3;omega
theorem rd_exB: ∀(fuel:Nat) (cs:List Value) (x:DataW H×List MemPlace),DataW.trod enc Tryz.prog w base spare held fuel 36 cs=some x→ ∃e:{e:Ex // OkX e},crep (E0 w).R (rE e.1) cs∧tszE e.1≤Rows.uptoBulk x.1:=by
 intro fuel
 induction fuel using Nat.strongRecOn with
 | ind fuel ih=>
   intro cs x h;obtain ⟨n,xs,hn,hx,hxl,hl,hf⟩:=rd_flds _ _ sExF h
   match xs,hxl,hx,hf with
   | [y0,y1,y2,y3,y4,y5],_,hx,hf=>
     obtain ⟨a0,_,r0⟩:=uI (R:=(E0 w).R) ui64 (hf 0 _ _ _ rfl);obtain ⟨a1,_,r1⟩:=uI (R:=(E0 w).R) ui64 (hf 1 _ _ _ rfl);obtain ⟨a2,wa,r2⟩:=uI (R:=(E0 w).R) uint64 (hf 2 _ _ _ rfl);obtain ⟨a3,ws,r3⟩:=rd_strX (R:=(E0 w).R) ustr (hf 3 _ _ _ rfl);obtain ⟨a4,_,r4⟩:=uI (R:=(E0 w).R) ui64 (hf 4 _ _ _ rfl);obtain ⟨ks,r5,b5⟩:=jk (fun v:{e:Ex // OkX e}=>rE v.1) (fun v=>tszE v.1) uExs c6e Zi (hf 5 _ _ _ rfl) fun m cs' y hm hy=>ih m Za cs' y hy;have hk:zd (fun v:{e:Ex // OkX e}=>rE v.1) ks=zd rE (ks.map (·.1)):=Xt;rw [hk] at r5;have hend:crep (E0 w).R [] (cs.drop 6):=by rw [Y9 (by omega)];trivial
     have hc:=xb 0 1 r0 (xb 1 1 r1 (xb 2 1 r2 (xb 3 1 r3 (xb 4 1 r4 (xb 5 1 r5 hend)))));rw [List.drop_zero] at hc;refine ⟨⟨.mk a0 a1 a2 a3 a4 (ks.map (·.1)),⟨_,i64_of wa,ws,fun k hk2=>?_⟩⟩,by rw [yX];exact hc,?_⟩
     ·obtain ⟨u,_,rfl⟩:=Y4.1 (show k∈ks.map (·.1) from hk2);exact u.2
     ·rw [hx,tszE_eq];have e5:((ks.map (·.1)).map tszE).sum=(ks.map fun v=>tszE v.1).sum:=by rw [Ul];rfl
      show 1+((ks.map (·.1)).map tszE).sum<=_;rw [e5];simp only [Yw,Uz,Rows.uptoBulk,Rows.uptoBulkAll];omega
theorem rd_aggB (h:DataW.trod enc Tryz.prog w base spare held fuel 68 cs=some x): ∃a:{a:Agg // OkX a.arg},crep (E0 w).R (rAgg a.1) cs/\tszE a.1.arg<=Rows.uptoBulk x.1:=by
 obtain ⟨n,xs,hn,hx,hxl,hl,hf⟩:=rd_flds _ _ sAggF h
 match xs,hxl,hx,hf with
 | [y0,y1],_,hx,hf=>
   obtain ⟨a0,_,r0⟩:=uI (R:=(E0 w).R) ui64 (hf 0 _ _ _ rfl);obtain ⟨e,r1,b1⟩:=rd_exB _ _ _ (hf 1 _ _ _ rfl);have hend:crep (E0 w).R [] (cs.drop 7):=by rw [Y9 (by omega)];trivial
   have hc:=xb 0 1 r0 (xb 1 6 r1 hend);rw [List.drop_zero,Yv] at hc;refine ⟨⟨⟨a0,e.1⟩,e.2⟩,by rw [yF];rw [yX] at hc;exact hc,?_⟩;rw [hx];simp only [Yw,Uz,Rows.uptoBulk,Rows.uptoBulkAll];omega
theorem rd_rowB (h:DataW.trod enc Tryz.prog w base spare held fuel 53 cs=some x): ∃l:{r:Row // ∀v∈r,okV v},crep (E0 w).R (rRow l.1) cs/\l.1.length<=Rows.uptoBulk x.1:=by
 obtain ⟨l,hl,hb⟩:=jk (fun v:{v:Val // okV v}=>rV v.1) (fun _=>1) uVals c3v Zi h fun n cs' y _ hy=>by
  obtain ⟨v,hv⟩:=rd_valX hy;exact ⟨v,hv,bulk_one _⟩
 refine ⟨⟨l.map (·.1),fun v hv=>?_⟩,?_,?_⟩
 ·obtain ⟨u,_,rfl⟩:=Y4.1 hv;exact u.2
 ·have:zd rV (l.map (·.1))=zd (fun v:{v:Val // okV v}=>rV v.1) l:=Xt;show crep (E0 w).R [.sl 3 (zd rV (l.map (·.1)))] cs;rw [this];exact hl
 ·have e: ∀l:List {v:Val // okV v},(l.map fun _=>1).sum=l.length:=fun l=>by induction l with | nil=>rfl | cons a l ih=>rw [Yw,Uv,ih,Y6];omega
  rw [e] at hb;show (l.map (·.1)).length<=_;rw [Y2];exact hb
theorem rd_qry: ∀(fuel:Nat) (cs:List Value) (x:DataW H×List MemPlace),DataW.trod enc Tryz.prog w base spare held fuel 41 cs=some x→ ∃q:{q:Qr // OkXQ q},crep (E0 w).R (rQ q.1) cs∧tszQ q.1≤Rows.uptoBulk x.1:=by
 intro fuel
 induction fuel using Nat.strongRecOn with
 | ind fuel ih=>
   intro cs x h;obtain ⟨n,xs,hn,hx,hxl,hl,hf⟩:=rd_flds _ _ sQry h
   match xs,hxl,hx,hf with
   | [y0,y1,y2,y3,y4,y5,y6,y7,y8,y9],_,hx,hf=>
     obtain ⟨a0,_,r0⟩:=uI (R:=(E0 w).R) ui64 (hf 0 _ _ _ rfl);obtain ⟨a1,r1⟩:=rd_str (R:=(E0 w).R) ustr (hf 1 _ _ _ rfl);obtain ⟨a2,_,r2⟩:=uI (R:=(E0 w).R) ui64 (hf 2 _ _ _ rfl);obtain ⟨a3,r3⟩:=rd_bool (R:=(E0 w).R) uboo (hf 3 _ _ _ rfl);obtain ⟨⟨a4,x4⟩,r4,b4⟩:=rd_exB _ _ _ (hf 4 _ _ _ rfl);obtain ⟨es,r5,b5⟩:=jk (fun v:{e:Ex // OkX e}=>rE v.1) (fun v=>tszE v.1) uExs c6e Zi (hf 5 _ _ _ rfl) fun m cs' y hm hy=>rd_exB _ _ _ hy;obtain ⟨gs,r6,b6⟩:=jk (fun v:{a:Agg // OkX a.arg}=>rAgg v.1) (fun v=>tszE v.1.arg) uAggs c7a Zi (hf 6 _ _ _ rfl) fun m cs' y hm hy=>rd_aggB hy;obtain ⟨ts,r7⟩:=rd_ints (hf 7 _ _ _ rfl);obtain ⟨rs,r8,b8⟩:=jk (fun v:{r:Row // ∀v∈r,okV v}=>rRow v.1) (fun v=>v.1.length) uRows c1vs Zi (hf 8 _ _ _ rfl) fun m cs' y hm hy=>rd_rowB hy;obtain ⟨ks,r9,b9⟩:=jk (fun v:{q:Qr // OkXQ q}=>rQ v.1) (fun v=>tszQ v.1) uQrs c15q Zi (hf 9 _ _ _ rfl) fun m cs' y hm hy=>ih m Za cs' y hy;have k5:zd (fun v:{e:Ex // OkX e}=>rE v.1) es=zd rE (es.map (·.1)):=Xt;have k6:zd (fun v:{a:Agg // OkX a.arg}=>rAgg v.1) gs=zd rAgg (gs.map (·.1)):=Xt;have k8:zd (fun v:{r:Row // ∀v∈r,okV v}=>rRow v.1) rs=zd rRow (rs.map (·.1)):=Xt;have k9:zd (fun v:{q:Qr // OkXQ q}=>rQ v.1) ks=zd rQ (ks.map (·.1)):=Xt;rw [k5] at r5;rw [k6] at r6;rw [k8] at r8;rw [k9] at r9;have hend:crep (E0 w).R [] (cs.drop 15):=by rw [Y9 (by omega)];trivial
     have hc:=xb 0 1 r0 (xb 1 1 r1 (xb 2 1 r2 (xb 3 1 r3 (xb 4 6 r4 (xb 10 1 r5 (xb 11 1 r6 (xb 12 1 r7 (xb 13 1 r8 (xb 14 1 r9 hend)))))))));rw [List.drop_zero] at hc;refine ⟨⟨.mk a0 a1 a2 a3 a4 (es.map (·.1)) (gs.map (·.1)) ts (rs.map (·.1)) (ks.map (·.1)),.mk _ ⟨x4,fun e he=>?_,fun a ha=>?_,fun r hr=>?_⟩ fun k hk=>?_⟩,?_,?_⟩
     ·obtain ⟨u,_,rfl⟩:=Y4.1 (show e∈es.map (·.1) from he);exact u.2
     ·obtain ⟨u,_,rfl⟩:=Y4.1 (show a∈gs.map (·.1) from ha);exact u.2
     ·obtain ⟨u,_,rfl⟩:=Y4.1 (show r∈rs.map (·.1) from hr);exact u.2
     ·obtain ⟨u,_,rfl⟩:=Y4.1 (show k∈ks.map (·.1) from hk);exact u.2
     ·rw [yX] at hc;rw [xZ];exact hc
     ·rw [hx,tszQ_eq];have e5:((es.map (·.1)).map tszE).sum=(es.map fun v=>tszE v.1).sum:=by rw [Ul];rfl
      have e6:((gs.map (·.1)).map fun a=>tszE a.arg).sum=(gs.map fun v=>tszE v.1.arg).sum:=by rw [Ul];rfl
      have e8:((rs.map (·.1)).map List.length).sum=(rs.map fun v=>v.1.length).sum:=by rw [Ul];rfl
      have e9:((ks.map (·.1)).map tszQ).sum=(ks.map fun v=>tszQ v.1).sum:=by rw [Ul];rfl
      show 1+(tszE a4+((es.map (·.1)).map tszE).sum+((gs.map (·.1)).map fun a=>tszE a.arg).sum+((rs.map (·.1)).map List.length).sum)+((ks.map (·.1)).map tszQ).sum<=_;rw [e5,e6,e8,e9];simp only [Yw,Uz,Rows.uptoBulk,Rows.uptoBulkAll];simp only at b4;omega
end
end Go.Proofs.YtnmibokjpedkiaaGreatDoor
namespace Go.Proofs.YtnmibokjpedkiaaGreatDoor.meaningRaw
open Go.ChangeShapes Go.WideShapes Go.ChangeAt Go.RowKit Go.Am
theorem own:ownKnob Tryz.prog.godebug=none:=Zf
theorem laidOut:laidOutB Tryz.prog=true:=Zf
theorem cells3:Tryz.prog.cellsOf 3=1:=Zf
theorem readable:(Tryz.f4.params.toList.all fun t=>Tryz.prog.readableRec t&&decide (t<Tryz.prog.types.size))=true:=by rw [Tryz.params4];kernel_rfl
theorem u_inst: ∃fs,Tryz.prog.underlying 32=some (.struct fs):=by
 have:=sIns;unfold vW at this
 split at this
 ·rename_i fs hu;exact ⟨fs,hu⟩
 ·cases this
theorem u_qry: ∃fs,Tryz.prog.underlying 41=some (.struct fs):=by
 have:=sQry;unfold fldOk at this
 split at this
 ·rename_i fs hu;exact ⟨fs,hu⟩
 ·cases this
theorem maxLen {W:World} (h:W.ShapedOpen Tryz.prog): ∃m,W.cell? ⟨3,0,none⟩=some (.int .i64 m):=
 Go.Proofs.cell_of_shapedOpen_int h (zero:= #[.int .i64 0]) (t:=3) (Yc Zf) Zf rfl Zf Zf ui64
theorem i64_of' {x:Int} (h:(Lit.int .i64 x).wf=true):i64 x:=by
 have: -9223372036854775808<=x/\x<=9223372036854775807:=by simpa [Lit.wf,IntKind.min,IntKind.max,IntKind.signed,IntKind.bits] using h
 unfold i64;omega
theorem contract (H:Type) (enc:TypeId×Value->H) (W:World) (base:Nat) (args:Array Value) (ds gs:List (DataW H)) (before:List MemPlace)
 (hval: ∀(j:Nat) t v,Tryz.f4.params[j]? =some t->args[j]? =some v->Value.okWide Tryz.prog W .any base t v)
 (hW:DataW.Whole enc Tryz.prog Tryz.f4.params.toList Rows.meaningRawSpec.vars false W args.toList ds gs before)
 (hL:laidMetH Tryz.prog Rows.meaningRawUptoRow.laid W) (hsh:W.ShapedOpen Tryz.prog) (hk:Rows.uptoSmall H (ds++gs)=true):
 Calls Tryz.prog 4 args W fun e W'=> ∃v,e= .returned v/\Rows.meaningRawSpec.post enc Tryz.prog Tryz.f4 false true false false W args v W':=by
 have hW':=hW;obtain ⟨p,q,hA0,hV,rfl,hfz,hnd⟩:=hW;have hA:DataW.TrodAll enc Tryz.prog W 0 (fun _=>true) true Tryz.f4.params.toList args.toList ds p:=hA0;rw [Tryz.params4] at hA hval;obtain ⟨v0,vs0,d0,ds0,p0,q0,hargs,rfl,rfl,h0,r0⟩:=trodAll_cons hA;obtain ⟨v1,vs1,d1,ds1,p1,q1,rfl,rfl,rfl,h1,r1⟩:=trodAll_cons r0;obtain ⟨v2,vs2,d2,ds2,p2,q2,rfl,rfl,rfl,h2,r2⟩:=trodAll_cons r1;obtain ⟨rfl,rfl,rfl⟩:=trodAll_nil r2;obtain rfl:args= #[v0,v1,v2]:=by cases args;simp_all
 obtain ⟨x0,w0,g0,_⟩:=open_sl Tryz.underlying22 ui64 cells3 (hval 0 22 v0 rfl rfl) h0;obtain ⟨fs1,hfs1⟩:=u_inst;obtain ⟨cs1,rfl,_⟩:=okWide_struct hfs1 (hval 1 32 v1 rfl rfl);obtain ⟨f1,hf1⟩:=h1;obtain ⟨y1,g1⟩:=rd_ins (show DataW.trod enc Tryz.prog W 0 (fun _=>true) true f1 32 cs1.toList=some (d1,p1) from hf1);obtain ⟨fs2,hfs2⟩:=u_qry;obtain ⟨cs2,rfl,_⟩:=okWide_struct hfs2 (hval 2 41 v2 rfl rfl);obtain ⟨f2,hf2⟩:=h2;obtain ⟨⟨y2,hq2⟩,g2,hb2⟩:=rd_qry _ _ _ (show DataW.trod enc Tryz.prog W 0 (fun _=>true) true f2 41 cs2.toList=some (d2,p2) from hf2);have hr:repL (E0 W) [ints x0,z7 y1,aQ y2] [v0,.agg cs1,.agg cs2]:=repL_mk g0 (repL_mk (crep_agg g1) (repL_mk (crep_agg g2) repL_mk0));have hm:=maxLen hsh;have hbk:=Yc hk;simp only [YL,Rows.uptoBulkAll] at hbk;simp only at hb2;have ht:=tabs_of hL;refine ((c_lawW x0 (fun x h=>i64_of' (w0 x h)) y1 y2 hq2 Za).run (fun g row h=>(ht g row h).1) (fun g h=>?_) (fun g row h=>(ht g row h).2) hr).mono fun e W' ⟨he,hb⟩=>?_
 ·obtain rfl:g=3:=by simpa [Tab.ints] using h
  obtain ⟨m,hm⟩:=hm;exact ⟨m,E0_cell hm⟩
 ·exact ⟨_,he,post_true hW' rfl laidOut readable rfl uboo rfl hb⟩
theorem door_met (os:Os) (args:Array Value):laidMetH Tryz.prog Rows.meaningRawUptoRow.laid ((World.doorLaid Tryz.prog 400 os).forCall (fun _ _=>0) ⟨#[],args,[]⟩).memory:=
 laidMetH_of_parts3 (fuel:=8) (laidMet_of_run' 8 Zf Zf) Zf Zf
theorem lifted (os:Os) (started:os.Started) (H:Type) (enc:TypeId×Value->H) (F:Stop.Interp):
 ReturnsInHanded {} Tryz.checked os 4 .any ((Rows.OpenSpec.upto Rows.meaningRawSpec).preRow enc Tryz.prog Tryz.f4 Rows.meaningRawUptoRow.domain false Rows.meaningRawUptoRow.laid) (((Rows.OpenSpec.upto Rows.meaningRawSpec).at F).post enc Tryz.prog Tryz.f4 false true false false):=by
 obtain ⟨x,hx,hk⟩:=YI.1 (show (DataW.whole enc Tryz.prog ((World.doorLaid Tryz.prog 400 os).forCall (fun _ _=>0) ⟨#[], #[.slice none 0 0,.agg #[.slice none 0 0],.agg #[.int .i64 0,.string ByteArray.empty,.int .i64 0,.bool false,.int .i64 0,.int .i64 0,.int .i64 0,.string ByteArray.empty,.int .i64 0,.slice none 0 0,.slice none 0 0,.slice none 0 0,.slice none 0 0,.slice none 0 0,.slice none 0 0]],[]⟩).memory Tryz.f4.params.toList Rows.meaningRawSpec.vars false (#[.slice none 0 0,.agg #[.slice none 0 0],.agg #[.int .i64 0,.string ByteArray.empty,.int .i64 0,.bool false,.int .i64 0,.int .i64 0,.int .i64 0,.string ByteArray.empty,.int .i64 0,.slice none 0 0,.slice none 0 0,.slice none 0 0,.slice none 0 0,.slice none 0 0,.slice none 0 0]]:Array Value).toList 8).map (fun x=>Rows.uptoSmall H (x.1++x.2.1))=some true from Zf);refine returnsInHanded_of_row (C:=Tryz.checked) (s:=Rows.OpenSpec.upto Rows.meaningRawSpec) own started Zf Tryz.func4
  (witness_row_atRef (enc:=enc) (C:=Tryz.checked) false (World.doorLaid Tryz.prog 400 os) #[.slice none 0 0,.agg #[.slice none 0 0],.agg #[.int .i64 0,.string ByteArray.empty,.int .i64 0,.bool false,.int .i64 0,.int .i64 0,.int .i64 0,.string ByteArray.empty,.int .i64 0,.slice none 0 0,.slice none 0 0,.slice none 0 0,.slice none 0 0,.slice none 0 0,.slice none 0 0]] rfl Zf Zf Zf
    (OpenSpec.preRow_of_cond 8 hx (by rfl) (fun k hk'=>by cases hk';exact hk) Zf (door_met os _))) ?_
 intro W base args ds gs before hval hW _ hcond _ hL hsh _;exact contract H enc W base args ds gs before hval hW hL hsh (hcond _ rfl)
end Go.Proofs.YtnmibokjpedkiaaGreatDoor.meaningRaw
namespace Go.Proofs.YtnmibokjpedkiaaGreatDoor.meaningRaw
open Go.ChangeShapes Go.WideShapes Go.ChangeAt Go.RowKit Go.Am
theorem lifted2 (os:Os) (started:os.Started) (H:Type) (enc:TypeId×Value->H) (F:Stop.Interp):
 ReturnsInHanded Rows.meaningRawUptoRow.assume Tryz.pinned.checked os 4 .any (Rows.meaningRawUptoRow.pre enc Tryz.pinned.checked.prog Tryz.f4 (Rows.OpenSpec.upto Rows.meaningRawSpec))
  (((Rows.OpenSpec.upto Rows.meaningRawSpec).at F).post enc Tryz.pinned.checked.prog Tryz.f4 Rows.meaningRawUptoRow.apart Rows.meaningRawUptoRow.fresh Rows.meaningRawUptoRow.handsOn Rows.meaningRawUptoRow.again):=by
 rw [OpenClaim.pre_eq_preRow];exact lifted os started H enc F
theorem r1:joinedFacts Tryz.pinned.checked.prog 4 Tryz.f4 (Rows.OpenSpec.upto Rows.meaningRawSpec).bare Rows.meaningRawUptoRow=true:=Zf
theorem r2:Tryz.f4.isInstance Tryz.pinned.checked.prog Rows.meaningRawUptoRow.origin Rows.meaningRawUptoRow.targs:=Yc Zf
theorem r3:Tryz.f4.isWrapper Tryz.pinned.checked.prog Rows.meaningRawUptoRow.wrapper Rows.meaningRawUptoRow.mainSum:=by unfold Func.isWrapper;first | (rw [if_pos (by decide+kernel)];kernel_rfl) | (rw [if_neg (by decide+kernel)];exact ⟨rfl,rfl⟩)
theorem r4:Tryz.pinned.checked.prog.funcNamed Rows.meaningRawUptoRow.func=some 4:=Zf
theorem row_proved:Rows.MeaningRawUptoSaid:=
 OpenClaim.holds_of_cond 4 Tryz.f4 rfl rfl rfl rfl rfl rfl rfl ⟨rfl,rfl,rfl,rfl,rfl⟩ rfl rfl rfl rfl rfl r4 Tryz.func4 r1 r2 r3
  (fun os started H enc _ F=>lifted2 os started H enc F)
theorem proved:Rows.MeaningRawUptoCardSaid:=
 Claim7.holds_tied_plain_at .later [] [.data, .data, .data] true (true, "99c31e5e7fe800060cd328e9f8feb0327df292dc31cdf73f4a2e764a23ef275c") false
  row_proved (fun _ h=>by cases h) Zf (fun _ h=>by cases h) meaningRawUpto_row_tie rfl ⟨rfl,rfl⟩ Zf rfl
  (fun f fn hf hfn=>by
    obtain rfl : f = 4 := Option.some.inj ((show Tryz.prog.funcNamed "querylab/querylablaw08.MeaningRaw" = some 4 from Zf).symm.trans hf) |>.symm;obtain rfl:fn=Tryz.f4:=(Option.some.inj (Tryz.func4.symm.trans hfn)).symm;exact ⟨Zf,fun j t ht=>by
     rw [Tryz.params4] at ht;have hm:t∈[22,32,41]:=by simpa using Array.mem_of_getElem? ht
     have hall:([22,32,41].all fun u=> !Tryz.prog.wantsStandIn u)=true:=Zf;exact (show Tryz.prog.wantsStandIn t=false by simpa using YT.1 hall t hm)⟩)
  Zf
end Go.Proofs.YtnmibokjpedkiaaGreatDoor.meaningRaw
