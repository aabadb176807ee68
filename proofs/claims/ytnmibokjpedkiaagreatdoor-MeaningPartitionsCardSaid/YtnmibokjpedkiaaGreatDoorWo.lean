/- Made queries answer as specified (part Wo) -/
import Derived.Test.YtnmibokjpedkiaaGreatDoorWn
import Derived.Test.YtnmibokjpedkiaaGreatDoorWp
import Derived.Test.YtnmibokjpedkiaaGreatDoorRows
import Derived.MakeChecks
import Derived.LaidLaws
import Derived.LaidMore
import Derived.Shelf.Vars
set_option maxRecDepth 100000
set_option maxHeartbeats 4000000
set_option linter.all false
namespace Go.Proofs.YtnmibokjpedkiaaGreatDoor
open Go.Am
section
attribute [local simp, local push_cast] Ta aRow rRow vecT rG
theorem c_equalT (l:List Row) (hl:l.length<=1000000) (hr1: ∀r∈l,r.length<=1000):ACall Tryz.prog 14 [aTab l,aTab l] [] (boo true) []:=by
 refine zn mixed ttok Tryz.func14 Tryz.ntmps14 Tryz.results14 ?_;generalize hr:boo true=R;refine Zn ?_;refine zx mixed ttok (fun i:Nat=>(⟨[(5,num i),(0,aTab l),(1,aTab l)],[]⟩:SL)) (fun i=>l.length-i) (fun i=>i<=l.length) 0 (Yj _) ?_ ?_
 ·exact Ya Zb Zb Zb
 intro I hI i hi;refine Zf ?_;refine za (fun h=>?_) fun h=>?_
 ·have h':i<l.length:=Zq h;have hw:=zh h' Za;have hr2:=hr1 _ (zk h');refine ⟨Za,Za,?_⟩;refine zg [[3],[3]] [] (jB (l.getD i default) (l.getD i default) Za) ?_;rw [yi];refine Zf ?_;refine ⟨ze Zg,?_⟩;exact zi hI (i+1) h' Zl (Ya (Ze hw) Zb Zb)
 exact zm trivial hr Zb
end
section
theorem ui64:Tryz.prog.underlying 3=some (.int .i64):=Zg
theorem uint64:Tryz.prog.underlying 2=some (.int .i64):=Zg
theorem ustr:Tryz.prog.underlying 9=some .string:=Zg
theorem uboo:Tryz.prog.underlying 4=some .bool:=Zg
theorem sVal:qT Tryz.prog 71 [3,2,9]=true:=Zg
section
variable {H:Type} {enc:TypeId×Value->H} {w:World} {base:Nat} {spare:Nat->Bool} {held:Bool} {fuel:Nat} {cs:List Value} {x:DataW H×List MemPlace}
end
end
section
section
variable {H:Type} {enc:TypeId×Value->H} {w:World} {base:Nat} {spare:Nat->Bool} {held:Bool} {fuel:Nat} {cs:List Value} {x:DataW H×List MemPlace}
end
end
section
attribute [local simp, local push_cast] Ta aRow rRow rTab yx yA yM z7 zQ aAgg vQ
end
section
attribute [local simp, local push_cast] num boo str
open Go.ChangeShapes Go.WideShapes Go.ChangeAt Go.RowKit
mutual
def tszE:Ex->Nat
 | .mk _ _ _ _ _ ks=>1+tszEs ks
def tszEs:List Ex->Nat
 | []=>0
 | e::l=>tszE e+tszEs l
end
theorem tszEs_eq: ∀l:List Ex,tszEs l=(l.map tszE).sum
 | []=>rfl
 | e::l=>by rw [tszEs,tszEs_eq l];rfl
theorem tszE_eq (e:Ex):tszE e=1+(e.kids.map tszE).sum:=by cases e;rw [tszE,tszEs_eq];rfl
def allT (q:Qr):Nat:=tszE q.cond+(q.exprs.map tszE).sum+(q.aggs.map fun a=>tszE a.arg).sum+(q.rows.map List.length).sum
mutual
def tszQ:Qr->Nat
 | .mk a b c d e f g h i ks=>1+allT (.mk a b c d e f g h i ks)+tszQs ks
def tszQs:List Qr->Nat
 | []=>0
 | q::l=>tszQ q+tszQs l
end
theorem tszQs_eq: ∀l:List Qr,tszQs l=(l.map tszQ).sum
 | []=>rfl
 | q::l=>by rw [tszQs,tszQs_eq l];rfl
theorem tszQ_eq (q:Qr):tszQ q=1+allT q+(q.kids.map tszQ).sum:=by cases q;rw [tszQ,tszQs_eq];rfl
theorem qq {α:Type} (f:α->Nat): ∀(l:List α) (a:α),a∈l->f a<=(l.map f).sum
 | x::l,a,h=>by
   rw [Y0,Uz];rcases YB.1 h with rfl | h
   ·omega
   ·have:=qq f l a h;omega
theorem sizeL_true: ∀(l:List Ex) (n:Nat),(∀e∈l,ve e=tszE e)->n+(l.map tszE).sum<=1000000000000->sizeL n l=((n+(l.map tszE).sum:Nat):Int)
 | [],n,_,_=>by simp [sizeL]
 | e::l,n,h,hb=>by
   rw [Y0,Uz] at hb ⊢;rw [sizeL,h e Zd,show ((n:Int)+(tszE e:Int))=((n+tszE e:Nat):Int) from Za,zt Za Za,sizeL_true l (n+tszE e) (fun x hx=>h x (Zu hx)) Za];rw [Y6]
theorem sizeW_true: ∀e:Ex,tszE e<=1000000000000->ve e=tszE e:=
 jY (p:=fun e=>tszE e<=1000000000000->ve e=tszE e) fun e ih h=>by
  rw [tszE_eq] at h ⊢;rw [sizeW_eq];exact sizeL_true e.kids 1 (fun k hk=>ih k hk (by have:=qq tszE _ _ hk;omega)) h
theorem rowsW_true: ∀(l:List (List Val)) (n:Nat),n+(l.map List.length).sum<=1000000000000->jn n l=((n+(l.map List.length).sum:Nat):Int)
 | [],n,_=>by simp [jn]
 | r::l,n,hb=>by
   rw [Y0,Uz] at hb ⊢;rw [jn,show ((n:Int)+(r.length:Int))=((n+r.length:Nat):Int) from Za,zt Za Za,rowsW_true l (n+r.length) Za,Y6]
theorem sizeQs_true: ∀(l:List Qr) (n:Nat) (T:Qr->Nat),(∀q∈l,vF q=T q)->n+(l.map T).sum<=1000000000000->sizeQs n l=((n+(l.map T).sum:Nat):Int)
 | [],n,_,_,_=>by simp [sizeQs]
 | q::l,n,T,h,hb=>by
   rw [Y0,Uz] at hb ⊢;rw [sizeQs,h q Zd,show ((n:Int)+(T q:Int))=((n+T q:Nat):Int) from Za,zt Za Za,sizeQs_true l (n+T q) T (fun x hx=>h x (Zu hx)) Za];rw [Y6]
theorem filt_sum: ∀(l:List Agg),((x7 l).map tszE).sum<=(l.map fun a=>tszE a.arg).sum
 | []=>Ys _
 | a::l=>by
   have:=filt_sum l;unfold x7 at this ⊢;rw [Y0,Uz];rw [List.filter_cons]
   split
   ·rw [Y0,Y0,Uz];omega
   ·omega
theorem exprs_sum (q:Qr):((xd q).map tszE).sum<=tszE q.cond+(q.exprs.map tszE).sum+(q.aggs.map fun a=>tszE a.arg).sum:=by
 have:=filt_sum q.aggs;unfold xd;rw [YE,List.sum_append]
 split
 ·split
  ·rw [Y0,Uz];simp only [U7,List.sum_nil];omega
  ·rw [Y0,Uz];simp only [U7,List.sum_nil];omega
 ·split
  ·split
   ·omega
   ·simp only [U7,List.sum_nil];omega
  ·split
   ·simp only [U7,List.sum_nil];omega
   ·simp only [U7,List.sum_nil];omega
def cntQ (q:Qr):Nat:=(vF q).toNat
theorem sizeQ_true: ∀q:Qr,tszQ q≤1000000000000→ ∃n:Nat,vF q=n∧n≤tszQ q∧ ∀k∈q.kids,∃m:Nat,vF k=m∧m≤n:=
 ku (p:=fun q=>tszQ q≤1000000000000→ ∃n:Nat,vF q=n∧n≤tszQ q∧ ∀k∈q.kids,∃m:Nat,vF k=m∧m≤n) fun q ih h=>by
  rw [tszQ_eq] at h ⊢;have hx:=exprs_sum q;unfold allT at h ⊢;have hT: ∀k∈q.kids,vF k=(cntQ k:Nat)/\cntQ k<=tszQ k:=fun k hk=>by
   obtain ⟨n,h1,h2,_⟩:=ih k hk (by have:=qq tszQ _ _ hk;omega);have:cntQ k=n:=by unfold cntQ;rw [h1];rfl
   exact ⟨by rw [this,h1],Za⟩
  have hs: ∀l:List Qr,(∀k∈l,cntQ k<=tszQ k)->(l.map cntQ).sum<=(l.map tszQ).sum:=fun l=>by
   induction l with
   | nil=>intro _;exact Ys _
   | cons k l ihl=>
     intro hk;have:=ihl fun x hx=>hk x (Zu hx);have h0:=hk k Zd;rw [Y0,Uz,Y0,Uz];omega
  have hk:=hs q.kids fun k hk=>(hT k hk).2;have e1:=sizeL_true (xd q) 1 (fun e he=>sizeW_true e (by have:=qq tszE _ _ he;omega)) Za;have e2:=rowsW_true q.rows (1+((xd q).map tszE).sum) Za;have e3:=sizeQs_true q.kids (1+((xd q).map tszE).sum+(q.rows.map List.length).sum) cntQ (fun k hk=>(hT k hk).1) Za;have e1':sizeL 1 (xd q)=((1+((xd q).map tszE).sum:Nat):Int):=e1;refine ⟨_,by rw [sizeQ_eq,e1',e2,e3],Za,fun k hkm=>⟨_,(hT k hkm).1,?_⟩⟩;have:=qq cntQ _ _ hkm;omega
theorem depthQs_ge: ∀(l:List Qr) (n:Int),n<=depthQs n l/\ ∀k∈l,yZ k<=depthQs n l
 | [],n=>⟨by rw [depthQs];omega,fun k h=>by cases h⟩
 | q::l,n=>by
   rw [depthQs];obtain ⟨X,hX⟩: ∃X,X=(if n<yZ q then yZ q else n):=⟨_,rfl⟩
   have hX2:n<=X/\yZ q<=X:=by rw [hX];split<;>omega
   rw [<-hX];obtain ⟨h1,h2⟩:=depthQs_ge l X;refine ⟨Za,fun k hk=>?_⟩;rcases YB.1 hk with rfl | hk
   ·omega
   ·exact h2 k hk
theorem depthQs_le: ∀(l:List Qr) (n B:Int),n<=B->(∀k∈l,yZ k<=B)->depthQs n l<=B
 | [],n,B,h,_=>by rw [depthQs];exact h
 | q::l,n,B,h,hk=>by
   rw [depthQs];exact depthQs_le l _ B (by have:=hk q (by simp);split<;>omega) fun k h=>hk k (Zu h)
theorem depthQ_true: ∀q:Qr,tszQ q<=1000000000000->yZ q<=tszQ q/\1<=yZ q/\ ∀k∈q.kids,yZ k<yZ q:=
 ku (p:=fun q=>tszQ q≤1000000000000→yZ q≤tszQ q∧1≤yZ q∧ ∀k∈q.kids,yZ k<yZ q) fun q ih h=>by
  have h0:=h;rw [tszQ_eq] at h ⊢;have hle:depthQs 0 q.kids<=((q.kids.map tszQ).sum:Nat):=depthQs_le _ _ _ Za fun k hk=>by
   have:=qq tszQ _ _ hk;have:=(ih k hk Za).1;omega
  obtain ⟨g1,g2⟩:=depthQs_ge q.kids 0;rw [depthQ_eq,zt Za Za];exact ⟨Za,Za,fun k hk=>by have:=g2 k hk;omega⟩
theorem R8_of (s:Sch) (hc:CG): ∀q:Qr,tszQ q<=1000000000000->vF q<=200->yZ q<=24->R8 s q:=
 ku (p:=fun q=>tszQ q≤1000000000000→vF q≤200→yZ q≤24→R8 s q) fun q ih h h1 h2=>by
  obtain ⟨n,e1,_,e2⟩:=sizeQ_true q h;obtain ⟨_,_,e3⟩:=depthQ_true q h;rw [tszQ_eq] at h;have hk: ∀k∈q.kids,tszQ k<=1000000000000/\vF k<=200/\yZ k<=24:=fun k hk=>by
   obtain ⟨m,m1,m2⟩:=e2 k hk;have:=e3 k hk;have:=qq tszQ _ _ hk;exact ⟨Za,Za,Za⟩
  refine .mk q (fun _=>hc) (fun _ k hkm=>?_) fun k hkm=>ih k hkm (hk k hkm).1 (hk k hkm).2.1 (hk k hkm).2.2;obtain ⟨_,g1,g2⟩:=hk k hkm;unfold wJ;rw [if_neg Za,if_neg Za]
theorem R8_typed {s:Sch} {q:Qr} (h:tszQ q<=1000000000000) (ht:(wJ s q).2=0):R8 s q:=by
 unfold wJ at ht
 split at ht
 ·exact absurd ht Zi
 split at ht
 ·exact absurd ht Zi
 exact R8_of s c_grouped q h Za Za
end
section
attribute [local simp, local push_cast] Ta aRow rRow rTab yx yA yM z7 zQ aAgg vQ mEval zR
theorem c_schema0w {xs:List Int} (hx:ww xs):
 ACall Tryz.prog 9 [.ptr 1000 0] [(1000,.var [.d (.sl 1 (zd rI xs)),.d (.lit (.int .i64 0))])] (aS (xe xs 0).1) [(1000,zR xs (xe xs 0).2)]:=
 c_mschema (p:=0) hx Za
theorem evalQ_rows {s:Sch} (hs:SmallS s) {i:Inst} {q:Qr} (ho:OkQ q) (hx:OkXQ q):(xW grP s i q).1.length<=1000000/\ ∀r∈(xW grP s i q).1,r.length<=1000:=by
 unfold xW
 split
 ·exact ⟨Yj _,fun r h=>by cases h⟩
 rename_i hf
 split
 ·exact ⟨Yj _,fun r h=>by cases h⟩
 rename_i ht;have ht':(wJ s q).2=0:=Zc ht;rw [qQ ht'] at ht';have hev:=go grP_ok (fits_ok (by simpa using hf:we s i=0)) q hx ht';have hw:=jG hs q ho;cases hv:evQ grP s i q with
 | none=>exact ⟨Yj _,fun r h=>by cases h⟩
 | some rows=>
   have hR:=hev rows hv;show (srt rows).length<=1000000/\ ∀r∈srt rows,r.length<=1000;have hp:(srt rows).Perm rows:=zJ rows;have hl:=hR.len;exact ⟨Z2 (hp.length_eq),fun r hr=>by rw [hR.wid r (hp.mem_iff.1 hr)];exact hw⟩
end
section
theorem uOps:Tryz.prog.underlying 218=some (.array 29 147):=Zg
theorem sOp:qT Tryz.prog 147 [9,3,3,3]=true:=Zg
theorem c4o:Tryz.prog.cellsOf 147=4:=Zg
theorem gOps : Tryz.prog.globalNamed "querylab/expression.operations" = some 1 := Zg
theorem tOps:(Tryz.prog.globals[1]?).map (·.type)=some 218:=Zg
def dOp {H:Type} (o:OpD):DataW H:= .agg [.lit (.string o.word.data.toList),.lit (.int .i64 o.kids),.lit (.int .i64 o.types),.lit (.int .i64 o.own)]
theorem laid_eq:(Rows.laid_querylab_expression_operations:DataW Unit)= .agg (opTab.map dOp):=by rfl
theorem crep_ops {R:Rd}: ∀(l:List OpD) (cs:List Value),cs.length=l.length * 4->(∀i (hi:i<l.length),crep R (rOp l[i]) ((cs.drop (i * 4)).take 4))->crep R (l.map rOp).flatten cs
 | [],cs,hl,_=>by
   have:cs=[]:=Yi (Zc hl);rw [this];trivial
 | o::l,cs,hl,h=>by
   have h0:=h 0 Zd
   match cs,hl with
   | a::b::c::d::cs,hl=>
     simp at h0;refine ⟨h0.1,h0.2.1,h0.2.2.1,h0.2.2.2.1,crep_ops l cs (by simp at hl;omega) fun i hi=>?_⟩;have:=h (i+1) (Zc hi);rw [show (i+1) * 4=i * 4+1+1+1+1 from Za] at this;simpa only [List.drop_succ_cons,List.getElem_cons_succ] using this
   | [],hl=>simp at hl
   | [_],hl=>simp at hl;omega
   | [_,_],hl=>simp at hl;omega
   | [_,_,_],hl=>simp at hl;omega
theorem rd_structX {H:Type} {enc:TypeId×Value->H} {P:Program} {w:World} {base:Nat} {spare:Nat->Bool} {held:Bool} {t:TypeId} {fuel:Nat} {cs:List Value} {x:DataW H×List MemPlace} (tys:List TypeId)
 (hs:qT P t tys=true) (h:DataW.trod enc P w base spare held fuel t cs=some x): ∃(n:Nat) (xs:List (DataW H×List MemPlace)),x.1= .agg (xs.map (·.1))/\xs.length=tys.length/\cs.length=tys.length/\ ∀(i:Nat) (u:TypeId),tys[i]? =some u-> ∃c,cs[i]? =some c/\DataW.trod enc P w base spare held n u [c]=xs[i]? :=by
 unfold qT at hs
 split at hs
 ·rename_i fs hu;simp only [Yy,beq_iff_eq] at hs;obtain ⟨⟨h1,h2⟩,h3⟩:=hs;obtain ⟨xs,n,hn,hx,hl,hxl,hf⟩:=DataW.trod_struct hu h;rw [h2] at hl;refine ⟨n,xs,ZA hx,by rw [hxl,<-h1];simp,by rw [hl,<-h1];simp,fun i u hi=>?_⟩;rw [<-h1,List.getElem?_map,YR] at hi;obtain ⟨f,hf1,rfl⟩:=hi;have hf2:fs[i]? =some f:=Zc hf1;have hlt:i<fs.size:=(Array.getElem?_eq_some_iff.1 hf2).1;have g1:=Ua.1 h3 i (Zc hlt);rw [hf2] at g1;simp only [Yy,beq_iff_eq] at g1;have g2:=hf i f hf2;rw [g1.1,g1.2,U0 Za,List.take_succ_cons,List.take_zero] at g2;exact ⟨cs[i],List.getElem?_eq_getElem Za,g2⟩
 ·cases hs
theorem crep_4 {R:Rd} {a b c d:D} {c0 c1 c2 c3:Value} {cs:List Value} (hl:cs.length=4) (e0:cs[0]? =some c0) (e1:cs[1]? =some c1) (e2:cs[2]? =some c2) (e3:cs[3]? =some c3) (r0:crep R [a] [c0]) (r1:crep R [b] [c1]) (r2:crep R [c] [c2]) (r3:crep R [d] [c3]):crep R [a,b,c,d] cs:=by
 match cs,hl with
 | [x,y,z,u],_=>simp at e0 e1 e2 e3;subst e0;subst e1;subst e2;subst e3;exact ⟨r0.1,r1.1,r2.1,r3.1,trivial⟩
theorem Xw {p:Prop} (h:p:=by simp [D.rep,Go.Am.one]):p:=h
theorem op_of {R:Rd} {w:World} {base:Nat} {spare:Nat->Bool} {held:Bool} {fuel:Nat} {cs:List Value} {p:List MemPlace} {o:OpD} (h:DataW.trod (fun _=>()) Tryz.prog w base spare held fuel 147 cs=some (dOp o,p)):crep R (rOp o) cs:=by
 obtain ⟨n,xs,hx,hxl,hl,hf⟩:=rd_structX _ sOp h;obtain ⟨c0,e0,h0⟩:=hf 0 _ rfl;obtain ⟨c1,e1,h1⟩:=hf 1 _ rfl;obtain ⟨c2,e2,h2⟩:=hf 2 _ rfl;obtain ⟨c3,e3,h3⟩:=hf 3 _ rfl
 match xs,hxl with
 | [y0,y1,y2,y3],_=>
   simp only [dOp,Y0,U7,DataW.agg.injEq,List.cons.injEq,and_true] at hx;obtain ⟨q0,q1,q2,q3⟩:=hx;obtain ⟨s,g0,k0,_⟩:=DataW.trod_string ustr (show _=some y0 from h0);obtain ⟨m1,g1,k1,_⟩:=DataW.trod_int ui64 (show _=some y1 from h1);obtain ⟨m2,g2,k2,_⟩:=DataW.trod_int ui64 (show _=some y2 from h2);obtain ⟨m3,g3,k3,_⟩:=DataW.trod_int ui64 (show _=some y3 from h3);subst k0;subst k1;subst k2;subst k3;simp only [DataW.lit.injEq,Lit.string.injEq,Lit.int.injEq,true_and] at q0 q1 q2 q3;have hs:s=o.word:=by
    apply ByteArray.ext;exact Array.toList_inj.1 q0.symm
   simp only [List.cons.injEq,and_true] at g0 g1 g2 g3;subst g0;subst g1;subst g2;subst g3;subst hs;rw [rOp,q1,q2,q3];exact crep_4 hl e0 e1 e2 e3 ⟨⟨Xw,rfl⟩,trivial⟩ ⟨⟨Xw,rfl⟩,trivial⟩ ⟨⟨Xw,rfl⟩,trivial⟩ ⟨⟨Xw,rfl⟩,trivial⟩
theorem gNull : Tryz.prog.globalNamed "querylab/value.null" = some 2 := Zg
theorem tNull:(Tryz.prog.globals[2]?).map (·.type)=some 71:=Zg
def nullRow:List D:=[.lit (.int .i64 0),.lit (.int .i64 0),.lit (.string ⟨#[]⟩)]
theorem Ko{p:Prop}(h:p:=by
 exact crep_3 hl e0 e1 e2 ⟨⟨Xw,rfl⟩,trivial⟩ ⟨⟨Xw,rfl⟩,trivial⟩ ⟨⟨Xw,rfl⟩,trivial⟩):p:=h
theorem null_of {R:Rd} {w:World} {base:Nat} {spare:Nat->Bool} {held:Bool} {fuel:Nat} {cs:List Value} {p:List MemPlace} (h:DataW.trod (fun _=>()) Tryz.prog w base spare held fuel 71 cs=some (Rows.laid_querylab_value_null,p)):crep R nullRow cs:=by
 obtain ⟨n,xs,hx,hxl,hl,hf⟩:=rd_structX _ sVal h;obtain ⟨c0,e0,h0⟩:=hf 0 _ rfl;obtain ⟨c1,e1,h1⟩:=hf 1 _ rfl;obtain ⟨c2,e2,h2⟩:=hf 2 _ rfl
 match xs,hxl with
 | [y0,y1,y2],_=>
   simp only [Rows.laid_querylab_value_null,Y0,U7,DataW.agg.injEq,List.cons.injEq,and_true] at hx;obtain ⟨q0,q1,q2⟩:=hx;obtain ⟨m0,g0,k0,_⟩:=DataW.trod_int ui64 (show _=some y0 from h0);obtain ⟨m1,g1,k1,_⟩:=DataW.trod_int uint64 (show _=some y1 from h1);obtain ⟨s,g2,k2,_⟩:=DataW.trod_string ustr (show _=some y2 from h2);subst k0;subst k1;subst k2;simp only [DataW.lit.injEq,Lit.string.injEq,Lit.int.injEq,true_and] at q0 q1 q2;have hs:s=⟨#[]⟩:=by
    apply ByteArray.ext;exact Array.toList_inj.1 q2.symm
   simp only [List.cons.injEq,and_true] at g0 g1 g2;subst g0;subst g1;subst g2;subst hs;subst q0;subst q1;exact Ko
theorem crep_len {R:Rd}: ∀{row:List D} {cs:List Value},crep R row cs->row.length=cs.length
 | [],[],_=>rfl
 | _::_,_::_,h=>by simp only [Y5];rw [crep_len h.2]
theorem NV{p:Prop}(h:p:=by
 have:=congrArg (fun l=>l[i]?) hxs;simp only [List.getElem?_map,List.getElem?_eq_getElem (show i<xs.length from Za),List.getElem?_eq_getElem hi,Ub,Option.some.injEq] at this;exact this):p:=h
theorem ops_of {W:World} {cs:Array Value} {base:Nat} {spare:Nat->Bool} {held:Bool} {fuel:Nat} {p:List MemPlace} (hd0:DataW.trod (fun _=>()) Tryz.prog W base spare held fuel 218 cs.toList=some (Rows.laid_querylab_expression_operations,p)) {R:Rd}:
 crep R opRow cs.toList/\cs.toList.length=116:=by
 rw [laid_eq] at hd0;obtain ⟨xs,m,hm,hx,hl,hn,hel⟩:=DataW.trod_array uOps hd0;rw [c4o] at hel;have hxs:xs.map (·.1)=opTab.map dOp:=by
  simp only [Prod.mk.injEq,DataW.agg.injEq] at hx;exact hx.1.symm
 have hcl:cs.toList.length=opTab.length * 4:=by rw [hl];kernel_rfl
 refine ⟨crep_ops opTab cs.toList hcl fun i hi=>?_,hcl⟩;have hi2:i<29:=hi;have h1:=hel i hi2;rw [List.getElem?_eq_getElem Za] at h1;have h2:(xs[i]' Za).1=dOp opTab[i]:=by
  exact NV
 obtain ⟨pp,hpp⟩: ∃pp,xs[i]' Za=(dOp opTab[i],pp):=⟨(xs[i]' Za).2,by rw [<-h2]⟩
 rw [hpp] at h1;exact op_of h1
theorem uFms:Tryz.prog.underlying 191=some (.array 11 133):=Zg
theorem sFm:qT Tryz.prog 133 [9,3,9]=true:=Zg
theorem c3f:Tryz.prog.cellsOf 133=3:=Zg
theorem gFms : Tryz.prog.globalNamed "querylab/algebra.forms" = some 0 := Zg
theorem tFms:(Tryz.prog.globals[0]?).map (·.type)=some 191:=Zg
def dFm {H:Type} (o:FmD):DataW H:= .agg [.lit (.string o.word.data.toList),.lit (.int .i64 o.kids),.lit (.string o.uses.data.toList)]
theorem laid_fm:(Rows.laid_querylab_algebra_forms:DataW Unit)= .agg (fmTab.map dFm):=by rfl
theorem crep_fms {R:Rd}: ∀(l:List FmD) (cs:List Value),cs.length=l.length * 3->(∀i (hi:i<l.length),crep R (rFm l[i]) ((cs.drop (i * 3)).take 3))->crep R (l.map rFm).flatten cs
 | [],cs,hl,_=>by
   have:cs=[]:=Yi (Zc hl);rw [this];trivial
 | o::l,cs,hl,h=>by
   have h0:=h 0 Zd
   match cs,hl with
   | a::b::c::cs,hl=>
     simp at h0;refine ⟨h0.1,h0.2.1,h0.2.2.1,crep_fms l cs (by simp at hl;omega) fun i hi=>?_⟩;have:=h (i+1) (Zc hi);rw [show (i+1) * 3=i * 3+1+1+1 from Za] at this;simpa only [List.drop_succ_cons,List.getElem_cons_succ] using this
   | [],hl=>simp at hl
   | [_],hl=>simp at hl;omega
   | [_,_],hl=>simp at hl;omega
theorem fm_of {R:Rd} {w:World} {base:Nat} {spare:Nat->Bool} {held:Bool} {fuel:Nat} {cs:List Value} {p:List MemPlace} {o:FmD} (h:DataW.trod (fun _=>()) Tryz.prog w base spare held fuel 133 cs=some (dFm o,p)):crep R (rFm o) cs:=by
 obtain ⟨n,xs,hx,hxl,hl,hf⟩:=rd_structX _ sFm h;obtain ⟨c0,e0,h0⟩:=hf 0 _ rfl;obtain ⟨c1,e1,h1⟩:=hf 1 _ rfl;obtain ⟨c2,e2,h2⟩:=hf 2 _ rfl
 match xs,hxl with
 | [y0,y1,y2],_=>
   simp only [dFm,Y0,U7,DataW.agg.injEq,List.cons.injEq,and_true] at hx;obtain ⟨q0,q1,q2⟩:=hx;obtain ⟨s0,g0,k0,_⟩:=DataW.trod_string ustr (show _=some y0 from h0);obtain ⟨m1,g1,k1,_⟩:=DataW.trod_int ui64 (show _=some y1 from h1);obtain ⟨s2,g2,k2,_⟩:=DataW.trod_string ustr (show _=some y2 from h2);subst k0;subst k1;subst k2;simp only [DataW.lit.injEq,Lit.string.injEq,Lit.int.injEq,true_and] at q0 q1 q2;have hs0:s0=o.word:=by
    apply ByteArray.ext;exact Array.toList_inj.1 q0.symm
   have hs2:s2=o.uses:=by
    apply ByteArray.ext;exact Array.toList_inj.1 q2.symm
   simp only [List.cons.injEq,and_true] at g0 g1 g2;subst g0;subst g1;subst g2;subst hs0;subst hs2;rw [rFm,q1];exact Ko
theorem fms_of {W:World} {cs:Array Value} {base:Nat} {spare:Nat->Bool} {held:Bool} {fuel:Nat} {p:List MemPlace} (hd0:DataW.trod (fun _=>()) Tryz.prog W base spare held fuel 191 cs.toList=some (Rows.laid_querylab_algebra_forms,p)) {R:Rd}:
 crep R fmRow cs.toList/\cs.toList.length=33:=by
 rw [laid_fm] at hd0;obtain ⟨xs,m,hm,hx,hl,hn,hel⟩:=DataW.trod_array uFms hd0;rw [c3f] at hel;have hxs:xs.map (·.1)=fmTab.map dFm:=by
  simp only [Prod.mk.injEq,DataW.agg.injEq] at hx;exact hx.1.symm
 have hcl:cs.toList.length=fmTab.length * 3:=by rw [hl];kernel_rfl
 refine ⟨crep_fms fmTab cs.toList hcl fun i hi=>?_,hcl⟩;have hi2:i<11:=hi;have h1:=hel i hi2;rw [List.getElem?_eq_getElem Za] at h1;have h2:(xs[i]' Za).1=dFm fmTab[i]:=by
  exact NV
 obtain ⟨pp,hpp⟩: ∃pp,xs[i]' Za=(dFm fmTab[i],pp):=⟨(xs[i]' Za).2,by rw [<-h2]⟩
 rw [hpp] at h1;exact fm_of h1
theorem sized_of {W:World} {n:String} {g:Nat} {cs:Array Value} (hg:Tryz.prog.globalNamed n=some g) (h:W.var? Tryz.prog n=some cs):Sized W g cs.size:=by
 simp only [World.var?,hg,Option.bind_some] at h
 split at h
 ·rename_i cs' el fl hc;cases h;exact ⟨_,_,_,hc,rfl⟩
 ·cases h
def laidL : List (String × DataW Unit) := [("querylab/value.null", Rows.laid_querylab_value_null), ("querylab/expression.operations", Rows.laid_querylab_expression_operations), ("querylab/algebra.forms", Rows.laid_querylab_algebra_forms)]
theorem tabs_of {W:World} (h:laidMetH Tryz.prog laidL W): ∀g row,Tab.tab g=some row->Go.Am.rowAt (E0 W).R ((E0 W).R g) 0 row/\Sized W g row.length:=by
 rw [MakeChecks.laidMetH_plain _ _ _ Zg] at h;obtain ⟨ps,⟨g0,t0,cs0,f0,p0,q0,hg0,ht0,hv0,hd0,⟨g1,t1,cs1,f1,p1,q1,hg1,ht1,hv1,hd1,⟨g2,t2,cs2,f2,p2,q2,hg2,ht2,hv2,hd2,_⟩,_⟩,_⟩,_⟩:=h;obtain rfl:=Option.some.inj (gNull.symm.trans hg0);obtain rfl:=Option.some.inj (tNull.symm.trans ht0);obtain rfl:=Option.some.inj (gOps.symm.trans hg1);obtain rfl:=Option.some.inj (tOps.symm.trans ht1);obtain rfl:=Option.some.inj (gFms.symm.trans hg2);obtain rfl:=Option.some.inj (tFms.symm.trans ht2);have key: ∀{g:Nat} {n:String} {cs:Array Value} {row:List D},Tryz.prog.globalNamed n=some g->W.var? Tryz.prog n=some cs->crep (E0 W).R row cs.toList->cs.toList.length=row.length->Go.Am.rowAt (E0 W).R ((E0 W).R g) 0 row/\Sized W g row.length:=by
  intro g n cs row hg hv hc hl;refine ⟨crep_rowAt 0 hc fun j u hj=>E0_cell ?_,?_⟩
  ·rw [YW,World.var?_cell hg hv j];simpa using hj
  ·have:=sized_of hg hv;rwa [show cs.size=row.length from Zc hl] at this
 intro g row hrow
 match g,hrow with
 | 1,h=>cases h;exact key hg1 hv1 (ops_of hd1).1 ((ops_of (R:=(E0 W).R) hd1).2.trans Zg)
 | 2,h=>cases h;exact key hg0 hv0 (null_of hd0) (crep_len (null_of (R:=(E0 W).R) hd0)).symm
 | 0,h=>cases h;exact key hg2 hv2 (fms_of hd2).1 ((fms_of (R:=(E0 W).R) hd2).2.trans Zg)
end
end Go.Proofs.YtnmibokjpedkiaaGreatDoor
