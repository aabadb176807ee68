/- Queries over made schemas answer as specified (part Le) -/
import Derived.Test.YtnmibokjpedkiaaGreatDoorLd
import Derived.HandedShaped
import Derived.Handed
set_option linter.all false
namespace Go.Am
variable [T:Tab]
open Go.ChangeShapes Go.WideShapes Go.ChangeAt Go.RowKit
def crep (R:Rd):List D->List Value->Prop
 | [],[]=>True
 | x::xs,v::vs=>(x.rep R v/\one v=true)/\crep R xs vs
 | _,_=>False
theorem crep_length {R:Rd}: ∀{xs:List D} {vs:List Value},crep R xs vs->xs.length=vs.length
 | [],[],_=>rfl
 | x::xs,v::vs,h=>by simp only [crep] at h;simp [crep_length h.2]
 | [],_::_,h=>h.elim
 | _::_,[],h=>h.elim
theorem crep_repL {E:Env}: ∀{xs:List D} {vs:List Value},crep E.R xs vs->repL E (xs.map .d) vs/\ ∀u∈vs,one u=true
 | [],[],_=>⟨Xl,Zd⟩
 | x::xs,v::vs,h=>by
   simp only [crep] at h;obtain ⟨h1,h2⟩:=crep_repL h.2;refine ⟨by simp only [Yw,repL];exact ⟨v,vs,rfl,by simpa only [A.rep] using h.1.1,h1⟩,fun u hu=>?_⟩;rcases YJ.1 hu with rfl | hu
   ·exact h.1.2
   ·exact h2 u hu
 | [],_::_,h=>h.elim
 | _::_,[],h=>h.elim
theorem crep_agg {E:Env} {xs:List D} {cs:Array Value} (h:crep E.R xs cs.toList):(A.agg (xs.map .d)).rep E (.agg cs):=by
 obtain ⟨h1,h2⟩:=crep_repL h;simp only [A.rep];exact ⟨cs.toList,Zd,h1,h2⟩
theorem gY {R:Rd} {C:Nat->Value->Prop}: ∀{xs:List D} {vs:List Value} (k:Nat),crep R xs vs->(∀j u,vs[j]? =some u->C (k+j) u)->rowAt R C k xs
 | [],[],_,_,_=>by simp [rowAt]
 | x::xs,v::vs,k,h,hc=>by
   simp only [crep] at h;simp only [rowAt];exact ⟨⟨v,hc 0 v rfl,h.1.1⟩,gY (k+1) h.2 fun j u hj=>by have:=hc (j+1) u (Zc hj);rwa [show k+(j+1)=k+1+j from Za] at this⟩
 | [],_::_,_,h,_=>h.elim
 | _::_,[],_,h,_=>h.elim
section
variable {H:Type} {enc:TypeId×Value->H} {P:Program} {w:World} {base b0:Nat} {spare:Nat->Bool} {held:Bool} {t e:TypeId} {fuel:Nat} {cs:List Value} {x:DataW H×List MemPlace}
theorem uI {R:Rd} {k:IntKind} (ht:P.underlying t=some (.int k)) (h:DataW.trod enc P w base spare held fuel t cs=some x): ∃n:Int,(Lit.int k n).wf=true/\crep R [.lit (.int k n)] cs:=by
 obtain ⟨n,rfl,_,hw⟩:=DataW.trod_int ht h;exact ⟨n,hw,by simp [crep,D.rep,one]⟩
theorem rd_bool {R:Rd} (ht:P.underlying t=some .bool) (h:DataW.trod enc P w base spare held fuel t cs=some x): ∃b:Bool,crep R [.lit (.bool b)] cs:=by
 obtain ⟨b,rfl,_⟩:=DataW.trod_bool ht h;exact ⟨b,by simp [crep,D.rep,one]⟩
theorem rd_str {R:Rd} (ht:P.underlying t=some .string) (h:DataW.trod enc P w base spare held fuel t cs=some x): ∃s:ByteArray,crep R [.lit (.string s)] cs:=by
 obtain ⟨s,rfl,_⟩:=DataW.trod_string ht h;exact ⟨s,by simp [crep,D.rep,one]⟩
theorem gt {α:Type} {f:α->List D} {wd b:Nat}: ∀(l:List α) (k:Nat),
 (∀i (hi:i<l.length),∃cs':List Value,cs'.length=wd/\crep (E0 w).R (f l[i]) cs'/\ ∀j u,cs'[j]? =some u->w.cell? ⟨b,k+i * wd+j,none⟩=some u)->rowsAt (E0 w).R ((E0 w).R b) wd k (zd f l)
 | [],k,_=>by simp [zd,rowsAt]
 | a::l,k,h=>by
   rw [zF];simp only [rowsAt];obtain ⟨cs',h1,h2,h3⟩:=h 0 Zd;refine ⟨(crep_length h2).trans h1,gY k h2 fun j u hj=>E0_cell (by have:=h3 j u hj;simpa using this),gt l (k+wd) fun i hi=>?_⟩;obtain ⟨cs2,g1,g2,g3⟩:=h (i+1) (Zc hi);refine ⟨cs2,g1,g2,fun j u hj=>?_⟩;have:=g3 j u hj;rwa [show k+(i+1) * wd+j=k+wd+i * wd+j by rw [Nat.succ_mul];omega] at this
theorem list_of {α:Type} {p:Nat->α->Prop}: ∀n:Nat,(∀i,i<n-> ∃a,p i a)-> ∃l:List α,l.length=n/\ ∀i (hi:i<l.length),p i l[i]
 | 0,_=>⟨[],rfl,fun i hi=>by simp at hi⟩
 | n+1,h=>by
   obtain ⟨l,h1,h2⟩:=list_of n fun i hi=>h i Za;obtain ⟨a,ha⟩:=h n Za;refine ⟨l++[a],Zu h1,fun i hi=>?_⟩;by_cases hil:i<l.length
   ·rw [List.getElem_append_left hil];exact h2 i hil
   ·have:i=l.length:=by simp at hi;omega
    subst this;simp only [List.getElem_concat_length];rw [h1];exact ha
theorem rd_sliceP {α:Type} (f:α→List D) (p:α→DataW H→Prop) {wd:Nat} (ht:P.underlying t=some (.slice e)) (hc:P.cellsOf e=wd) (hw0:0<wd) (h:DataW.trod enc P w base spare held fuel t cs=some x)
 (he: ∀n cs' y,n<fuel->DataW.trod enc P w base spare held n e cs'=some y-> ∃a:α,crep (E0 w).R (f a) cs'/\p a y.1):
 ∃l:List α,crep (E0 w).R [.sl wd (zd f l)] cs/\(l=[]\/ ∃es sp,x.1= .slice es sp/\es.length=l.length/\ ∀(i:Nat) (hi:i<l.length) (hj:i<es.length),p l[i] es[i]):=by
 rcases DataW.trod_slice ht h with ⟨rfl,_⟩ | ⟨a,len,cap,elems,rest,n,rfl,rfl,hx9,hb,hl,hm,hlen,hel,_,_⟩
 ·refine ⟨[],⟨⟨?_,rfl⟩,trivial⟩,.inl rfl⟩;simp only [D.rep];exact ⟨none,0,rfl,Yt _,fun _=>⟨rfl,rfl⟩,fun a' h=>by cases h⟩
 ·rw [hc] at hel;have key: ∀i,i<len-> ∃(q:α),∃cs':List Value,cs'.length=wd/\crep (E0 w).R (f q) cs'/\(∀j,j<wd->w.cell? ((a.add (i * wd)).add j)=cs'[j]?)/\ ∀hj:i<elems.length,p q elems[i].1:=fun i hi=>by
   have h1:=hel i hi;rw [List.getElem?_eq_getElem Za] at h1;obtain ⟨cs',h2,h3⟩:=Option.bind_eq_some_iff.1 h1;obtain ⟨q,hq,hp⟩:=he n cs' _ Za h3;obtain ⟨_,h4,h5⟩:=World.cells?_some h2;exact ⟨q,cs',h4,hq,h5,fun _=>hp⟩
  have hspot:0<len->a.spot=none:=fun h0=>by
   obtain ⟨q,cs',h1,h2,h3,_⟩:=key 0 h0;have:=h3 0 hw0;rw [List.getElem?_eq_getElem Za] at this;have:=World.cell?_spot this;simpa [Addr.add] using this
  obtain ⟨l,h1,h2⟩:=list_of len key;refine ⟨l,⟨⟨?_,rfl⟩,trivial⟩,.inr ⟨_,_,congrArg Prod.fst hx9,by rw [Y2,hlen,h1],fun i hi hj=>?_⟩⟩
  rotate_left
  ·obtain ⟨_,_,_,_,g⟩:=h2 i hi;rw [List.getElem_map];exact g (by rw [Y2] at hj;exact hj)
  simp only [D.rep];refine ⟨some a,cap,by rw [zc,h1],by rw [zc,h1];exact hl,(fun h=>by cases h),fun a' ha'=>?_⟩;cases ha';refine ⟨fun hne=>?_,?_⟩
  ·refine hspot ?_;cases l with
   | nil=>exact absurd rfl hne
   | cons q l=>rw [<-h1];simp
  ·refine gt l a.off fun i hi=>?_;obtain ⟨cs',g1,g2,g3,_⟩:=h2 i hi;refine ⟨cs',g1,g2,fun j u hj=>?_⟩;have hjw:j<wd:=by have:=(List.getElem?_eq_some_iff.1 hj).1;omega
   have hs:=hspot Za;have:=g3 j hjw;rw [hj] at this;obtain ⟨ab,ao,asp⟩:=a;simp only at hs;subst hs;have e1:((Addr.mk ab ao none).add (i * wd)).add j=⟨ab,ao+i * wd+j,none⟩:=by
    unfold Addr.add;by_cases hi0:i * wd=0<;>by_cases hj0:j=0<;>simp [hi0,hj0,YG]
   rwa [e1] at this
theorem rd_slice {α:Type} (f:α->List D) {wd:Nat} (ht:P.underlying t=some (.slice e)) (hc:P.cellsOf e=wd) (hw0:0<wd) (h:DataW.trod enc P w base spare held fuel t cs=some x)
 (he: ∀n cs' y,n<fuel->DataW.trod enc P w base spare held n e cs'=some y-> ∃a:α,crep (E0 w).R (f a) cs'): ∃l:List α,crep (E0 w).R [.sl wd (zd f l)] cs:=by
 obtain ⟨l,h1,_⟩:=rd_sliceP f (fun _ _=>True) ht hc hw0 h fun n cs' y hn hy=>(he n cs' y hn hy).imp fun _ g=>⟨g,trivial⟩
 exact ⟨l,h1⟩
theorem rd_struct {fs:Array Field} (ht:P.underlying t=some (.struct fs)) (hcs:P.cellsOf t=fs.size) (hoff:((List.range fs.size).all fun i=>match fs[i]? with | some f=>f.offset==i&&P.cellsOf f.type==1 | none=>true)=true)
 (h:DataW.trod enc P w base spare held fuel t cs=some x): ∃n,fuel=n+1/\cs.length=fs.size/\ ∀(i:Nat) (f:Field),fs[i]? =some f-> ∃c y,cs[i]? =some c/\DataW.trod enc P w base spare held n f.type [c]=some y:=by
 obtain ⟨xs,n,hn,_,hl,hx,hf⟩:=DataW.trod_struct ht h;rw [hcs] at hl;refine ⟨n,hn,hl,fun i f hi=>?_⟩;have hlt:i<fs.size:=(Array.getElem?_eq_some_iff.1 hi).1;have h1:=YT.1 hoff i (Zc hlt);rw [hi] at h1;simp only [Ys,beq_iff_eq] at h1;have h2:=hf i f hi;rw [h1.1,h1.2,Ut Za,List.take_succ_cons,List.take_zero,List.getElem?_eq_getElem Za] at h2;exact ⟨cs[i],_,List.getElem?_eq_getElem Za,h2⟩
end
def vW (P:Program) (t:TypeId) (tys:List TypeId):Bool:=match P.underlying t with
 | some (.struct fs)=>fs.toList.map (·.type)==tys&&P.cellsOf t==fs.size&&(List.range fs.size).all fun i=>match fs[i]? with | some f=>f.offset==i&&P.cellsOf f.type==1 | none=>true
 | _=>false
theorem gH {H:Type} {enc:TypeId×Value->H} {P:Program} {w:World} {base:Nat} {spare:Nat->Bool} {held:Bool} {t:TypeId} {fuel:Nat} {cs:List Value} {x:DataW H×List MemPlace} (tys:List TypeId)
 (hs:vW P t tys=true) (h:DataW.trod enc P w base spare held fuel t cs=some x): ∃n,fuel=n+1/\cs.length=tys.length/\ ∀(i:Nat) (u:TypeId),tys[i]? =some u-> ∃c y,cs[i]? =some c/\DataW.trod enc P w base spare held n u [c]=some y:=by
 unfold vW at hs
 split at hs
 ·rename_i fs hu;simp only [Ys,beq_iff_eq] at hs;obtain ⟨⟨h1,h2⟩,h3⟩:=hs;obtain ⟨n,hn,hl,hf⟩:=rd_struct hu h2 h3 h;refine ⟨n,hn,by rw [hl,<-h1];simp,fun i u hi=>?_⟩;rw [<-h1,List.getElem?_map,YI] at hi;obtain ⟨f,hf1,rfl⟩:=hi;exact hf i f (Zc hf1)
 ·cases hs
theorem crep_1 {R:Rd} {a:D} {c0:Value} {cs:List Value} (hl:cs.length=1) (e0:cs[0]? =some c0) (r0:crep R [a] [c0]):crep R [a] cs:=by
 match cs,hl with
 | [b],_=>simp at e0;subst e0;exact r0
theorem crep_3 {R:Rd} {a b c:D} {c0 c1 c2:Value} {cs:List Value} (hl:cs.length=3) (e0:cs[0]? =some c0) (e1:cs[1]? =some c1) (e2:cs[2]? =some c2) (r0:crep R [a] [c0]) (r1:crep R [b] [c1]) (r2:crep R [c] [c2]):crep R [a,b,c] cs:=by
 match cs,hl with
 | [x,y,z],_=>simp at e0 e1 e2;subst e0;subst e1;subst e2;exact ⟨r0.1,r1.1,r2.1,trivial⟩
end Go.Am
namespace Go.Am
variable [T:Tab]
theorem gu {R:Rd} {C:Nat->Value->Prop}: ∀(xs:List D) (k:Nat),(∀j x,xs[j]? =some x-> ∃u,C (k+j) u/\x.rep R u)->rowsAt R C 1 k (xs.map fun x=>[x])
 | [],_,_=>trivial
 | x::xs,k,h=>by
   refine ⟨rfl,⟨h 0 x rfl,trivial⟩,gu xs (k+1) fun j y hy=>?_⟩;have:=h (j+1) y (Zc hy);rwa [show k+(j+1)=k+1+j from Za] at this
theorem Weak.frzSlotL {t:UD} {o:UE} (k wd:Nat) {f:Frz} (hf:frz (lookO o) wd (lookT t k)=some f) (hs:f.side):Weak (SL.mk t o).st (SL.mk ((k,.d f.x)::t) (updO o f.upd)).st:=by
 intro cx N a w ⟨β,h1,h2,h3,h4⟩;obtain ⟨r1,L1,hx⟩:=frz_ok h1 hf hs (h2 k);simp only [SL.st] at r1 L1 hx ⊢;rw [wu] at r1 L1 hx;refine ⟨_,r1,fun j=>?_,h3,MarksOk.le L1 h4⟩;show (lookT ((k,_)::t) j).rep _ _;simp only [lookT];by_cases hj:k=j
 ·subst hj;rw [if_pos rfl];simpa [A.rep] using hx
 ·rw [if_neg hj];exact U3 L1 _ _ (h2 j)
end Go.Am
namespace Go.Am
variable [T:Tab]
def Rall (w:World):Rd:=(zj (fun _ _=>False) (fun _=>none) (fun _=>none) w).R
theorem Rall_of {cx:Cx} {β:UC} {h:UB} {w:World}: ∀b i v,(zj cx.Xo β h w).R b i v->Rall w b i v:=
 fun b i v hr=>⟨fun q=>q,fun ⟨o,ob,h1,_⟩=>(by cases h1),hr.2.2⟩
def SeenL (h:UB) (as xs:List A):Prop:= ∀(cx:Cx) (β:UC) (w:World) (vs:List Value),Rel cx β h w->repL (zj cx.Xo β h w) as vs->repL (zj (fun _ _=>False) (fun _=>none) (fun _=>none) w) xs vs
theorem FnCall.pure {P:Program} {f:FuncId} {as xs:List A} {h:UB} {r:Value} (rd:List Nat) (ac:ACall P f xs [] (.d (.lit r)) []) (hz: ∀h2,(∀i∈rd,h2 i=h i)→SeenL h2 as xs):FnCall P f as h ⟨True,.d (.lit r),[],rd⟩ where
 fn:=ac.fn
 keyed:=Z6
 calls:=fun h2 hr2 cx β w vs rel hvs=>by
  have hx:=hz h2 hr2 cx β w vs rel hvs;have e0:lookO []=fun _=>none:=by funext o;rfl
  have hX0: ∀b i,¬Xh (fun _=>none) (lookO []) b i:=by rintro b i ⟨o,ob,h1,_⟩;simp [lookO] at h1
  have relc:Rel ⟨w,fun _ _=>False,Xh (fun _=>none) (lookO []),fun _=>none,lookO []⟩ (fun _=>none) (lookO []) w:=by
   refine ⟨fun o=>(by simp [lookO]),fun o ob bo h1 _=>(by simp [lookO] at h1),fun o o' b h1 _=>(by cases h1),fun o b i h1=>(by cases h1),fun b i h1=>False.elim h1,Ev.refl _ _,fun b i h1=>(hX0 b i h1).elim,fun o ob h1=>(by simp [lookO] at h1),fun o h1=>(by simp [lookO] at h1),fun g row hg=>?_,fun g hg=>?_,rel.tsz⟩
   ·have:=rel.tab g row hg;rw [e0];exact rowAt_mono Rall_of (Rall_of g) row 0 this
   ·rw [e0];exact (rel.gi g hg).imp fun _=>Rall_of _ _ _
  refine Calls.mono (ac.calls (fun _ _=>False) (fun _=>none) w vs relc (by rw [e0];exact hx)) fun en w' hen=>?_;obtain ⟨v,β',rfl,R',hres⟩:=hen;have evw:Ev (fun _ _=>False) w w':=by
   have:=R'.ev;exact Ev.mono this fun b i _ q=>hX0 b i q
  obtain ⟨r1,L1⟩:=rel.step (β':=β) (h':=h2) (w':=w') (Ev.mono evw fun _ _ _ q=>False.elim q) rel.dom (fun o ob ho=>⟨ob,ho,Uw _ _⟩) (fun o b hb=> .inl hb) rel.inj (fun b i q=> .inl q)
   (fun o ob bo h1 h3=> .inl ⟨h1,h3,fun b hb=>evw.same (rel.lt (hb ▸ h3)) fun _ q=>q⟩)
  refine ⟨v,β,rfl,by simpa [upds] using r1,by simpa [upds] using L1,?_⟩
  simpa only [A.rep,D.rep] using hres
section
variable {P:Program} {tt:Types} {ops:Array Oper} {dr:Bool} {rest:List Oper} {log:List Foot} {K:SL->Prop}
end
end Go.Am
namespace Go.Am
variable [T:Tab]
structure Agg where
 fn:Int
 arg:Ex
instance:Inhabited Agg:=⟨⟨0,default⟩⟩
def rAgg (a:Agg):List D:= .lit (.int .i64 a.fn)::rE a.arg
inductive Qr where
 | mk (op:Int) (table:ByteArray) (kind:Int) (all:Bool) (cond:Ex) (exprs:List Ex) (aggs:List Agg) (types:List Int) (rows:List (List Val)) (kids:List Qr)
def q0:Qr:= .mk 0 ByteArray.empty 0 false default [] [] [] [] []
instance:Inhabited Qr:=⟨q0⟩
namespace Qr
def op:Qr->Int | .mk a _ _ _ _ _ _ _ _ _=>a
def table:Qr->ByteArray | .mk _ a _ _ _ _ _ _ _ _=>a
def kind:Qr->Int | .mk _ _ a _ _ _ _ _ _ _=>a
def all:Qr->Bool | .mk _ _ _ a _ _ _ _ _ _=>a
def cond:Qr->Ex | .mk _ _ _ _ a _ _ _ _ _=>a
def exprs:Qr->List Ex | .mk _ _ _ _ _ a _ _ _ _=>a
def aggs:Qr->List Agg | .mk _ _ _ _ _ _ a _ _ _=>a
def types:Qr->List Int | .mk _ _ _ _ _ _ _ a _ _=>a
def rows:Qr->List (List Val) | .mk _ _ _ _ _ _ _ _ a _=>a
def kids:Qr->List Qr | .mk _ _ _ _ _ _ _ _ _ a=>a
end Qr
def xD (r:List Val):List D:=[.sl 3 (zd rV r)]
mutual
def rQ:Qr->List D
 | .mk a b c d e f g h i ks=>[.lit (.int .i64 a),.lit (.string b),.lit (.int .i64 c),.lit (.bool d)]++rE e++[.sl 6 (zd rE f),.sl 7 (zd rAgg g),.sl 1 (zd rI h),.sl 1 (zd xD i),.sl 15 (rQs ks)]
def rQs:List Qr->List (List D)
 | []=>[]
 | q::l=>rQ q::rQs l
end
theorem rQs_eq: ∀l,rQs l=zd rQ l
 | []=>by simp [rQs,zd]
 | q::l=>by simp [rQs,zF,rQs_eq l]
theorem xZ (q:Qr):rQ q=[.lit (.int .i64 q.op),.lit (.string q.table),.lit (.int .i64 q.kind),.lit (.bool q.all),.lit (.int .i64 q.cond.op),.lit (.int .i64 q.cond.type),.lit (.int .i64 q.cond.num),.lit (.string q.cond.text),.lit (.int .i64 q.cond.col),.sl 6 (zd rE q.cond.kids),
 .sl 6 (zd rE q.exprs),.sl 7 (zd rAgg q.aggs),.sl 1 (zd rI q.types),.sl 1 (zd xD q.rows),.sl 15 (zd rQ q.kids)]:=by
 cases q;simp [rQ,rQs_eq,yX,Qr.op,Qr.table,Qr.kind,Qr.all,Qr.cond,Qr.exprs,Qr.aggs,Qr.types,Qr.rows,Qr.kids]
theorem yF (a:Agg):rAgg a=[.lit (.int .i64 a.fn),.lit (.int .i64 a.arg.op),.lit (.int .i64 a.arg.type),.lit (.int .i64 a.arg.num),.lit (.string a.arg.text),.lit (.int .i64 a.arg.col),.sl 6 (zd rE a.arg.kids)]:=by
 simp [rAgg,yX]
def aQ (q:Qr):A:=aD (rQ q)
theorem ye (q:Qr):aQ q= .agg [.d (.lit (.int .i64 q.op)),.d (.lit (.string q.table)),.d (.lit (.int .i64 q.kind)),.d (.lit (.bool q.all)),.d (.lit (.int .i64 q.cond.op)),.d (.lit (.int .i64 q.cond.type)),.d (.lit (.int .i64 q.cond.num)),.d (.lit (.string q.cond.text)),.d (.lit (.int .i64 q.cond.col)),.d (.sl 6 (zd rE q.cond.kids)),
 .d (.sl 6 (zd rE q.exprs)),.d (.sl 7 (zd rAgg q.aggs)),.d (.sl 1 (zd rI q.types)),.d (.sl 1 (zd xD q.rows)),.d (.sl 15 (zd rQ q.kids))]:=by
 simp [aQ,aD,xZ]
end Go.Am
namespace Go.Am
variable [T:Tab]
theorem rndOk_spec {N:Nat} {ps:List Nat} {asg bd:Code} (h:rndOk N ps asg bd=true):(∀p∈ps,p<N)/\cOk N asg=true/\cOk N bd=true:=by
 simp only [rndOk,Ys] at h;exact ⟨fun p hp=>by simpa using YT.1 h.1.1 p hp,h.1.2,h.2⟩
theorem lp_of {ks ps:List Nat} {asg bd:Code} {st:LS} {ob:Obj} {vs:List Value} (h:XK.of (.lp ks ps asg bd st) ob vs): ∃r:Loop,ob= .loop r/\vs=ks.map (fun k=>r.tmps.getD k undef)/\rndOk r.tmps.size ps asg bd=true/\r.params=ps.toArray/\r.assign=asg/\r.body=bd/\
 (match st with
  | .ready=>r.state= .ready/\r.pending=none
  | .busy=>r.state= .busy
  | .done j=>r.state= .done/\r.pending=some j
  | .over=>True):=by
 cases ob with
 | loop r=>exact ⟨r,rfl,by cases st<;>exact h⟩
 | _=>simp [XK.of] at h
def zipT:List Nat->List A->List (Nat×A)
 | k::ks,a::as=>(k,a)::zipT ks as
 | _,_=>[]
def setPs:List Nat->List A->List (Nat×A)->List (Nat×A)
 | p::ps,a::as,t=>setPs ps as ((p,a)::t)
 | _,_,t=>t
theorem zipT_rep {E:Env} {f:Nat->Value}: ∀(ks:List Nat) (as:List A),repL E as (ks.map f)-> ∀k,(lookT (zipT ks as) k).rep E (f k)
 | [],as,h,k=>by simp [zipT,lookT,A.rep]
 | k0::ks,[],h,k=>by simp [zipT,lookT,A.rep]
 | k0::ks,a::as,h,k=>by
   simp only [Yw,repL] at h;obtain ⟨u,us,e,h1,h2⟩:=h;injection e with e1 e2
   subst e1 e2;simp only [zipT,lookT];by_cases hk:k0=k
   ·subst hk;rw [if_pos rfl];exact h1
   ·rw [if_neg hk];exact zipT_rep ks as h2 k
theorem setPs_rep {E:Env}: ∀(ps:List Nat) (as:List A) (vs:List Value) (t:UD) (tmps:Array Value),repL E as vs->as.length=ps.length->(∀p∈ps,p<tmps.size)->(∀k,(lookT t k).rep E (tmps.getD k undef))->
 ∀k,(lookT (setPs ps as t) k).rep E (((ps.zip vs).foldl (fun tmps (x:Nat×Value)=>tmps.setIfInBounds x.1 x.2) tmps).getD k undef)
 | [],[],vs,t,tmps,h,_,_,ht,k=>by simpa [setPs] using ht k
 | [],a::as,vs,t,tmps,h,hl,_,ht,k=>by simp at hl
 | p::ps,[],vs,t,tmps,h,hl,_,ht,k=>by simp at hl
 | p::ps,a::as,vs,t,tmps,h,hl,hp,ht,k=>by
   simp only [repL] at h;obtain ⟨u,us,rfl,h1,h2⟩:=h;simp only [setPs,List.zip_cons_cons,List.foldl_cons];refine setPs_rep ps as us ((p,a)::t) _ h2 (Zc hl) (fun q hq=>by simpa using hp q (Zu hq)) (fun j=>?_) k;have hpl:=hp p Zd;simp only [lookT,YR];by_cases hj:p=j
   ·subst hj;rw [if_pos rfl,Array.getElem?_setIfInBounds_self_of_lt hpl];exact h1
   ·rw [if_neg hj,Array.getElem?_setIfInBounds_ne hj];have:=ht j;rwa [YR] at this
abbrev AYield (P:Program) (o:Nat) (as:List A) (os:UE) (res:A) (os':UE):Prop:=
 GCall (fun β args w R=> ∀b,β o=some (some b)->YieldRun P b args w R) as os res os'
def rndE:Exit->Option (LS×Bool)
 | .normal=>some (.ready,true)
 | .ret=>some (.done .ret,false)
 | .exit i=>some (.done (.exit i),false)
 | _=>none
def rndK (o:Nat) (ks ps:List Nat) (asg bd:Code) (res:A) (os':UE) (e:Exit) (σ:SL):Prop:=
 match rndE e with
 | some (st,b)=> ∃cs,lookO σ.o o=some (.x (.lp ks ps asg bd .busy) cs)/\retx (some (True,.d (.lit (.bool b)))) ⟨σ.t,(o,.x (.lp ks ps asg bd st) cs)::σ.o⟩ res os'
 | none=>False
def asgK (P:Program) (tt:Types) (o:Nat) (ks ps:List Nat) (asg bd:Code) (res:A) (os':UE):Exit->SL->Prop
 | .normal,σ=> ∃cs,lookO σ.o o=some (.x (.lp ks ps asg bd .ready) cs)/\ev P tt bd (rndK o ks ps asg bd res os') ⟨σ.t,(o,.x (.lp ks ps asg bd .busy) cs)::σ.o⟩
 | _,_=>False
theorem lp_at {cx:Cx} {β:UC} {h:UB} {w:World} (rel:Rel cx β h w) {o b:Nat} {k0 k:XK} {as0 as:List A} (h0:cx.h0 o=some (.x k0 as0)) (hb0:cx.β0 o=some (some b)) (ho:h o=some (.x k as)):
 β o=some (some b)/\ ∃ob vs,w.heap[b]? =some ob/\k.of ob vs/\repL (zj cx.Xo β h w) as vs:=by
 obtain ⟨ob',g1,g2⟩:=rel.ent o _ h0;rw [ho] at g1;cases g1;simp only [Ob.grow] at g2;have hb:β o=some (some b):=g2.1.trans hb0;have:=rel.obj o _ _ ho hb;simp only [Ob.rep] at this;obtain ⟨b',ob,vs,e,g3,g4,g5⟩:=this;cases e;exact ⟨hb,ob,vs,g3,g4,g5⟩
theorem AYield.enter {P:Program} {tt:Types} (hm:P.follows .mixedOrders=true) (T':tt.ok P) {o:Nat} {ks ps:List Nat} {asg bd:Code} {cs as:List A} {os os':UE} {res:A}
 (ho:lookO os o=some (.x (.lp ks ps asg bd .ready) cs)) (hl:as.length=ps.length) (h:ev P tt asg (asgK P tt o ks ps asg bd res os') ⟨setPs ps as (zipT ks cs),os⟩):AYield P o as os res os':=by
 intro Xo β w vs rel hr b hb;have hobj:=rel.obj o _ _ ho hb;simp only [Ob.rep] at hobj;obtain ⟨b',ob,us,e,hw,hof,hrep⟩:=hobj;cases e;obtain ⟨r,rfl,rfl,hok,hps,has,hbd,hst,hpend⟩:=lp_of hof;obtain ⟨hps1,hc1,hc2⟩:=rndOk_spec hok;have hvl:=zX _ _ hr;have hsz:vs.toArray.size=r.params.size:=by rw [hps];simp;omega
 refine ⟨r.fn,_,r.assign,r.body,run_yield hw hsz,roundIn_of_wpIn (F:=Fence.wide) trivial ?_⟩;have rel0:RelT ⟨w,Xo,Xh β (lookO os),β,lookO os⟩ r.tmps.size (⟨setPs ps as (zipT ks cs),os⟩:SL).st {tmps:=(r.params.zip vs.toArray).foldl (fun tmps (x:Nat×Value)=>tmps.setIfInBounds x.1 x.2) r.tmps,defers:=[]} w:=by
  have e1:(r.params.zip vs.toArray).foldl (fun tmps (x:Nat×Value)=>tmps.setIfInBounds x.1 x.2) r.tmps=(ps.zip vs).foldl (fun tmps (x:Nat×Value)=>tmps.setIfInBounds x.1 x.2) r.tmps:=by
   rw [hps,<-Array.foldl_toList,Array.toList_zip]
  refine ⟨β,rel,fun k=>?_,?_,MarksOk.nil _ _ _⟩
  ·rw [e1];exact setPs_rep ps as vs _ r.tmps hr hl hps1 (fun k=>zipT_rep ks cs hrep k) k
  ·rw [e1];have: ∀(l:List (Nat×Value)) (a:Array Value),(l.foldl (fun tmps (x:Nat×Value)=>tmps.setIfInBounds x.1 x.2) a).size=a.size:=by
    intro l
    induction l with
    | nil=>intro a;rfl
    | cons x l ih=>intro a;rw [List.foldl_cons,ih];simp
   exact this _ _
 rw [has];refine wpIn_mono (j9 hm T' (some b) asg _ _ h (cOkF_of hc1) _ w rel0) fun e a1 w1 hp=>?_;obtain ⟨σ1,⟨β1,q1,q2,q3,q4⟩,k1⟩:=hp;cases e with
 | normal=>
   obtain ⟨cs1,ho1,hbody⟩:=k1;obtain ⟨hb1,ob1,us1,hw1,hof1,hrep1⟩:=lp_at q1 (b:=b) ho hb ho1;obtain ⟨r1,rfl,e1,hok1,hps1',has1,hbd1,hst1,hpend1⟩:=lp_of hof1;refine ⟨_,run_beginRound hw1 hst1,?_⟩;obtain ⟨t1,L1⟩:=q1.turnX (y:= .loop {r1 with state:= .busy}) ho1 hb1 hw1 trivial trivial (k':= .lp ks ps asg bd .busy) trivial ⟨e1,hok1,hps1',has1,hbd1,rfl⟩ hrep1;have rel1:RelT ⟨w,Xo,Xh β (lookO os),β,lookO os⟩ r.tmps.size (⟨σ1.t,(o,.x (.lp ks ps asg bd .busy) cs1)::σ1.o⟩:SL).st a1 (w1.putObj b (.loop {r1 with state:= .busy})):=by
    have e2:(SL.st ⟨σ1.t,(o,.x (.lp ks ps asg bd .busy) cs1)::σ1.o⟩).o=put σ1.st.o o (some (.x (.lp ks ps asg bd .busy) cs1)):=(xV _ _ _).symm;refine ⟨β1,?_,fun k=>?_,q3,?_⟩
    ·rw [e2];exact t1
    ·rw [e2];exact U3 L1 _ _ (q2 k)
    ·rw [e2];exact MarksOk.le L1 q4
   rw [hbd];refine wpIn_mono (j9 hm T' (some b) bd _ _ hbody (cOkF_of hc2) a1 _ rel1) fun e2 a2 w2 hp2=>?_;obtain ⟨σ2,⟨β2,p1,p2,p3,p4⟩,k2⟩:=hp2;have fin: ∀(jump:Option Code) (st:LS) (bb:Bool),rndE e2=some (st,bb)→bb=jump.isNone→(∀r2:Loop,(match st with
        | .ready=>({r2 with state:=if jump.isNone then .ready else .done,pending:=jump}:Loop).state= .ready/\({r2 with state:=if jump.isNone then .ready else .done,pending:=jump}:Loop).pending=none
        | .busy=>({r2 with state:=if jump.isNone then .ready else .done,pending:=jump}:Loop).state= .busy
        | .done j=>({r2 with state:=if jump.isNone then .ready else .done,pending:=jump}:Loop).state= .done/\({r2 with state:=if jump.isNone then .ready else .done,pending:=jump}:Loop).pending=some j
        | .over=>True))->
    ∃v w',(Instr.endRound b jump).run P w2= .ok v w'/\ ∃v_1 β',Ending.returned v= .returned v_1/\Rel ⟨w,Xo,Xh β (lookO os),β,lookO os⟩ β' (lookO os') w'/\res.rep (zj Xo β' (lookO os') w') v_1:=by
    intro jump st bb hE hbb hjj;unfold rndK at k2;rw [hE] at k2;obtain ⟨cs2,ho2,hret⟩:=k2;obtain ⟨hb2,ob2,us2,hw2,hof2,hrep2⟩:=lp_at p1 (b:=b) ho hb ho2;obtain ⟨r2,rfl,e3,hok2,hps2,has2,hbd2,hst2⟩:=lp_of hof2;obtain ⟨t2,L2⟩:=p1.turnX (y:= .loop {r2 with state:=if jump.isNone then .ready else .done,pending:=jump}) ho2 hb2 hw2 trivial trivial (k':= .lp ks ps asg bd st) trivial ⟨e3,hok2,hps2,has2,hbd2,hjj r2⟩ hrep2;refine ⟨_,_,run_endRound jump hw2,?_⟩;obtain ⟨_,hwk⟩:=hret;have rel2:RelT ⟨w,Xo,Xh β (lookO os),β,lookO os⟩ 1 ⟨lookT [(0,.d (.lit (.bool bb)))],lookO ((o,.x (.lp ks ps asg bd st) cs2)::σ2.o)⟩ {tmps:= #[.bool jump.isNone],defers:=[]} (w2.putObj b (.loop {r2 with state:=if jump.isNone then .ready else .done,pending:=jump})):=by
     refine ⟨β2,?_,fun k=>?_,rfl,MarksOk.nil _ _ _⟩
     ·rw [<-xV];exact t2
     ·simp only [lookT];by_cases hk:0=k
      ·subst hk;rw [if_pos rfl,hbb];simp only [A.rep,D.rep];exact ⟨rfl,rfl⟩
      ·rw [if_neg hk];simp [A.rep]
    obtain ⟨β3,s1,s2,_,_⟩:=hwk _ 1 _ _ rel2;have:=s2 0;simp only [lookT,if_true] at this;exact ⟨_,β3,rfl,s1,Zc this⟩
   cases e2 with
   | normal=>exact fin none .ready true rfl rfl (fun _=>⟨rfl,rfl⟩)
   | ret=>exact fin (some .ret) (.done .ret) false rfl rfl (fun _=>⟨rfl,rfl⟩)
   | exit i=>exact fin (some (.exit i)) (.done (.exit i)) false rfl rfl (fun _=>⟨rfl,rfl⟩)
   | goto l=>exact k2.elim
   | panic ch=>exact k2.elim
   | outgrown=>exact k2.elim
 | exit i=>exact k1.elim
 | goto l=>exact k1.elim
 | ret=>exact k1.elim
 | panic ch=>exact k1.elim
 | outgrown=>exact k1.elim
end Go.Am
namespace Go.Am
variable [T:Tab]
section
variable {P:Program} {tt:Types} {ops:Array Oper} {dr:Bool} {rest:List Oper} {log:List Foot} {K:SL->Prop}
end
theorem Rel.other {cx:Cx} {β:UC} {h:UB} {w:World} (r:Rel cx β h w) {b:Nat} {x y:Obj} (hw:w.heap[b]? =some x) (hx:qX x) (hy:qX y) (hb:cx.w0.heap.size<=b) (hno: ∀o,β o≠some (some b)):
 Rel cx β h (w.putObj b y)/\(zj cx.Xo β h w).Le (zj cx.Xo β h (w.putObj b y)):=by
 have hlt:b<w.heap.size:=by
  rcases YK b w.heap.size with hl | hl
  ·exact hl
  ·simp [Array.getElem?_eq_none hl] at hw
 have hset:(w.putObj b y).heap[b]? =some y:=World.putObj_heap_same hlt;have hoth: ∀k,k≠b->(w.putObj b y).heap[k]? =w.heap[k]? :=fun k hk=>World.putObj_heap_other hk;have hcell: ∀k i v,w.cell? ⟨k,i,none⟩=some v->(w.putObj b y).cell? ⟨k,i,none⟩=some v:=by
  intro k i v hc;by_cases hk:k=b
  ·subst hk;unfold World.cell? at hc;simp only [hw] at hc;cases x<;>simp at hc;exact hx.elim
  ·unfold World.cell? at hc ⊢;simp only [hoth k hk];exact hc
 have hszz: ∀(k n:Nat),(zj cx.Xo β h w).sz k n->(zj cx.Xo β h (w.putObj b y)).sz k n:=by
  rintro k n ⟨c,el,h1,h2⟩;have hk:k≠b:=fun e=>by rw [e,hw] at h1;cases h1;exact hx.elim
  exact ⟨c,el,(hoth k hk).trans h1,h2⟩
 have L:(zj cx.Xo β h w).Le (zj cx.Xo β h (w.putObj b y)):=
  ⟨fun k i v hr=>⟨hr.1,hr.2.1,hcell k i v hr.2.2⟩,fun o ob ho=>⟨ob,ho,Uw _ _⟩,hszz⟩
 refine ⟨⟨r.dom,fun o ob bo h1 h2=>?_,r.inj,r.out,r.bnd,?_,r.own,r.ent,r.big,fun g row hg=>rowAt_mono L.R (L.R g) row 0 (r.tab g row hg),fun g hg=>(r.gi g hg).imp fun _=>L.R _ _ _,fun g row hg=>?_⟩,L⟩
 ·exact Ob.rep_le L (fun k hk=>hoth k (fun e=>hno o (by rw [h2,hk,e]))) (r.obj o ob bo h1 h2)
 ·refine ⟨r.ev.os,r.ev.tape,r.ev.output,by simpa using r.ev.size,r.ev.drawn,fun k hk=>?_⟩;have hkb:k≠b:=Za;rw [hoth k hkb];exact r.ev.block k hk
 ·obtain ⟨c,el,fl,h1,h2⟩:=r.tsz g row hg;have hk:g≠b:=fun e=>by rw [e,hw] at h1;cases h1;exact hx.elim
  exact ⟨c,el,fl,(hoth g hk).trans h1,h2⟩
end Go.Am
namespace Go.Am
variable [T:Tab]
section
variable {P:Program} {tt:Types} {ops:Array Oper} {rest:List Oper} {log:List Foot} {K:SL->Prop}
theorem map_next {io om clk:Nat} {bs sn:List Nat} {es:List (Value×Value)} {d:Option Nat} {t:UD} {o:UE} (h1:lookO o io=some (.x (.mi bs clk sn) [.mp om])) (h2:lookO o om=some (.mp es (some (bs,clk))))
 (hs: ∀i k v,es[i]? =some (k,v)->i ∉ sn->rgn P tt ops false rest (⟨[io,om],[io]⟩::log) K ⟨setT d (.tup [.d (.lit (.bool true)),.d (.lit k),.d (.lit v)]) t,(io,.x (.mi bs clk (sn++[i])) [.mp om])::o⟩)
 (he:(∀i,i<es.length->i∈sn)->rgn P tt ops false rest (⟨[io,om],[]⟩::log) K ⟨setT d (.tup [.d (.lit (.bool false))]) t,o⟩):nextx P tt ops false rest log K ⟨t,o⟩ false (.xo false io) d:=by
 unfold nextx mapx;simp only [nextS,h1,h2];refine ⟨⟨trivial,⟨trivial,trivial⟩⟩,fun e hS=>?_⟩;rcases hS with ⟨i,k,v,g1,g2,rfl⟩ | ⟨g1,rfl⟩
 ·exact hs i k v g1 g2
 ·exact he g1
theorem map_entry {io om clk i:Nat} {bs sn:List Nat} {es:List (Value×Value)} {k v:Value} {d:Option Nat} {t:UD} {o:UE} (h1:lookO o io=some (.x (.mi bs clk (sn++[i])) [.mp om])) (h2:lookO o om=some (.mp es (some (bs,clk)))) (hi:es[i]? =some (k,v))
 (h:rgn P tt ops false rest (⟨[io,om],[]⟩::log) K ⟨setT d (.tup [.d (.lit k),.d (.lit v)]) t,o⟩):entryx P tt ops false rest log K ⟨t,o⟩ (.xo false io) d:=by
 unfold entryx mapx;simp only [entryS,h1,h2];refine ⟨⟨trivial,⟨⟨trivial,trivial⟩,Zd⟩⟩,fun e hS=>?_⟩;obtain ⟨j,k',v',g1,g2,rfl⟩:=hS;simp only [List.getLast?_append,List.getLast?_singleton,Option.some_or,Option.some.injEq] at g1;subst g1;rw [hi] at g2;cases g2;exact h
end
theorem Weak.mpAny {t:UD} {o:UE} (q:Nat) {es:List (Value×Value)} {st:Option (List Nat×Nat)} (hq:lookO o q=some (.mp es st)):Weak (SL.mk t o).st (SL.mk t ((q,.mp es)::o)).st:=by
 intro cx N a w ⟨β,h1,h2,h3,h4⟩;have h1':Rel cx β (lookO o) w:=h1;obtain ⟨b,hb,hrep⟩: ∃b,β q=some (some b)/\(Ob.mp es).rep (zj cx.Xo β (lookO o) w) w (some b):=by
  have hd:=h1'.dom q;rw [hq] at hd;obtain ⟨bo,hbo⟩:=YB.1 (Zc hd);have:=h1'.obj q _ _ hq hbo;simp only [Ob.rep] at this;obtain ⟨b,ens,clk,rfl,g1,g2,g3,g4⟩:=this;refine ⟨b,hbo,?_⟩;simp only [Ob.rep];exact ⟨b,ens,clk,rfl,g1,g2,g3,g4.any⟩
 obtain ⟨r1,L1⟩:=h1'.step (β':=β) (h':=put (lookO o) q (some (.mp es))) (w':=w) (Ev.refl _ _) (fun k=>by
  by_cases hk:k=q
  ·subst hk;rw [yu,hb];rfl
  ·rw [zG _ _ hk];exact h1'.dom k) (fun k x hx=>by
  by_cases hk:k=q
  ·subst hk;rw [hq] at hx;cases hx;exact ⟨_,yu _ _ _,Xs⟩
  ·exact ⟨x,by rw [zG _ _ hk,hx],Uw _ _⟩) (fun _ _ h=> .inl h) h1'.inj (fun k i hX=>by
  obtain ⟨j,x,g1,g2,g3⟩:=hX;by_cases hk:j=q
  ·subst hk;exact .inl ⟨j,_,hq,g2,trivial⟩
  ·rw [zG _ _ hk] at g1;exact .inl ⟨j,x,g1,g2,g3⟩) (fun k x bo g1 g2=>by
  by_cases hk:k=q
  ·subst hk;rw [yu] at g1;cases g1;rw [hb] at g2;cases g2;refine .inr fun L=>?_;simp only [Ob.rep] at hrep ⊢;exact hrep
  ·rw [zG _ _ hk] at g1;exact .inl ⟨g1,g2,fun _ _=>rfl⟩)
 rw [xV] at r1 L1;exact ⟨β,r1,fun k=>U3 L1 _ _ (h2 k),h3,MarksOk.le L1 h4⟩
theorem Rel.retell {cx:Cx} {β:UC} {h:UB} {w:World} (rel:Rel cx β h w) {q:Nat} {ob ob':Ob} (hq:h q=some ob) (hg:Ob.grow (β q) (β q) ob ob') (hx: ∀i,ob'.excl i->ob.excl i)
 (hr: ∀bo,β q=some bo->(zj cx.Xo β h w).Le (zj cx.Xo β (put h q (some ob')) w)->ob'.rep (zj cx.Xo β (put h q (some ob')) w) w bo):
 Rel cx β (put h q (some ob')) w/\(zj cx.Xo β h w).Le (zj cx.Xo β (put h q (some ob')) w):=by
 refine rel.step (Ev.refl _ _) (fun k=>?_) (fun k x hk=>?_) (fun _ _ h=> .inl h) rel.inj (fun k i hX=>?_) (fun k x bo g1 g2=>?_)
 ·by_cases hk:k=q
  ·subst hk;rw [yu,rel.dom,hq];rfl
  ·rw [zG _ _ hk];exact rel.dom k
 ·by_cases hkq:k=q
  ·subst hkq;rw [hq] at hk;cases hk;exact ⟨_,yu _ _ _,hg⟩
  ·exact ⟨x,by rw [zG _ _ hkq,hk],Uw _ _⟩
 ·obtain ⟨j,x,g1,g2,g3⟩:=hX;by_cases hk:j=q
  ·subst hk;rw [yu] at g1;cases g1;exact .inl ⟨j,_,hq,g2,hx i g3⟩
  ·rw [zG _ _ hk] at g1;exact .inl ⟨j,x,g1,g2,g3⟩
 ·by_cases hk:k=q
  ·subst hk;rw [yu] at g1;cases g1;exact .inr fun L=>hr bo g2 L
  ·rw [zG _ _ hk] at g1;exact .inl ⟨g1,g2,fun _ _=>rfl⟩
theorem bag_open {P:Program} {c:Code} {K:Exit→SL→Prop} {t:UD} {o:UE} {q io n:Nat} {S:Value→Option Value} (hq:lookO o q=some (.bag S n)) (hio:lookO o io=some (.x (.bi n) [.mp q]))
 (h: ∀(es:List (Value×Value)) (bs:List Nat),bs.length=es.length->(∀x y,(x,y)∈es ↔ S x=some y)->wp P c K ⟨t,(io,.x (.mi bs n []) [.mp q])::(q,.mp es (some (bs,n)))::o⟩):wp P c K ⟨t,o⟩:=by
 have hne:io≠q:=fun e=>by rw [e,hq] at hio;cases hio
 intro ro cx N hc a w rel;obtain ⟨β,h1,h2,h3,h4⟩:=rel;have h1':Rel cx β (lookO o) w:=h1;obtain ⟨bo,hbo⟩:=YB.1 (show (β q).isSome=true by rw [h1'.dom,hq];rfl);have hrep:=h1'.obj q _ _ hq hbo;simp only [Ob.rep] at hrep;obtain ⟨b,ens,rfl,g1,g2,g3,g4⟩:=hrep;refine h (ens.toList.map fun e=>(e.key,e.val)) (ens.toList.map (·.born)) Zd g2 ro cx N hc a w ?_;obtain ⟨r1,L1⟩:=h1'.retell (ob':= .mp (ens.toList.map fun e=>(e.key,e.val)) (some (ens.toList.map (·.born),n))) hq Xs (fun _ _=>trivial) (fun bo' hb' L=>by
  rw [hbo] at hb';cases hb';simp only [Ob.rep];exact ⟨b,ens,n,rfl,g1,rfl,fun p hp=>by
   obtain ⟨e,he,rfl⟩:=Y4.1 hp;exact g3 e he,⟨g4.up,g4.lt,fun _ _ e=>by cases e;exact ⟨rfl,rfl⟩⟩⟩)
 have hio':put (lookO o) q (some (.mp (ens.toList.map fun e=>(e.key,e.val)) (some (ens.toList.map (·.born),n)))) io=some (.x (.bi n) [.mp q]):=by rw [zG _ _ hne];exact hio
 obtain ⟨bi,hbi⟩:=YB.1 (show (β io).isSome=true by rw [h1'.dom,hio];rfl);have hrepi:=r1.obj io _ _ hio' hbi;simp only [Ob.rep] at hrepi;obtain ⟨bb,ob,vs,rfl,k1,k2,k3⟩:=hrepi;obtain ⟨r2,L2⟩:=r1.retell (ob':= .x (.mi (ens.toList.map (·.born)) n []) [.mp q]) hio' (by simp [Ob.grow,XK.grow]) (fun _ _=>trivial) (fun bo' hb' L=>by
  rw [hbi] at hb';cases hb';simp only [Ob.rep];refine ⟨bb,ob,vs,rfl,k1,?_,repL_le L _ _ k3⟩;cases ob with
  | mapIter m since seen last=>
    cases m with
    | none=>simp [XK.of] at k2
    | some m=>
      obtain ⟨e1,e2,e3,e4⟩:=k2;exact ⟨e1,e2,e3,Z5 e4,fun _ h=>by cases h⟩
  | _=>simp [XK.of] at k2)
 have L:=L1.trans L2;rw [xV,xV] at r2 L;exact ⟨β,r2,fun k=>U3 L _ _ (h2 k),h3,MarksOk.le L h4⟩
end Go.Am
namespace Go.Am
variable {α:Type} (le:α->α->Bool)
def zH:List α->List α
 | []=>[]
 | x::l=>List.merge [x] (zH l) le
theorem mg_l {x y:α} {a b:List α} (h:le x y=true):List.merge (x::a) (y::b) le=x::List.merge a (y::b) le:=by
 rw [List.cons_merge_cons,if_pos h]
theorem Z0 {p P0:Prop} (zf_:P0) (h:P0->p:=by intro zf_;rw [zf_];decide):p:=h zf_
theorem mg_r {x y:α} {a b:List α} (h:le x y=false):List.merge (x::a) (y::b) le=y::List.merge (x::a) b le:=by
 rw [List.cons_merge_cons,if_neg (Z0 h)]
variable {le}
theorem vp: ∀(n:Nat) (u1 v1 u2 v2:List α),u1.length+v1.length<=n->(∀x∈u1,∀y∈v2,le x y=true)->(∀x∈u2,∀y∈v1,le x y=false)->
 List.merge (u1++u2) (v1++v2) le=List.merge u1 v1 le++List.merge u2 v2 le
 | n,[],[],u2,v2,_,_,_=>Zd
 | n,[],y::v1,[],v2,_,_,_=>Zd
 | n,x::u1,[],u2,[],_,_,_=>Zd
 | 0,[],y::v1,x::u2,v2,h,_,_=>by simp at h
 | 0,x::u1,[],u2,y::v2,h,_,_=>by simp at h
 | 0,x::u1,y::v1,u2,v2,h,_,_=>by simp at h
 | n+1,[],y::v1,x::u2,v2,h,h1,h2=>by
   have hxy:=h2 x Zd y Zd;have ih:=vp n [] v1 (x::u2) v2 (by simp at h ⊢;omega) Zd (fun a ha b hb=>h2 a ha b (Zu hb));simp only [Ue,YL] at ih ⊢;rw [mg_r le hxy,ih];simp
 | n+1,x::u1,[],u2,y::v2,h,h1,h2=>by
   have hxy:=h1 x Zd y Zd;have ih:=vp n u1 [] u2 (y::v2) (by simp at h ⊢;omega) (fun a ha b hb=>h1 a (Zu ha) b hb) Zd;simp only [Ue,YL] at ih ⊢;rw [mg_l le hxy,ih];simp
 | n+1,x::u1,y::v1,u2,v2,h,h1,h2=>by
   simp only [YL];cases hxy:le x y with
   | true=>
     have ih:=vp n u1 (y::v1) u2 v2 (by simp at h ⊢;omega) (fun a ha b hb=>h1 a (Zu ha) b hb) h2;rw [mg_l le hxy,mg_l le hxy];simp only [YL] at ih;rw [ih,YL]
   | false=>
     have ih:=vp n (x::u1) v1 u2 v2 (by simp at h ⊢;omega) h1 (fun a ha b hb=>h2 a ha b (Zu hb));rw [mg_r le hxy,mg_r le hxy];simp only [YL] at ih;rw [ih,YL]
structure Ord (le:α->α->Bool):Prop where
 trans: ∀a b c,le a b=true->le b c=true->le a c=true
 total: ∀a b,(le a b || le b a)=true
theorem Ord.flip (o:Ord le) {a b:α} (h:le a b=false):le b a=true:=by
 have:=o.total a b;rw [h] at this;simpa using this
theorem kB (o:Ord le): ∀(n:Nat) (a b c:List α),a.length+b.length+c.length≤n→List.merge (List.merge a b le) c le=List.merge a (List.merge b c le) le
 | n,[],b,c,_=>Zd
 | n,x::a,[],c,_=>Zd
 | n,x::a,y::b,[],_=>Zd
 | 0,x::a,y::b,z::c,h=>by simp at h
 | n+1,x::a,y::b,z::c,h=>by
   simp only [Y6] at h;cases hxy:le x y with
   | true=>
     rw [mg_l le hxy];cases hyz:le y z with
     | true=>
       have hxz:=o.trans _ _ _ hxy hyz;rw [mg_l le hxz,mg_l le hyz,mg_l le hxy,<-mg_l le hyz];exact congrArg _ (kB o n a (y::b) (z::c) Zs)
     | false=>
       rw [mg_r le hyz];cases hxz:le x z with
       | true=>
         rw [mg_l le hxz,mg_l le hxz,<-mg_r le hyz];exact congrArg _ (kB o n a (y::b) (z::c) Zs)
       | false=>
         rw [mg_r le hxz,mg_r le hxz,<-mg_l le hxy];exact congrArg _ (kB o n (x::a) (y::b) c Zs)
   | false=>
     rw [mg_r le hxy];cases hyz:le y z with
     | true=>
       rw [mg_l le hyz,mg_l le hyz,mg_r le hxy];exact congrArg _ (kB o n (x::a) b (z::c) Zs)
     | false=>
       have hxz:le x z=false:=by
        cases hq:le x z with
        | false=>rfl
        | true=>
          have:=o.trans _ _ _ hq (o.flip hyz);rw [hxy] at this;cases this
       rw [mg_r le hyz,mg_r le hyz,mg_r le hxz,<-mg_r le hxy];exact congrArg _ (kB o n (x::a) (y::b) c Zs)
theorem we (o:Ord le): ∀a b:List α,List.merge (zH le a) (zH le b) le=zH le (a++b)
 | [],b=>by simp [zH]
 | x::a,b=>by
   rw [zH,kB o _ _ _ _ (Yt _),we o a b];rfl
theorem ssort_one (x:α):zH le [x]=[x]:=by simp [zH]
theorem zQ: ∀l:List α,(zH le l).Perm l
 | []=>List.Perm.refl _
 | x::l=>by
   rw [zH];refine (List.merge_perm_append le).trans ?_;exact (zQ l).cons x
theorem zD (l:List α):(zH le l).length=l.length:=(zQ l).length_eq
abbrev Asc (le:α->α->Bool) (l:List α):Prop:=l.Pairwise fun a b=>le a b=true
theorem xc (o:Ord le): ∀l:List α,Asc le (zH le l)
 | []=>List.Pairwise.nil
 | x::l=>by
   rw [zH];exact List.pairwise_merge (fun a b c=>o.trans a b c) (fun a b=>o.total a b) _ _ Zd (xc o l)
theorem qZ (a b:List α):(List.merge a b le).length=a.length+b.length:=by
 rw [(List.merge_perm_append le).length_eq,Yd]
theorem mg_le {a b:List α} (h: ∀x∈a,∀y∈b,le x y=true):List.merge a b le=a++b:=by
 have:=vp (le:=le) _ a [] [] b (Yt _) h Zd;simpa using this
theorem mg_gt {a b:List α} (h: ∀x∈a,∀y∈b,le x y=false):List.merge a b le=b++a:=by
 have:=vp (le:=le) _ [] b a [] (Yt _) Zd h;simpa using this
theorem mg_in_l {x:α} {v1 v2:List α} (h1: ∀y∈v1,le x y=false) (h2: ∀y∈v2,le x y=true):List.merge [x] (v1++v2) le=v1++x::v2:=by
 have:=vp (le:=le) _ [] v1 [x] v2 (Yt _) Zd (Zc h1);rw [Ue] at this;rw [this,mg_le (a:=[x]) (b:=v2) (Zc h2)];simp
theorem mg_in_r {y:α} {u1 u2:List α} (h1: ∀x∈u1,le x y=true) (h2: ∀x∈u2,le x y=false):List.merge (u1++u2) [y] le=u1++y::u2:=by
 have:=vp (le:=le) _ u1 [] u2 [y] (Yt _) (Zc h1) Zd;rw [Ue] at this;rw [this,mg_gt (a:=u2) (b:=[y]) (Zc h2)];simp
def wZ (le:α->α->Bool) (s:Nat):Nat->List α->List α
 | 0,l=>l
 | n+1,l=>if l.length<=s then zH le l else zH le (l.take s)++wZ le s n (l.drop s)
theorem chunks_fuel {s:Nat} (hs:0<s): ∀(n m:Nat) (l:List α),l.length<=n->l.length<=m->wZ le s n l=wZ le s m l
 | 0,0,l,_,_=>rfl
 | 0,m+1,l,h1,h2=>by
   have:l=[]:=Yi Za;subst this;simp [wZ,zH]
 | n+1,0,l,h1,h2=>by
   have:l=[]:=Yi Za;subst this;simp [wZ,zH]
 | n+1,m+1,l,h1,h2=>by
   rw [wZ,wZ]
   split
   ·rfl
   ·rw [chunks_fuel hs n m _ Zs Zs]
def chk (le:α->α->Bool) (s:Nat) (l:List α):List α:=wZ le s l.length l
theorem xe {s:Nat} {l:List α} (h:l.length<=s):chk le s l=zH le l:=by
 cases l with
 | nil=>rfl
 | cons x l=>rw [chk,Y6,wZ,if_pos (Zc h)]
theorem Xj {p:Prop} (h:p:=by rw [Yd];omega):p:=h
theorem qk {s:Nat} (hs:0<s) {a:List α} (b:List α) (h:a.length=s):chk le s (a++b)=zH le a++chk le s b:=by
 by_cases hb:b=[]
 ·subst hb;rw [Yv,xe Za];simp [chk,wZ]
 ·have hb':0<b.length:=List.length_pos_iff.2 hb;have e:(a++b).length=(a.length+b.length-1)+1:=Xj;rw [chk,e,wZ,if_neg (Z4 e),List.take_left' h,List.drop_left' h,chk,chunks_fuel hs _ _ b Za (Yt _)]
theorem ZA {p:Prop} (h:p:=by rw [Yh];omega):p:=h
theorem ZP {p:Prop} (h:p:=by rw [Ym];omega):p:=h
theorem wo {s:Nat} (hs:0<s): ∀(k:Nat) (a b:List α),a.length=k * s->chk le s (a++b)=chk le s a++chk le s b
 | 0,a,b,h=>by
   have:a=[]:=Yi Za;subst this;simp [chk,wZ]
 | k+1,a,b,h=>by
   rw [YX,Nat.one_mul] at h;have h1:(a.take s).length=s:=ZA;have h2:(a.drop s).length=k * s:=ZP;have ha:a=a.take s++a.drop s:=(Yn s a).symm;rw [ha,Yo,qk hs _ h1,qk hs _ h1,wo hs k _ b h2,Yo]
theorem chk_pair (o:Ord le) {s:Nat} (hs:0<s) {u v:List α} (hu:u.length=s) (hv:v.length<=s): ∃x y,chk le s (u++v)=x++y/\x=zH le u/\y=zH le v/\List.merge x y le=chk le (2 * s) (u++v):=by
 refine ⟨_,_,?_,rfl,rfl,?_⟩
 ·rw [qk hs v hu,xe hv]
 ·rw [we o,xe Xj]
theorem chk_perm (s:Nat) (l:List α):(chk le s l).Perm l:=by
 unfold chk;generalize l.length=n
 induction n generalizing l with
 | zero=>exact List.Perm.refl _
 | succ n ih=>
   rw [wZ]
   split
   ·exact zQ l
   ·refine ((zQ _).append (ih _)).trans ?_;rw [Yn]
theorem vb (s:Nat) (l:List α):(chk le s l).length=l.length:=(chk_perm s l).length_eq
end Go.Am
namespace Go.Am
variable [T:Tab]
theorem meetQ {A:Prop} {P:Program} {c:Code} {K:Exit->SL->Prop} (s:SL) (Q:Prop) (k:(∀σ:SL,Q->Weak σ.st s.st->wp P c K σ)->A) (h: ∀σ:SL,Q->Weak σ.st s.st->wp P c K σ):A:=k h
theorem meet_ab {b1 b2:Bool} {X:Prop} {P:Program} {c:Code} {K:Exit->SL->Prop} {σ1 σ2:SL} (s:SL) (hx:b1=true->b2=true->X) (h1:b1=true->b2=false->Weak σ1.st s.st) (h2:b1=false->Weak σ2.st s.st)
 (h:(¬(b1=true/\b2=true))-> ∀σ:SL,Weak σ.st s.st->wp P c K σ):vn b1 (vn b2 X (wp P c K σ1)) (wp P c K σ2):=
 ⟨fun e1=>⟨fun e2=>hx e1 e2,fun e2=>h (fun q=>by rw [e2] at q;cases q.2) _ (h1 e1 e2)⟩,fun e1=>h (fun q=>by rw [e1] at q;cases q.1) _ (h2 e1)⟩
end Go.Am
namespace Go.Am
variable [T:Tab]
def codx (P:Program) (c:Code) (K:Exit->SL->Prop) (σ:SL):Prop:=
 ∀(r:Option Nat) (cx:Cx) (N:Nat),cOkF r N c=true-> ∀(a:Act) (w:World),RelT cx N σ.st a w->c.wpIn (Fw r) 0 P (PostK cx N K) a w
def stepK (P:Program) (b:Code) (K:Exit->SL->Prop):Exit->SL->Prop
 | .normal,σ=>codx P b K σ
 | e,σ=>K e σ
def joinK (tgt:SL) (K:Exit->SL->Prop):Exit->SL->Prop
 | .normal,σ=>Weak σ.st tgt.st
 | e,σ=>K e σ
section
variable {P:Program} {tt:Types} {K:Exit->SL->Prop} {σ tgt:SL} {a b:Code}
theorem stepK_normal:stepK P b K .normal σ=codx P b K σ:=rfl
theorem stepK_ret:stepK P b K .ret σ=K .ret σ:=rfl
theorem stepK_exit (i:Nat):stepK P b K (.exit i) σ=K (.exit i) σ:=rfl
theorem joinK_normal:joinK tgt K .normal σ=Weak σ.st tgt.st:=rfl
theorem joinK_ret:joinK tgt K .ret σ=K .ret σ:=rfl
theorem joinK_exit (i:Nat):joinK tgt K (.exit i) σ=K (.exit i) σ:=rfl
theorem uc (hm:P.follows .mixedOrders=true) (T:tt.ok P) (h:ev P tt a K σ):codx P a K σ:=fun r _ _ hc x w rel=>j9 hm T r a K σ h hc x w rel
theorem zI (hm:P.follows .mixedOrders=true) (T:tt.ok P) (h:ev P tt a (stepK P b K) σ):codx P (.seq a b) K σ:=by
 intro r cx N hc x w rel;have hc:=cOkF_seq hc;refine wpIn_seq (wpIn_mono (j9 hm T r a _ σ h hc.1 x w rel) fun e a' w' hp=>?_);obtain ⟨σ',r',k'⟩:=hp;cases e with
 | normal=>exact k' r cx N hc.2 a' w' r'
 | _=>exact ⟨σ',r',k'⟩
theorem vw (hm:P.follows .mixedOrders=true) (T:tt.ok P) (tgt:SL) (h1:ev P tt a (joinK tgt K) σ) (h2:codx P b K tgt):codx P (.seq a b) K σ:=by
 intro r cx N hc x w rel;have hc:=cOkF_seq hc;refine wpIn_seq (wpIn_mono (j9 hm T r a _ σ h1 hc.1 x w rel) fun e a' w' hp=>?_);obtain ⟨σ',r',k'⟩:=hp;cases e with
 | normal=>exact h2 r cx N hc.2 a' w' (k' cx N a' w' r')
 | _=>exact ⟨σ',r',k'⟩
end
theorem loop_genX {α:Type} {P:Program} {c:Code} {K:Exit->SL->Prop} {t:UD} {o:UE}
 (st:α->SL) (m:α->Nat) (Inv:α->Prop) (x0:α) (h0:Inv x0) (hw:Weak (SL.mk t o).st (st x0).st)
 (step: ∀(I:{x:α // Inv x}->SL),(∀x h,I ⟨x,h⟩=st x)-> ∀(x:α) (hi:Inv x),codx P c (uW I (fun x=>m x.1) ⟨x,hi⟩ K) (st x)):
 wp P c K ⟨t,o⟩:=by
 have h: ∀x:{x:α // Inv x},codx P c (uW (fun x:{x:α // Inv x}=>st x.1) (fun x=>m x.1) x K) (st x.1):=fun ⟨x,hi⟩=>step _ (fun _ _=>rfl) x hi;clear step
 revert hw
 generalize (fun x:{x:α // Inv x}=>m x.1)=m' at h;intro hw ro cx N hc a w rel;have hrel: ∀{a:Act} {w:World},(∃x:{x:α // Inv x},RelT cx N (st x.1).st a w)-> ∃x,m' x=least (fun n=> ∃x:{x:α // Inv x},m' x=n/\RelT cx N (st x.1).st a w)/\RelT cx N (st x.1).st a w:=by
  intro a w ⟨x,hx⟩;exact (qd (p:=fun n=> ∃x:{x:α // Inv x},m' x=n/\RelT cx N (st x.1).st a w) ⟨x,rfl,hx⟩).1
 refine wpIn_loop (fun a w=> ∃x:{x:α // Inv x},RelT cx N (st x.1).st a w) (fun a w=>least (fun n=> ∃x:{x:α // Inv x},m' x=n/\RelT cx N (st x.1).st a w)) ⟨⟨x0,h0⟩,hw cx N a w rel⟩ fun a w hI=>?_;obtain ⟨x,hx1,hx2⟩:=hrel hI;refine wpIn_mono (h x ro cx N hc a w hx2) fun e a' w' hp=>?_;obtain ⟨σ',r',k'⟩:=hp;cases e with
 | normal=>
   obtain ⟨y,hy1,hy2⟩:=k';have hr:=hy2 cx N a' w' r';refine ⟨⟨y,hr⟩,?_⟩;have:=(qd (p:=fun n=> ∃x:{x:α // Inv x},m' x=n/\RelT cx N (st x.1).st a' w') ⟨y,rfl,hr⟩).2 (m' y) ⟨y,rfl,hr⟩;rw [<-hx1];omega
 | _=>exact ⟨σ',r',k'⟩
theorem ACall.enterX {P : Program} {tt : Types} (T : tt.ok P) {f : FuncId} {fn : Func} {c : Code} {as : List A} {os os' : List (Nat × Ob)} {res : A} (hf : P.funcs[f]? = some fn) (hname : (fn.name == "runtime.NumGoroutine") = false) (hb : fn.body = some c)
 (N:Nat) (hNn:fn.ntmps=N) (hN:as.length<=N) (hc:cOk N c=true) (rs:List ResultVar) (hrs:fn.results.toList=rs) (h:codx P c (bodyK tt rs res os') ⟨argT 0 as,os⟩) (hmk:noMk os'=true):ACall P f as os res os' where
 fn:=⟨fn,hf,hname,Z5 hb⟩
 calls:=fun Xo β w vs rel hr=>by
  have rel0:=RelT.args (M:=fn.ntmps) rel hr hNn hN;refine calls_fw (n:=0) (callsIn_of_wp hf hb trivial (wpIn_mono (h none _ N (cOkF_of (r:=none) hc) _ w rel0) fun e a' w' hp=>?_));obtain ⟨σ',r',k'⟩:=hp;have fin:retx (resA tt σ' rs) σ' res os'->a'.defers=[]/\ ∃v,(results fn a'.tmps).run P w'= .ok v w'/\ ∃v_1 β',Ending.returned v= .returned v_1/\Rel ⟨w,Xo,Xh β (lookO os),β,lookO os⟩ β' (lookO os') w'/\res.rep (zj Xo β' (lookO os') w') v_1:=by
   intro hret;obtain ⟨β1,q1,q2,q3,q4⟩:=r';unfold retx at hret
   split at hret
   ·rename_i p x hx;obtain ⟨hp,hw⟩:=hret;obtain ⟨v,g1,g2⟩:=resA_ok T q1 q2 hrs hx hp;have hst:RelT ⟨w,Xo,Xh β (lookO os),β,lookO os⟩ 1 ⟨lookT [(0,x)],lookO σ'.o⟩ {tmps:= #[v],defers:=a'.defers} w':=by
     refine ⟨β1,q1,fun k=>?_,rfl,q4⟩;simp only [lookT];by_cases hk:0=k
     ·subst hk;simp only [if_true];exact g2
     ·simp only [hk,if_false];simp [A.rep]
    obtain ⟨β2,p1,p2,_,p4⟩:=hw _ 1 _ w' hst;have:=p2 0;simp only [lookT,if_true] at this;exact ⟨MarksOk.none p4 (noMk_spec hmk),v,g1,v,β2,rfl,p1,Zc this⟩
   ·exact hret.elim
  cases e with
  | normal=>exact fin k'
  | ret=>exact fin k'
  | exit i=>exact k'.elim
  | goto l=>exact k'.elim
  | panic ch=>exact k'.elim
  | outgrown=>exact k'.elim
theorem enterX {P:Program} {tt:Types} (T:tt.ok P) {f:FuncId} {fn:Func} {c:Code} {as:List A} {os os':UE} {res:A} {N:Nat} {ra:Array ResultVar} (hf:P.funcs[f]? =some fn)
 (hNn : fn.ntmps = N) (hrs : fn.results = ra) (h : codx P c (bodyK tt ra.toList res os') ⟨argT 0 as, os⟩) (hname : (fn.name == "runtime.NumGoroutine") = false := by exact rfl) (hb : fn.body = some c := by exact rfl)
 (hN:as.length<=N:=by exact Nat.le_of_ble_eq_true rfl) (hc:cOk N c=true:=by kernel_rfl) (hmk:noMk os'=true:=by first | rfl | (simp [noMk];done)):ACall P f as os res os':=
 ACall.enterX T hf hname hb N hNn hN hc ra.toList (congrArg Array.toList hrs) h hmk
end Go.Am
attribute [push_cast] Go.Am.stepK_normal Go.Am.stepK_ret Go.Am.stepK_exit Go.Am.joinK_normal Go.Am.joinK_ret Go.Am.joinK_exit
namespace Go.Am
variable [T:Tab]
def idxG (sz o n:Nat) (i:Int) (ob:Option Ob):Option Eff:=match ob with
 | some (.gv _ cs)=>some ⟨(0<=i/\i<n)/\n=cs.length/\sz=1,.g o n (some i.toNat),[],[o]⟩
 | _=>none
theorem idx_g (te:TI) (h:UB) (o n:Nat) (i:Int):idxS (some te) h (.g o n none) i=idxG te.size o n i (h o):=by
 simp only [idxS,kP,idxG];cases h o with
 | none=>rfl
 | some ob=>cases ob<;>rfl
theorem idx_G (sz o n:Nat) (i:Int) (e:Nat) (cs:List A):idxG sz o n i (some (.gv e cs))=some ⟨(0<=i/\i<n)/\n=cs.length/\sz=1,.g o n (some i.toNat),[],[o]⟩:=rfl
def loadG (tt:Types) (t n i o:Nat) (ob:Option Ob):Option Eff:=match ob with
 | some (.gv _ cs)=>match wC tt t cs i with
   | some (p,a)=>some ⟨p/\n=cs.length,a,[],[o]⟩
   | none=>none
 | _=>none
theorem load_g (tt:Types) (t:Nat) (h:UB) (o n i:Nat):vk tt t h (.g o n (some i))=loadG tt t n i o (h o):=by
 simp only [vk,loadG];cases h o with
 | none=>rfl
 | some ob=>cases ob<;>rfl
attribute [push_cast] idx_g idx_G load_g loadG
theorem getA_at {D E:List A} {a:A} {i:Nat} (h:D.length=i):(D++a::E)[i]? =some a:=by subst h;simp
theorem setA_at {D E:List A} {a b:A} {i:Nat} (h:D.length=i):(D++a::E).set i b=D++b::E:=by subst h;simp
def xu (b:Nat):List (List (List D))->List A
 | []=>[]
 | r::l=> .vec b r.length::xu (b+1) l
def uh (e w b:Nat):List (List (List D))->List (Nat×Ob)
 | []=>[]
 | r::l=>(b,.vec e w r 0)::uh e w (b+1) l
theorem vc: ∀(b:Nat) (ls:List (List (List D))),(xu b ls).length=ls.length
 | _,[]=>rfl
 | b,_::l=>by simp [xu,vc (b+1) l]
theorem kp: ∀(b:Nat) (ls:List (List (List D))) (n:Nat),(xu b ls)[n]? =ls[n]?.map fun r=> .vec (n+b) r.length
 | _,[],n=>by simp [xu]
 | b,r::l,0=>by simp [xu]
 | b,r::l,n+1=>by simp only [xu,List.getElem?_cons_succ,kp (b+1) l n];rw [show n+(b+1)=n+1+b from Za]
theorem vecsA_set (b:Nat) (ls:List (List (List D))) (n:Nat) (r:UF):(xu b ls).set n (.vec (n+b) r.length)=xu b (ls.set n r):=by
 apply Uc;intro j;rw [kp,List.getElem?_set,List.getElem?_set,vc,kp];by_cases hj:n=j
 ·subst hj;by_cases hn:n<ls.length<;>simp [hn]
 ·simp [hj]
theorem vecsA_app: ∀(b:Nat) (ls:List (List (List D))) (r:UF),xu b (ls++[r])=xu b ls++[.vec (ls.length+b) r.length]
 | b,[],r=>by simp [xu]
 | b,x::l,r=>by simp only [YL,xu,vecsA_app (b+1) l r,Y6];rw [show l.length+(b+1)=l.length+1+b from Za]
theorem qb (e w:Nat): ∀(ls:List (List (List D))) (b k:Nat),lookO (uh e w b ls) k=if b<=k then ls[k-b]?.map fun r=> .vec e w r 0 else none
 | [],b,k=>by simp [uh,lookO]
 | r::l,b,k=>by
   simp only [uh,lookO];rw [qb e w l (b+1) k];by_cases h:b+1<=k
   ·rw [if_neg Za,if_pos h,if_pos Za,show k-b=(k-(b+1))+1 from Za,List.getElem?_cons_succ]
   ·rw [if_neg h];by_cases h2:b<=k
    ·rw [if_pos Za,if_pos h2,show k-b=0 from Za];rfl
    ·rw [if_neg Za,if_neg h2]
theorem lookO_vecs_lt (e w:Nat) (ls:List (List (List D))) {b k:Nat} (h:k<b):lookO (uh e w b ls) k=none:=by rw [qb,if_neg (by omega)]
theorem lookO_vecs_ge (e w:Nat) (ls:List (List (List D))) {b k:Nat} (h:b+ls.length<=k):lookO (uh e w b ls) k=none:=by
 rw [qb]
 split
 ·rw [List.getElem?_eq_none Za];rfl
 ·rfl
theorem lookO_vecs_at (e w:Nat) {ls:List (List (List D))} {n:Nat} {r:UF} (b:Nat) (h:ls[n]? =some r):lookO (uh e w b ls) (n+b)=some (.vec e w r 0):=by
 rw [qb,if_pos Za,show n+b-b=n from Za,h];rfl
theorem keepO_vecs {f:UB} {dom:Nat->Bool} {e w:Nat}: ∀{ls:List (List (List D))} {b:Nat},(∀n r,ls[n]? =some r->f (n+b)=some (.vec e w r 0))->keepO f dom (uh e w b ls)
 | [],b,_=>trivial
 | r::l,b,h=>by
   rw [uh];exact ⟨⟨by simpa using h 0 r rfl,rfl⟩,keepO_vecs fun n r hn=>by have:=h (n+1) r (Zc hn);rwa [show n+1+b=n+(b+1) from Za] at this⟩
theorem keepIn_vecs {dom:Nat->Bool} {e w:Nat}: ∀{ls:List (List (List D))} {b:Nat},(∀n,n<ls.length->hdd (n+b)=false\/dom (n+b)=true)->keepIn dom (uh e w b ls)
 | [],b,_=>trivial
 | r::l,b,h=>by
   rw [uh];exact ⟨by simpa using h 0 Zd,keepIn_vecs fun n hn=>by have:=h (n+1) (Zc hn);rwa [show n+1+b=n+(b+1) from Za] at this⟩
theorem jV {dom:Nat->Bool}: ∀{ls:List (List (List D))} {b:Nat},(∀n,n<ls.length->dom (n+b)=true)->closedL dom (xu b ls)=true
 | [],b,_=>rfl
 | r::l,b,h=>by
   rw [xu,closedL,jV (ls:=l) (b:=b+1) fun n hn=>by have:=h (n+1) (Zc hn);rwa [show n+1+b=n+(b+1) from Za] at this,YS];simpa [A.closed] using h 0 Zd
theorem renL_vecs {r:Nat->Nat}: ∀{ls:List (List (List D))} {b:Nat},(∀n,n<ls.length->r (n+b)=n+b)->renL r (xu b ls)=xu b ls
 | [],_,_=>rfl
 | x::l,b,h=>by
   rw [xu,renL,renL_vecs (ls:=l) (b:=b+1) fun n hn=>by have:=h (n+1) (Zc hn);rwa [show n+1+b=n+(b+1) from Za] at this];have:=h 0 Zd;rw [YZ] at this;rw [A.ren,this]
theorem renO_vecs {a c e w:Nat}: ∀{ls:List (List (List D))} {b:Nat},(∀n,n<ls.length->zM a c (n+b)=n+b)->renO a c (uh e w b ls)=uh e w b ls
 | [],_,_=>rfl
 | x::l,b,h=>by
   rw [uh,renO,renO_vecs (ls:=l) (b:=b+1) fun n hn=>by have:=h (n+1) (Zc hn);rwa [show n+1+b=n+(b+1) from Za] at this];have:=h 0 Zd;rw [YZ] at this;rw [this];rfl
theorem renL_app (r:Nat->Nat): ∀as bs:List A,renL r (as++bs)=renL r as++renL r bs
 | [],bs=>rfl
 | a::as,bs=>by simp only [YL,renL,renL_app r as bs]
theorem Weak.nilG {t:UD} {o:UE} (k id e:Nat) (hk:lookT t k= .snil) (ho:lookO o id=none):Weak (SL.mk t o).st (SL.mk ((k,.g id 0 none)::t) ((id,.gv e [])::o)).st:=by
 intro cx N a w ⟨β,h1,h2,h3,h4⟩;obtain ⟨r1,L1⟩:=h1.nilX id (.gv e []) ho (fun E=> .inl ⟨rfl,rfl⟩);simp only [SL.st] at r1 L1 h2 ⊢;rw [xV] at r1 L1;refine ⟨_,r1,fun j=>?_,h3,MarksOk.le L1 h4⟩;show (lookT ((k,_)::t) j).rep _ _;simp only [lookT];by_cases hj:k=j
 ·subst hj;have:=h2 k;rw [hk] at this;simp only [A.rep] at this;rw [if_pos rfl];simp only [A.rep,zj];exact ⟨e,[],by simp [lookO],Zd,Z5 this,fun _=> .inl ⟨Zd,this⟩⟩
 ·rw [if_neg hj];exact U3 L1 _ _ (h2 j)
theorem Rel.gvOut {cx:Cx} {β:UC} {h:UB} {w:World} (r:Rel cx β h w) (dom:Nat→Bool) (hc: ∀o ob,dom o=true→h o=some ob→ob.closed dom=true)
 (hent: ∀o,hdd o=true->(h o).isSome=true->dom o=true) {q n e e2 b0:Nat} {ls:List (List (List D))} (hq:h q=some (.gv e (xu b0 ls))) (hd:dom q=false) (hn:n=ls.length)
 (hls: ∀j rows,ls[j]? =some rows->h (j+b0)=some (.vec e2 1 rows 0)/\dom (j+b0)=false) {v:Value}
 (hv:(A.g q n none).rep (zj cx.Xo β h w) v):
 (D.sl 1 ((ls.map (D.sl 1)).map fun x=>[x])).rep (zj cx.Xo (fun o=>if dom o then β o else none) (fun o=>if dom o then h o else none) w).R v:=by
 obtain ⟨_,S⟩:=r.drop dom hc (fun o g1 g2=>hent o (r.big o g1) g2);have hR: ∀o b,β o=some (some b)->dom o=false-> ∀i u,w.cell? ⟨b,i,none⟩=some u->(zj cx.Xo (fun o=>if dom o then β o else none) (fun o=>if dom o then h o else none) w).R b i u:=by
  intro o b hb hdo i u hu;refine ⟨r.out o b i hb,?_,hu⟩;rintro ⟨o',ob,h1,h2,h3⟩;by_cases hdo':dom o'=true
  ·simp only [hdo',if_true] at h1 h2;have:=r.inj o' o b h2 hb;rw [this,hdo] at hdo';cases hdo'
  ·simp [hdo'] at h1
 simp only [D.rep];rcases g_live hq (by rw [vc];exact hn) hv with ⟨hb,rfl⟩ | ⟨b,cap,hb,rfl,hcap,_,_⟩
 ·have hr0:ls=[]:=by
   rcases r.obj q _ _ hq hb with hd | ⟨_,_,_,_,hd,_⟩
   ·have:=congrArg List.length hd.2;rw [vc] at this;exact Yi this
   ·cases hd
  subst hr0;exact ⟨none,0,rfl,Yt _,fun _=>⟨rfl,rfl⟩,fun _ ha=>by cases ha⟩
 ·rcases r.obj q _ _ hq hb with hd' | ⟨b',c,vs,tl,e1,g2,g3,g4,g5⟩
  ·cases hd'.1
  cases e1;subst hn;refine ⟨some ⟨b,0,none⟩,cap,Zd,Zc hcap,fun e=>(by cases e),fun a' ha=>?_⟩;cases ha;refine ⟨fun _=>rfl,gu (ls.map (D.sl 1)) 0 fun j x hx=>?_⟩;rw [List.getElem?_map] at hx;cases hlj:ls[j]? with
  | none=>rw [hlj] at hx;cases hx
  | some rows=>
    rw [hlj] at hx;cases hx;obtain ⟨k1,k2⟩:=hls j rows hlj;obtain ⟨u,hu1,hu2⟩:=u6 _ _ j (.vec (j+b0) rows.length) g4 (by rw [kp,hlj];rfl);refine ⟨u,hR q b hb hd _ u ?_,?_⟩
    ·have:c.toList[j]? =some u:=by rw [g3,List.getElem?_append_left (List.getElem?_eq_some_iff.1 hu1).1];exact hu1
     simp only [World.cell?,g2,YZ];simpa using this
    ·simp only [D.rep];rcases vU k1 rfl hu2 with ⟨hb2,rfl⟩ | ⟨b2,cap2,hb2,rfl,hcap2,_,_⟩
     ·have hr0:rows=[]:=by
       have:=r.obj _ _ _ k1 hb2;simp only [Ob.rep] at this;obtain ⟨_,_,hd | ⟨_,_,hd,_⟩⟩:=this
       ·exact hd.2
       ·cases hd
      subst hr0;exact ⟨none,0,rfl,Yt _,fun _=>⟨rfl,rfl⟩,fun _ ha=>by cases ha⟩
     ·have:=r.obj _ _ _ k1 hb2;simp only [Ob.rep] at this;obtain ⟨_,_,hd | ⟨b3,c2,e1,f2,f3,_⟩⟩:=this
      ·cases hd.1
      cases e1;refine ⟨_,cap2,rfl,hcap2,fun e=>(by cases e),fun a' ha=>?_⟩;cases ha;refine ⟨fun _=>rfl,rowsAt_mono S.R (fun i u hu=>hR _ b2 hb2 k2 i u ?_) rows 1 0 f3⟩;simp only [World.cell?,f2];simpa using hu
theorem Weak.keepG {t:Nat->A} {l:UE} {σ:SL} (k:Nat) {q n e e2 b0:Nat} {ls:List (List (List D))} (hk:t k= .g q n none) (hq:lookO l q=some (.gv e (xu b0 ls))) (hd:inO σ.o q=false) (hn:n=ls.length)
 (hls: ∀j rows,ls[j]? =some rows->lookO l (j+b0)=some (.vec e2 1 rows 0)/\inO σ.o (j+b0)=false)
 (ht:keepT t (inO σ.o) σ.t) (ho:keepO (lookO l) (inO σ.o) σ.o) (hin:keepIn (inO σ.o) l):Weak ⟨t,lookO l⟩ (SL.mk ((k,.d (.sl 1 ((ls.map (D.sl 1)).map fun x=>[x])))::σ.t) σ.o).st:=by
 intro cx N a w ⟨β,h1,h2,h3,h4⟩;have hcl: ∀o ob,inO σ.o o=true->lookO l o=some ob->ob.closed (inO σ.o)=true:=fun o ob hd hob=>by
  unfold inO at hd;obtain ⟨ob',hob'⟩:=YB.1 hd;obtain ⟨g1,g2⟩:=j7 σ.o ho o ob' hob';have hob2:lookO l o=some ob:=hob;rw [hob2] at g1;cases g1;exact g2
 obtain ⟨r1,S1⟩:=h1.drop (inO σ.o) hcl (fun o g1 g2=>vJ l hin o (h1.big o g1) g2);have hv:=h2 k;rw [show (St.mk t (lookO l)).t k= .g q n none from hk] at hv;have hx:=h1.gvOut (inO σ.o) hcl (vJ l hin) hq hd hn hls hv;have he:(fun o=>if inO σ.o o then lookO l o else none)=lookO σ.o:=by
  funext o
  unfold inO;cases hl:lookO σ.o o with
  | none=>simp
  | some ob=>simp;exact (j7 σ.o ho o ob hl).1
 simp only [show (St.mk t (lookO l)).o=lookO l from rfl] at r1 S1 hx;rw [he] at r1 S1 hx;have h4':=MarksOk.drop (h:=lookO l) (dom:=inO σ.o) h4 (vJ l hin);rw [he] at h4';refine ⟨_,r1,fun j=>?_,h3,h4'⟩;show (lookT ((k,_)::σ.t) j).rep _ _;simp only [lookT];by_cases hj:k=j
 ·subst hj;rw [if_pos rfl];exact hx
 ·rw [if_neg hj];rcases gN σ.t ht j with q | ⟨q,hc⟩
  ·rw [q];simp [A.rep]
  ·rw [q];exact A.rep_sub S1 _ _ hc (h2 j)
end Go.Am
