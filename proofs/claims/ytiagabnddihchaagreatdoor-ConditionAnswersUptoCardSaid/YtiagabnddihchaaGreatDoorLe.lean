/- Conditions over finite domains (part Le) -/
import Derived.Test.YtiagabnddihchaaGreatDoorLd
import Derived.HandedShaped
import Derived.Handed
set_option linter.all false
namespace Go.Am
section
variable [T:Tab]
open Go.ChangeShapes Go.WideShapes Go.ChangeAt Go.RowKit
def crep (R:Rd):List D->List Value->Prop
 | [],[]=>True
 | x::xs,v::vs=>(x.rep R v/\one v=true)/\crep R xs vs
 | _,_=>False
theorem crep_length {R:Rd}: ∀{xs:List D} {vs:List Value},crep R xs vs->xs.length=vs.length
 | [],[],_=>rfl
 | x::xs,v::vs,h=>by simp only [crep] at h;simp [crep_length h.2]
 | [],_::_,h=>h.elim
 | _::_,[],h=>h.elim
theorem crep_repL {E:Env}: ∀{xs:List D} {vs:List Value},crep E.R xs vs->repL E (xs.map .d) vs/\ ∀u∈vs,one u=true
 | [],[],_=>⟨by simp [repL],by simp⟩
 | x::xs,v::vs,h=>by
   simp only [crep] at h
   obtain ⟨h1,h2⟩:=crep_repL h.2
   refine ⟨by simp only [List.map_cons,repL];exact ⟨v,vs,rfl,by simpa only [A.rep] using h.1.1,h1⟩,fun u hu=>?_⟩
   rcases List.mem_cons.1 hu with rfl | hu
   ·exact h.1.2
   ·exact h2 u hu
 | [],_::_,h=>h.elim
 | _::_,[],h=>h.elim
theorem crep_agg {E:Env} {xs:List D} {cs:Array Value} (h:crep E.R xs cs.toList):(A.agg (xs.map .d)).rep E (.agg cs):=by
 obtain ⟨h1,h2⟩:=crep_repL h
 simp only [A.rep]
 exact ⟨cs.toList,by simp,h1,h2⟩
theorem kk {R:Rd} {C:Nat->Value->Prop}: ∀{xs:List D} {vs:List Value} (k:Nat),crep R xs vs->(∀j u,vs[j]? =some u->C (k+j) u)->rowAt R C k xs
 | [],[],_,_,_=>by simp [rowAt]
 | x::xs,v::vs,k,h,hc=>by
   simp only [crep] at h
   simp only [rowAt]
   exact ⟨⟨v,hc 0 v rfl,h.1.1⟩,kk (k+1) h.2 fun j u hj=>by have:=hc (j+1) u (by simpa using hj);rwa [show k+(j+1)=k+1+j by omega] at this⟩
 | [],_::_,_,h,_=>h.elim
 | _::_,[],_,h,_=>h.elim
section
variable {H:Type} {enc:TypeId×Value->H} {P:Program} {w:World} {base b0:Nat} {spare:Nat->Bool} {held:Bool} {t e:TypeId} {fuel:Nat} {cs:List Value} {x:DataW H×List MemPlace}
theorem rd_int {R:Rd} {k:IntKind} (ht:P.underlying t=some (.int k)) (h:DataW.trod enc P w base spare held fuel t cs=some x): ∃n:Int,(Lit.int k n).wf=true/\crep R [.lit (.int k n)] cs:=by
 obtain ⟨n,rfl,_,hw⟩:=DataW.trod_int ht h
 exact ⟨n,hw,by simp [crep,D.rep,one]⟩
theorem rd_str {R:Rd} (ht:P.underlying t=some .string) (h:DataW.trod enc P w base spare held fuel t cs=some x): ∃s:ByteArray,crep R [.lit (.string s)] cs:=by
 obtain ⟨s,rfl,_⟩:=DataW.trod_string ht h
 exact ⟨s,by simp [crep,D.rep,one]⟩
theorem jJ {α:Type} {f:α->List D} {wd b:Nat}: ∀(l:List α) (k:Nat),
 (∀i (hi:i<l.length),∃cs':List Value,cs'.length=wd/\crep (E0 w).R (f l[i]) cs'/\ ∀j u,cs'[j]? =some u->w.cell? ⟨b,k+i * wd+j,none⟩=some u)->rowsAt (E0 w).R ((E0 w).R b) wd k (zg f l)
 | [],k,_=>by simp [zg,rowsAt]
 | a::l,k,h=>by
   rw [zo]
   simp only [rowsAt]
   obtain ⟨cs',h1,h2,h3⟩:=h 0 (by simp)
   refine ⟨(crep_length h2).trans h1,kk k h2 fun j u hj=>E0_cell (by have:=h3 j u hj;simpa using this),jJ l (k+wd) fun i hi=>?_⟩
   obtain ⟨cs2,g1,g2,g3⟩:=h (i+1) (by simpa using hi)
   refine ⟨cs2,g1,g2,fun j u hj=>?_⟩
   have:=g3 j u hj
   rwa [show k+(i+1) * wd+j=k+wd+i * wd+j by rw [Nat.succ_mul];omega] at this
theorem list_of {α:Type} {p:Nat->α->Prop}: ∀n:Nat,(∀i,i<n-> ∃a,p i a)-> ∃l:List α,l.length=n/\ ∀i (hi:i<l.length),p i l[i]
 | 0,_=>⟨[],rfl,fun i hi=>by simp at hi⟩
 | n+1,h=>by
   obtain ⟨l,h1,h2⟩:=list_of n fun i hi=>h i (by omega)
   obtain ⟨a,ha⟩:=h n (by omega)
   refine ⟨l++[a],by simp [h1],fun i hi=>?_⟩
   by_cases hil:i<l.length
   ·rw [List.getElem_append_left hil];exact h2 i hil
   ·have:i=l.length:=by simp at hi;omega
    subst this
    simp only [List.getElem_concat_length]
    rw [h1];exact ha
theorem rd_sliceP {α:Type} (f:α→List D) (p:α→DataW H→Prop) {wd:Nat} (ht:P.underlying t=some (.slice e)) (hc:P.cellsOf e=wd) (hw0:0<wd) (h:DataW.trod enc P w base spare held fuel t cs=some x)
 (he: ∀n cs' y,n<fuel->DataW.trod enc P w base spare held n e cs'=some y-> ∃a:α,crep (E0 w).R (f a) cs'/\p a y.1):
 ∃l:List α,crep (E0 w).R [.sl wd (zg f l)] cs/\(l=[]\/ ∃es sp,x.1= .slice es sp/\es.length=l.length/\ ∀(i:Nat) (hi:i<l.length) (hj:i<es.length),p l[i] es[i]):=by
 rcases DataW.trod_slice ht h with ⟨rfl,_⟩ | ⟨a,len,cap,elems,rest,n,rfl,rfl,hx9,hb,hl,hm,hlen,hel,_,_⟩
 ·refine ⟨[],⟨⟨?_,rfl⟩,trivial⟩,.inl rfl⟩
  simp only [D.rep]
  exact ⟨none,0,rfl,Nat.le_refl _,fun _=>⟨rfl,rfl⟩,fun a' h=>by cases h⟩
 ·rw [hc] at hel
  have key: ∀i,i<len-> ∃(q:α),∃cs':List Value,cs'.length=wd/\crep (E0 w).R (f q) cs'/\(∀j,j<wd->w.cell? ((a.add (i * wd)).add j)=cs'[j]?)/\ ∀hj:i<elems.length,p q elems[i].1:=fun i hi=>by
   have h1:=hel i hi
   rw [List.getElem?_eq_getElem (by omega)] at h1
   obtain ⟨cs',h2,h3⟩:=Option.bind_eq_some_iff.1 h1
   obtain ⟨q,hq,hp⟩:=he n cs' _ (by omega) h3
   obtain ⟨_,h4,h5⟩:=World.cells?_some h2
   exact ⟨q,cs',h4,hq,h5,fun _=>hp⟩
  have hspot:0<len->a.spot=none:=fun h0=>by
   obtain ⟨q,cs',h1,h2,h3,_⟩:=key 0 h0
   have:=h3 0 hw0
   rw [List.getElem?_eq_getElem (by omega)] at this
   have:=World.cell?_spot this
   simpa [Addr.add] using this
  obtain ⟨l,h1,h2⟩:=list_of len key
  refine ⟨l,⟨⟨?_,rfl⟩,trivial⟩,.inr ⟨_,_,congrArg Prod.fst hx9,by rw [List.length_map,hlen,h1],fun i hi hj=>?_⟩⟩
  rotate_left
  ·obtain ⟨_,_,_,_,g⟩:=h2 i hi
   rw [List.getElem_map]
   exact g (by rw [List.length_map] at hj;exact hj)
  simp only [D.rep]
  refine ⟨some a,cap,by rw [zc,h1],by rw [zc,h1];exact hl,(fun h=>by cases h),fun a' ha'=>?_⟩
  cases ha'
  refine ⟨fun hne=>?_,?_⟩
  ·refine hspot ?_
   cases l with
   | nil=>exact absurd rfl hne
   | cons q l=>rw [<-h1];simp
  ·refine jJ l a.off fun i hi=>?_
   obtain ⟨cs',g1,g2,g3,_⟩:=h2 i hi
   refine ⟨cs',g1,g2,fun j u hj=>?_⟩
   have hjw:j<wd:=by have:=(List.getElem?_eq_some_iff.1 hj).1;omega
   have hs:=hspot (by omega)
   have:=g3 j hjw
   rw [hj] at this
   obtain ⟨ab,ao,asp⟩:=a
   simp only at hs
   subst hs
   have e1:((Addr.mk ab ao none).add (i * wd)).add j=⟨ab,ao+i * wd+j,none⟩:=by
    unfold Addr.add
    by_cases hi0:i * wd=0<;>by_cases hj0:j=0<;>simp [hi0,hj0,Nat.add_assoc]
   rwa [e1] at this
theorem rd_slice {α:Type} (f:α->List D) {wd:Nat} (ht:P.underlying t=some (.slice e)) (hc:P.cellsOf e=wd) (hw0:0<wd) (h:DataW.trod enc P w base spare held fuel t cs=some x)
 (he: ∀n cs' y,n<fuel->DataW.trod enc P w base spare held n e cs'=some y-> ∃a:α,crep (E0 w).R (f a) cs'): ∃l:List α,crep (E0 w).R [.sl wd (zg f l)] cs:=by
 obtain ⟨l,h1,_⟩:=rd_sliceP f (fun _ _=>True) ht hc hw0 h fun n cs' y hn hy=>(he n cs' y hn hy).imp fun _ g=>⟨g,trivial⟩
 exact ⟨l,h1⟩
theorem rd_struct {fs:Array Field} (ht:P.underlying t=some (.struct fs)) (hcs:P.cellsOf t=fs.size) (hoff:((List.range fs.size).all fun i=>match fs[i]? with | some f=>f.offset==i&&P.cellsOf f.type==1 | none=>true)=true)
 (h:DataW.trod enc P w base spare held fuel t cs=some x): ∃n,fuel=n+1/\cs.length=fs.size/\ ∀(i:Nat) (f:Field),fs[i]? =some f-> ∃c y,cs[i]? =some c/\DataW.trod enc P w base spare held n f.type [c]=some y:=by
 obtain ⟨xs,n,hn,_,hl,hx,hf⟩:=DataW.trod_struct ht h
 rw [hcs] at hl
 refine ⟨n,hn,hl,fun i f hi=>?_⟩
 have hlt:i<fs.size:=(Array.getElem?_eq_some_iff.1 hi).1
 have h1:=List.all_eq_true.1 hoff i (by simpa using hlt)
 rw [hi] at h1
 simp only [Bool.and_eq_true,beq_iff_eq] at h1
 have h2:=hf i f hi
 rw [h1.1,h1.2,List.drop_eq_getElem_cons (by omega),List.take_succ_cons,List.take_zero,List.getElem?_eq_getElem (by omega)] at h2
 exact ⟨cs[i],_,List.getElem?_eq_getElem (by omega),h2⟩
end
def wD (P:Program) (t:TypeId) (tys:List TypeId):Bool:=match P.underlying t with
 | some (.struct fs)=>fs.toList.map (·.type)==tys&&P.cellsOf t==fs.size&&(List.range fs.size).all fun i=>match fs[i]? with | some f=>f.offset==i&&P.cellsOf f.type==1 | none=>true
 | _=>false
theorem rd_structT {H:Type} {enc:TypeId×Value->H} {P:Program} {w:World} {base:Nat} {spare:Nat->Bool} {held:Bool} {t:TypeId} {fuel:Nat} {cs:List Value} {x:DataW H×List MemPlace} (tys:List TypeId)
 (hs:wD P t tys=true) (h:DataW.trod enc P w base spare held fuel t cs=some x): ∃n,fuel=n+1/\cs.length=tys.length/\ ∀(i:Nat) (u:TypeId),tys[i]? =some u-> ∃c y,cs[i]? =some c/\DataW.trod enc P w base spare held n u [c]=some y:=by
 unfold wD at hs
 split at hs
 ·rename_i fs hu
  simp only [Bool.and_eq_true,beq_iff_eq] at hs
  obtain ⟨⟨h1,h2⟩,h3⟩:=hs
  obtain ⟨n,hn,hl,hf⟩:=rd_struct hu h2 h3 h
  refine ⟨n,hn,by rw [hl,<-h1];simp,fun i u hi=>?_⟩
  rw [<-h1,List.getElem?_map,Option.map_eq_some_iff] at hi
  obtain ⟨f,hf1,rfl⟩:=hi
  exact hf i f (by simpa using hf1)
 ·cases hs
theorem crep_3 {R:Rd} {a b c:D} {c0 c1 c2:Value} {cs:List Value} (hl:cs.length=3) (e0:cs[0]? =some c0) (e1:cs[1]? =some c1) (e2:cs[2]? =some c2) (r0:crep R [a] [c0]) (r1:crep R [b] [c1]) (r2:crep R [c] [c2]):crep R [a,b,c] cs:=by
 match cs,hl with
 | [x,y,z],_=>simp at e0 e1 e2;subst e0;subst e1;subst e2;exact ⟨r0.1,r1.1,r2.1,trivial⟩
theorem crep_6 {R:Rd} {a b c d e f:D} {c0 c1 c2 c3 c4 c5:Value} {cs:List Value} (hl:cs.length=6) (e0:cs[0]? =some c0) (e1:cs[1]? =some c1) (e2:cs[2]? =some c2) (e3:cs[3]? =some c3) (e4:cs[4]? =some c4) (e5:cs[5]? =some c5)
 (r0:crep R [a] [c0]) (r1:crep R [b] [c1]) (r2:crep R [c] [c2]) (r3:crep R [d] [c3]) (r4:crep R [e] [c4]) (r5:crep R [f] [c5]):crep R [a,b,c,d,e,f] cs:=by
 match cs,hl with
 | [x0,x1,x2,x3,x4,x5],_=>
   simp at e0 e1 e2 e3 e4 e5;subst e0;subst e1;subst e2;subst e3;subst e4;subst e5
   exact ⟨r0.1,r1.1,r2.1,r3.1,r4.1,r5.1,trivial⟩
end
section
variable [T:Tab]
theorem loopx_weak {P:Program} {c:Code} {K:Exit->SL->Prop} {σ:SL} (h:kE P c (fun e σ=> ∃σ':SL,Weak σ.st σ'.st/\K e σ') σ):kE P c K σ:=by
 intro ro cx N hc a w rel
 refine wpIn_mono (h ro cx N hc a w rel) fun e a' w' hp=>?_
 obtain ⟨σ1,r1,σ2,hw,k2⟩:=hp
 exact ⟨σ2,hw cx N a' w' r1,k2⟩
end
section
variable [T:Tab]
def Rall (w:World):Rd:=(ze (fun _ _=>False) (fun _=>none) (fun _=>none) w).R
theorem vY {cx:Cx} {β:Nat->Option (Option Nat)} {h:Nat->Option Ob} {w:World}: ∀b i v,(ze cx.Xo β h w).R b i v->Rall w b i v:=
 fun b i v hr=>⟨fun q=>q,fun ⟨o,ob,h1,_⟩=>(by cases h1),hr.2.2⟩
theorem Rall_cell {w:World} {b i:Nat} {v:Value} (h:w.cell? ⟨b,i,none⟩=some v):Rall w b i v:=⟨fun q=>q,fun ⟨o,ob,h1,_⟩=>(by cases h1),h⟩
def Seen (h:Nat->Option Ob) (a:A) (x:D):Prop:= ∀(cx:Cx) (β:Nat->Option (Option Nat)) (w:World) (v:Value),Rel cx β h w->a.rep (ze cx.Xo β h w) v->x.rep (Rall w) v
theorem seen_d (h:Nat->Option Ob) (x:D):Seen h (.d x) x:=fun cx β w v rel hv=>D.rep_mono vY x v (by simpa only [A.rep] using hv)
theorem seen_vec {h:Nat->Option Ob} {o n e wd fz:Nat} {rows:List (List D)} (ho:h o=some (.vec e wd rows fz)) (hn:n=rows.length):Seen h (.vec o n) (.sl wd rows):=by
 intro cx β w v rel hv
 rcases wB ho hn hv with ⟨hb,rfl⟩ | ⟨b,cap,hb,rfl,hcap,_,_⟩
 ·have hd:=rel.obj _ _ _ ho hb
  simp only [Ob.rep] at hd
  obtain ⟨_,_,hd | ⟨_,_,hd,_⟩⟩:=hd
  ·have:rows=[]:=hd.2
   subst this
   exact nil_rep _ _
  ·cases hd
 ·have hd:=rel.obj _ _ _ ho hb
  simp only [Ob.rep] at hd
  obtain ⟨_,_,hd | ⟨b',c,hd,g4,g5,_⟩⟩:=hd
  ·cases hd.1
  ·cases hd
   simp only [D.rep]
   refine ⟨_,cap,by rw [hn],by omega,fun q=>(by cases q),fun a' ha=>?_⟩
   cases ha
   exact ⟨fun _=>rfl,rowsAt_mono vY (fun i u hu=>Rall_cell (by simp only [World.cell?,g4];simpa using hu)) _ _ _ g5⟩
def jr (h:Nat->Option Ob) (as xs:List A):Prop:= ∀(cx:Cx) (β:Nat->Option (Option Nat)) (w:World) (vs:List Value),Rel cx β h w->repL (ze cx.Xo β h w) as vs->repL (ze (fun _ _=>False) (fun _=>none) (fun _=>none) w) xs vs
theorem seenL_nil (h:Nat->Option Ob):jr h [] []:=fun _ _ _ _ _ hv=>by simpa [repL] using hv
theorem u5 {h:Nat->Option Ob} {a:A} {x:D} {as xs:List A} (h1:Seen h a x) (h2:jr h as xs):jr h (a::as) (.d x::xs):=by
 intro cx β w vs rel hv
 simp only [repL] at hv ⊢
 obtain ⟨u,us,e,g1,g2⟩:=hv
 exact ⟨u,us,e,by simp only [A.rep];exact h1 cx β w u rel g1,h2 cx β w us rel g2⟩
theorem seenL_agg {h:Nat->Option Ob} {cs ys as xs:List A} (h1:jr h cs ys) (h2:jr h as xs):jr h (.agg cs::as) (.agg ys::xs):=by
 intro cx β w vs rel hv
 simp only [repL,A.rep] at hv ⊢
 obtain ⟨u,us,e,⟨vs',e2,g1,g3⟩,g2⟩:=hv
 exact ⟨u,us,e,⟨vs',e2,h1 cx β w vs' rel g1,g3⟩,h2 cx β w us rel g2⟩
theorem FnCall.pure {P:Program} {f:FuncId} {as xs:List A} {h:Nat→Option Ob} {r:Value} (rd:List Nat) (ac:ACall P f xs [] (.d (.lit r)) []) (hz: ∀h2,(∀i∈rd,h2 i=h i)→jr h2 as xs):FnCall P f as h ⟨True,.d (.lit r),[],rd⟩ where
 fn:=ac.fn
 keyed:=by simp [z2]
 calls:=fun h2 hr2 cx β w vs rel hvs=>by
  have hx:=hz h2 hr2 cx β w vs rel hvs
  have e0:lookO []=fun _=>none:=by funext o;rfl
  have hX0: ∀b i,¬Xh (fun _=>none) (lookO []) b i:=by rintro b i ⟨o,ob,h1,_⟩;simp [lookO] at h1
  have relc:Rel ⟨w,fun _ _=>False,Xh (fun _=>none) (lookO []),fun _=>none,lookO []⟩ (fun _=>none) (lookO []) w:=by
   refine ⟨fun o=>(by simp [lookO]),fun o ob bo h1 _=>(by simp [lookO] at h1),fun o o' b h1 _=>(by cases h1),fun o b i h1=>(by cases h1),fun b i h1=>False.elim h1,Ev.refl _ _,fun b i h1=>(hX0 b i h1).elim,fun o ob h1=>(by simp [lookO] at h1),fun o h1=>(by simp [lookO] at h1),fun g row hg=>?_,fun g hg=>?_,rel.tsz⟩
   ·have:=rel.tab g row hg
    rw [e0]
    exact rowAt_mono vY (vY g) row 0 this
   ·rw [e0]
    exact (rel.gi g hg).imp fun _=>vY _ _ _
  refine Calls.mono (ac.calls (fun _ _=>False) (fun _=>none) w vs relc (by rw [e0];exact hx)) fun en w' hen=>?_
  obtain ⟨v,β',rfl,R',hres⟩:=hen
  have evw:Ev (fun _ _=>False) w w':=by
   have:=R'.ev
   exact Ev.mono this fun b i _ q=>hX0 b i q
  obtain ⟨r1,L1⟩:=rel.step (β':=β) (h':=h2) (w':=w') (Ev.mono evw fun _ _ _ q=>False.elim q) rel.dom (fun o ob ho=>⟨ob,ho,Ob.grow_refl _ _⟩) (fun o b hb=> .inl hb) rel.inj (fun b i q=> .inl q)
   (fun o ob bo h1 h3=> .inl ⟨h1,h3,fun b hb=>evw.same (rel.lt (hb ▸ h3)) fun _ q=>q⟩)
  refine ⟨v,β,rfl,by simpa [upds] using r1,by simpa [upds] using L1,?_⟩
  simpa only [A.rep,D.rep] using hres
section
variable {P:Program} {tt:Types} {ops:Array Oper} {dr:Bool} {rest:List Oper} {log:List Foot} {K:SL->Prop}
theorem xL {f:FuncId} {as caps xs:List A} {d:Option Nat} {t:List (Nat×A)} {o:List (Nat×Ob)} {r:Value} (rd:List Nat) (ac:ACall P f xs [] (.d (.lit r)) []) (hz: ∀h2,(∀i∈rd,h2 i=lookO o i)->jr h2 (as++caps) xs)
 (h:effx P tt ops dr (some ⟨True,.d (.lit r),[],rd⟩) d rest log K ⟨t,o⟩):vR P tt ops dr (.clo f caps) as d rest log K ⟨t,o⟩:=
 callx_fn (FnCall.pure rd ac hz) rfl h
end
end
section
variable [T:Tab]
structure Agg where
 fn:Int
 arg:Ex
instance:Inhabited Agg:=⟨⟨0,default⟩⟩
inductive Qr where
 | mk (op:Int) (table:ByteArray) (kind:Int) (all:Bool) (cond:Ex) (exprs:List Ex) (aggs:List Agg) (types:List Int) (rows:List (List Val)) (kids:List Qr)
def q0:Qr:= .mk 0 ByteArray.empty 0 false default [] [] [] [] []
instance:Inhabited Qr:=⟨q0⟩
namespace Qr
def op:Qr->Int | .mk a _ _ _ _ _ _ _ _ _=>a
def table:Qr->ByteArray | .mk _ a _ _ _ _ _ _ _ _=>a
def kind:Qr->Int | .mk _ _ a _ _ _ _ _ _ _=>a
def all:Qr->Bool | .mk _ _ _ a _ _ _ _ _ _=>a
def cond:Qr->Ex | .mk _ _ _ _ a _ _ _ _ _=>a
def exprs:Qr->List Ex | .mk _ _ _ _ _ a _ _ _ _=>a
def aggs:Qr->List Agg | .mk _ _ _ _ _ _ a _ _ _=>a
def types:Qr->List Int | .mk _ _ _ _ _ _ _ a _ _=>a
def rows:Qr->List (List Val) | .mk _ _ _ _ _ _ _ _ a _=>a
def kids:Qr->List Qr | .mk _ _ _ _ _ _ _ _ _ a=>a
end Qr
end
section
variable [T:Tab]
theorem rndOk_spec {N:Nat} {ps:List Nat} {asg bd:Code} (h:rndOk N ps asg bd=true):(∀p∈ps,p<N)/\cOk N asg=true/\cOk N bd=true:=by
 simp only [rndOk,Bool.and_eq_true] at h
 exact ⟨fun p hp=>by simpa using List.all_eq_true.1 h.1.1 p hp,h.1.2,h.2⟩
theorem lp_of {ks ps:List Nat} {asg bd:Code} {st:LS} {ob:Obj} {vs:List Value} (h:XK.of (.lp ks ps asg bd st) ob vs): ∃r:Loop,ob= .loop r/\vs=ks.map (fun k=>r.tmps.getD k undef)/\rndOk r.tmps.size ps asg bd=true/\r.params=ps.toArray/\r.assign=asg/\r.body=bd/\
 (match st with
  | .ready=>r.state= .ready/\r.pending=none
  | .busy=>r.state= .busy
  | .done j=>r.state= .done/\r.pending=some j
  | .over=>True):=by
 cases ob with
 | loop r=>exact ⟨r,rfl,by cases st<;>exact h⟩
 | _=>simp [XK.of] at h
def zipT:List Nat->List A->List (Nat×A)
 | k::ks,a::as=>(k,a)::zipT ks as
 | _,_=>[]
def jI:List Nat->List A->List (Nat×A)->List (Nat×A)
 | p::ps,a::as,t=>jI ps as ((p,a)::t)
 | _,_,t=>t
theorem zipT_rep {E:Env} {f:Nat->Value}: ∀(ks:List Nat) (as:List A),repL E as (ks.map f)-> ∀k,(lookT (zipT ks as) k).rep E (f k)
 | [],as,h,k=>by simp [zipT,lookT,A.rep]
 | k0::ks,[],h,k=>by simp [zipT,lookT,A.rep]
 | k0::ks,a::as,h,k=>by
   simp only [List.map_cons,repL] at h
   obtain ⟨u,us,e,h1,h2⟩:=h
   injection e with e1 e2
   subst e1 e2
   simp only [zipT,lookT]
   by_cases hk:k0=k
   ·subst hk;rw [if_pos rfl];exact h1
   ·rw [if_neg hk];exact zipT_rep ks as h2 k
theorem setPs_rep {E:Env}: ∀(ps:List Nat) (as:List A) (vs:List Value) (t:List (Nat×A)) (tmps:Array Value),repL E as vs->as.length=ps.length->(∀p∈ps,p<tmps.size)->(∀k,(lookT t k).rep E (tmps.getD k undef))->
 ∀k,(lookT (jI ps as t) k).rep E (((ps.zip vs).foldl (fun tmps (x:Nat×Value)=>tmps.setIfInBounds x.1 x.2) tmps).getD k undef)
 | [],[],vs,t,tmps,h,_,_,ht,k=>by simpa [jI] using ht k
 | [],a::as,vs,t,tmps,h,hl,_,ht,k=>by simp at hl
 | p::ps,[],vs,t,tmps,h,hl,_,ht,k=>by simp at hl
 | p::ps,a::as,vs,t,tmps,h,hl,hp,ht,k=>by
   simp only [repL] at h
   obtain ⟨u,us,rfl,h1,h2⟩:=h
   simp only [jI,List.zip_cons_cons,List.foldl_cons]
   refine setPs_rep ps as us ((p,a)::t) _ h2 (by simpa using hl) (fun q hq=>by simpa using hp q (by simp [hq])) (fun j=>?_) k
   have hpl:=hp p (by simp)
   simp only [lookT,Array.getD_eq_getD_getElem?]
   by_cases hj:p=j
   ·subst hj
    rw [if_pos rfl,Array.getElem?_setIfInBounds_self_of_lt hpl]
    exact h1
   ·rw [if_neg hj,Array.getElem?_setIfInBounds_ne hj]
    have:=ht j
    rwa [Array.getD_eq_getD_getElem?] at this
abbrev AYield (P:Program) (o:Nat) (as:List A) (os:List (Nat×Ob)) (res:A) (os':List (Nat×Ob)):Prop:=
 GCall (fun β args w R=> ∀b,β o=some (some b)->YieldRun P b args w R) as os res os'
def rndE:Exit->Option (LS×Bool)
 | .normal=>some (.ready,true)
 | .ret=>some (.done .ret,false)
 | .exit i=>some (.done (.exit i),false)
 | _=>none
def rndK (o:Nat) (ks ps:List Nat) (asg bd:Code) (res:A) (os':List (Nat×Ob)) (e:Exit) (σ:SL):Prop:=
 match rndE e with
 | some (st,b)=> ∃cs,lookO σ.o o=some (.x (.lp ks ps asg bd .busy) cs)/\retx (some (True,.d (.lit (.bool b)))) ⟨σ.t,(o,.x (.lp ks ps asg bd st) cs)::σ.o⟩ res os'
 | none=>False
def asgK (P:Program) (tt:Types) (o:Nat) (ks ps:List Nat) (asg bd:Code) (res:A) (os':List (Nat×Ob)):Exit->SL->Prop
 | .normal,σ=> ∃cs,lookO σ.o o=some (.x (.lp ks ps asg bd .ready) cs)/\ev P tt bd (rndK o ks ps asg bd res os') ⟨σ.t,(o,.x (.lp ks ps asg bd .busy) cs)::σ.o⟩
 | _,_=>False
theorem asgK_n {P:Program} {tt:Types} {o:Nat} {ks ps:List Nat} {asg bd:Code} {res:A} {os':List (Nat×Ob)} {t:List (Nat×A)} {ol:List (Nat×Ob)} {cs:List A} (ho:lookO ol o=some (.x (.lp ks ps asg bd .ready) cs))
 (h:ev P tt bd (rndK o ks ps asg bd res os') ⟨t,(o,.x (.lp ks ps asg bd .busy) cs)::ol⟩):asgK P tt o ks ps asg bd res os' .normal ⟨t,ol⟩:=⟨cs,ho,h⟩
theorem rndK_n {o:Nat} {ks ps:List Nat} {asg bd:Code} {res:A} {os':List (Nat×Ob)} {t:List (Nat×A)} {ol:List (Nat×Ob)} {cs:List A} (ho:lookO ol o=some (.x (.lp ks ps asg bd .busy) cs))
 (h:retx (some (True,.d (.lit (.bool true)))) ⟨t,(o,.x (.lp ks ps asg bd .ready) cs)::ol⟩ res os'):rndK o ks ps asg bd res os' .normal ⟨t,ol⟩:=⟨cs,ho,h⟩
theorem rndK_r {o:Nat} {ks ps:List Nat} {asg bd:Code} {res:A} {os':List (Nat×Ob)} {t:List (Nat×A)} {ol:List (Nat×Ob)} {cs:List A} (ho:lookO ol o=some (.x (.lp ks ps asg bd .busy) cs))
 (h:retx (some (True,.d (.lit (.bool false)))) ⟨t,(o,.x (.lp ks ps asg bd (.done .ret)) cs)::ol⟩ res os'):rndK o ks ps asg bd res os' .ret ⟨t,ol⟩:=⟨cs,ho,h⟩
theorem lp_at {cx:Cx} {β:Nat->Option (Option Nat)} {h:Nat->Option Ob} {w:World} (rel:Rel cx β h w) {o b:Nat} {k0 k:XK} {as0 as:List A} (h0:cx.h0 o=some (.x k0 as0)) (hb0:cx.β0 o=some (some b)) (ho:h o=some (.x k as)):
 β o=some (some b)/\ ∃ob vs,w.heap[b]? =some ob/\k.of ob vs/\repL (ze cx.Xo β h w) as vs:=by
 obtain ⟨ob',g1,g2⟩:=rel.ent o _ h0
 rw [ho] at g1
 cases g1
 simp only [Ob.grow] at g2
 have hb:β o=some (some b):=g2.1.trans hb0
 have:=rel.obj o _ _ ho hb
 simp only [Ob.rep] at this
 obtain ⟨b',ob,vs,e,g3,g4,g5⟩:=this
 cases e
 exact ⟨hb,ob,vs,g3,g4,g5⟩
theorem AYield.enter {P:Program} {tt:Types} (hm:P.follows .mixedOrders=true) (T':tt.ok P) {o:Nat} {ks ps:List Nat} {asg bd:Code} {cs as:List A} {os os':List (Nat×Ob)} {res:A}
 (ho:lookO os o=some (.x (.lp ks ps asg bd .ready) cs)) (hl:as.length=ps.length) (h:ev P tt asg (asgK P tt o ks ps asg bd res os') ⟨jI ps as (zipT ks cs),os⟩):AYield P o as os res os':=by
 intro Xo β w vs rel hr b hb
 have hobj:=rel.obj o _ _ ho hb
 simp only [Ob.rep] at hobj
 obtain ⟨b',ob,us,e,hw,hof,hrep⟩:=hobj
 cases e
 obtain ⟨r,rfl,rfl,hok,hps,has,hbd,hst,hpend⟩:=lp_of hof
 obtain ⟨hps1,hc1,hc2⟩:=rndOk_spec hok
 have hvl:=zP _ _ hr
 have hsz:vs.toArray.size=r.params.size:=by rw [hps];simp;omega
 refine ⟨r.fn,_,r.assign,r.body,run_yield hw hsz,roundIn_of_wpIn (F:=Fence.wide) trivial ?_⟩
 have rel0:RelT ⟨w,Xo,Xh β (lookO os),β,lookO os⟩ r.tmps.size (⟨jI ps as (zipT ks cs),os⟩:SL).st {tmps:=(r.params.zip vs.toArray).foldl (fun tmps (x:Nat×Value)=>tmps.setIfInBounds x.1 x.2) r.tmps,defers:=[]} w:=by
  have e1:(r.params.zip vs.toArray).foldl (fun tmps (x:Nat×Value)=>tmps.setIfInBounds x.1 x.2) r.tmps=(ps.zip vs).foldl (fun tmps (x:Nat×Value)=>tmps.setIfInBounds x.1 x.2) r.tmps:=by
   rw [hps,<-Array.foldl_toList,Array.toList_zip]
  refine ⟨β,rel,fun k=>?_,?_,MarksOk.nil _ _ _⟩
  ·rw [e1]
   exact setPs_rep ps as vs _ r.tmps hr hl hps1 (fun k=>zipT_rep ks cs hrep k) k
  ·rw [e1]
   have: ∀(l:List (Nat×Value)) (a:Array Value),(l.foldl (fun tmps (x:Nat×Value)=>tmps.setIfInBounds x.1 x.2) a).size=a.size:=by
    intro l
    induction l with
    | nil=>intro a;rfl
    | cons x l ih=>intro a;rw [List.foldl_cons,ih];simp
   exact this _ _
 rw [has]
 refine wpIn_mono (ur hm T' (some b) asg _ _ h (cOkF_of hc1) _ w rel0) fun e a1 w1 hp=>?_
 obtain ⟨σ1,⟨β1,q1,q2,q3,q4⟩,k1⟩:=hp
 cases e with
 | normal=>
   obtain ⟨cs1,ho1,hbody⟩:=k1
   obtain ⟨hb1,ob1,us1,hw1,hof1,hrep1⟩:=lp_at q1 (b:=b) ho hb ho1
   obtain ⟨r1,rfl,e1,hok1,hps1',has1,hbd1,hst1,hpend1⟩:=lp_of hof1
   refine ⟨_,run_beginRound hw1 hst1,?_⟩
   obtain ⟨t1,L1⟩:=q1.turnX (y:= .loop {r1 with state:= .busy}) ho1 hb1 hw1 trivial trivial (k':= .lp ks ps asg bd .busy) trivial ⟨e1,hok1,hps1',has1,hbd1,rfl⟩ hrep1
   have rel1:RelT ⟨w,Xo,Xh β (lookO os),β,lookO os⟩ r.tmps.size (⟨σ1.t,(o,.x (.lp ks ps asg bd .busy) cs1)::σ1.o⟩:SL).st a1 (w1.putObj b (.loop {r1 with state:= .busy})):=by
    have e2:(SL.st ⟨σ1.t,(o,.x (.lp ks ps asg bd .busy) cs1)::σ1.o⟩).o=put σ1.st.o o (some (.x (.lp ks ps asg bd .busy) cs1)):=(xh _ _ _).symm
    refine ⟨β1,?_,fun k=>?_,q3,?_⟩
    ·rw [e2];exact t1
    ·rw [e2];exact A.rep_le L1 _ _ (q2 k)
    ·rw [e2];exact MarksOk.le L1 q4
   rw [hbd]
   refine wpIn_mono (ur hm T' (some b) bd _ _ hbody (cOkF_of hc2) a1 _ rel1) fun e2 a2 w2 hp2=>?_
   obtain ⟨σ2,⟨β2,p1,p2,p3,p4⟩,k2⟩:=hp2
   have fin: ∀(jump:Option Code) (st:LS) (bb:Bool),rndE e2=some (st,bb)→bb=jump.isNone→(∀r2:Loop,(match st with
        | .ready=>({r2 with state:=if jump.isNone then .ready else .done,pending:=jump}:Loop).state= .ready/\({r2 with state:=if jump.isNone then .ready else .done,pending:=jump}:Loop).pending=none
        | .busy=>({r2 with state:=if jump.isNone then .ready else .done,pending:=jump}:Loop).state= .busy
        | .done j=>({r2 with state:=if jump.isNone then .ready else .done,pending:=jump}:Loop).state= .done/\({r2 with state:=if jump.isNone then .ready else .done,pending:=jump}:Loop).pending=some j
        | .over=>True))->
    ∃v w',(Instr.endRound b jump).run P w2= .ok v w'/\ ∃v_1 β',Ending.returned v= .returned v_1/\Rel ⟨w,Xo,Xh β (lookO os),β,lookO os⟩ β' (lookO os') w'/\res.rep (ze Xo β' (lookO os') w') v_1:=by
    intro jump st bb hE hbb hjj
    unfold rndK at k2
    rw [hE] at k2
    obtain ⟨cs2,ho2,hret⟩:=k2
    obtain ⟨hb2,ob2,us2,hw2,hof2,hrep2⟩:=lp_at p1 (b:=b) ho hb ho2
    obtain ⟨r2,rfl,e3,hok2,hps2,has2,hbd2,hst2⟩:=lp_of hof2
    obtain ⟨t2,L2⟩:=p1.turnX (y:= .loop {r2 with state:=if jump.isNone then .ready else .done,pending:=jump}) ho2 hb2 hw2 trivial trivial (k':= .lp ks ps asg bd st) trivial ⟨e3,hok2,hps2,has2,hbd2,hjj r2⟩ hrep2
    refine ⟨_,_,run_endRound jump hw2,?_⟩
    obtain ⟨_,hwk⟩:=hret
    have rel2:RelT ⟨w,Xo,Xh β (lookO os),β,lookO os⟩ 1 ⟨lookT [(0,.d (.lit (.bool bb)))],lookO ((o,.x (.lp ks ps asg bd st) cs2)::σ2.o)⟩ {tmps:= #[.bool jump.isNone],defers:=[]} (w2.putObj b (.loop {r2 with state:=if jump.isNone then .ready else .done,pending:=jump})):=by
     refine ⟨β2,?_,fun k=>?_,rfl,MarksOk.nil _ _ _⟩
     ·rw [<-xh];exact t2
     ·simp only [lookT]
      by_cases hk:0=k
      ·subst hk
       rw [if_pos rfl,hbb]
       simp only [A.rep,D.rep]
       exact ⟨rfl,rfl⟩
      ·rw [if_neg hk];simp [A.rep]
    obtain ⟨β3,s1,s2,_,_⟩:=hwk _ 1 _ _ rel2
    have:=s2 0
    simp only [lookT,if_true] at this
    exact ⟨_,β3,rfl,s1,by simpa using this⟩
   cases e2 with
   | normal=>exact fin none .ready true rfl rfl (fun _=>⟨rfl,rfl⟩)
   | ret=>exact fin (some .ret) (.done .ret) false rfl rfl (fun _=>⟨rfl,rfl⟩)
   | exit i=>exact fin (some (.exit i)) (.done (.exit i)) false rfl rfl (fun _=>⟨rfl,rfl⟩)
   | goto l=>exact k2.elim
   | panic ch=>exact k2.elim
   | outgrown=>exact k2.elim
 | exit i=>exact k1.elim
 | goto l=>exact k1.elim
 | ret=>exact k1.elim
 | panic ch=>exact k1.elim
 | outgrown=>exact k1.elim
end
section
variable [T:Tab]
section
variable {P:Program} {tt:Types} {ops:Array Oper} {dr:Bool} {rest:List Oper} {log:List Foot} {K:SL->Prop}
end
def sayT (t:List (Nat×A)):List (Nat×A)->Prop
 | []=>True
 | (k,v)::l=>lookT t k=v/\sayT t l
theorem sayT_rep {E:Env} {f:Nat->Value} {t:List (Nat×A)} (h: ∀k,(lookT t k).rep E (f k)): ∀t0,sayT t t0->repL E (t0.map (·.2)) ((t0.map (·.1)).map f)
 | [],_=>by simp [repL]
 | (k,v)::l,hs=>by
   simp only [sayT] at hs
   simp only [List.map_cons,repL]
   exact ⟨_,_,rfl,by rw [<-hs.1];exact h k,sayT_rep h l hs.2⟩
def jmpK (ol:Nat) (K:Exit->SL->Prop) (σ:SL):Prop:=
 match lookO σ.o ol with
 | some (.x (.lp ks ps asg bd .ready) cs)=>K .normal ⟨σ.t,(ol,.x (.lp ks ps asg bd .over) cs)::σ.o⟩
 | some (.x (.lp ks ps asg bd (.done .ret)) cs)=>K .ret ⟨σ.t,(ol,.x (.lp ks ps asg bd .over) cs)::σ.o⟩
 | some (.x (.lp ks ps asg bd (.done (.exit i))) cs)=>K (.exit i) ⟨σ.t,(ol,.x (.lp ks ps asg bd .over) cs)::σ.o⟩
 | _=>False
theorem jmpK_n {ol:Nat} {K:Exit->SL->Prop} {t:List (Nat×A)} {o:List (Nat×Ob)} {ks ps:List Nat} {asg bd:Code} {cs:List A} (ho:lookO o ol=some (.x (.lp ks ps asg bd .ready) cs)) (h:K .normal ⟨t,(ol,.x (.lp ks ps asg bd .over) cs)::o⟩):jmpK ol K ⟨t,o⟩:=by
 unfold jmpK;rw [ho];exact h
theorem jmpK_r {ol:Nat} {K:Exit->SL->Prop} {t:List (Nat×A)} {o:List (Nat×Ob)} {ks ps:List Nat} {asg bd:Code} {cs:List A} (ho:lookO o ol=some (.x (.lp ks ps asg bd (.done .ret)) cs)) (h:K .ret ⟨t,(ol,.x (.lp ks ps asg bd .over) cs)::o⟩):jmpK ol K ⟨t,o⟩:=by
 unfold jmpK;rw [ho];exact h
theorem rf_intro {P:Program} {tt:Types} {f:Operand} {ps:Array Tmp} {asg bd:Code} {K:Exit→SL→Prop} {t:List (Nat×A)} {o:List (Nat×Ob)} (t0:List (Nat×A)) (ol od:Nat) {g:Nat} {caps:List A}
 (hf:evL ⟨t,o⟩ f= .clo g caps) (ht:sayT t t0) (hol:lookO o ol=none) (hod:lookO o od=none) (hodb:1000000<=od) (hne:ol≠od)
 (h:vR P tt #[] false (.clo g caps) [.xo true ol] none [] [] (jmpK ol K) ⟨t,(ol,.x (.lp (t0.map (·.1)) ps.toList asg bd .ready) (t0.map (·.2)))::(od,.x .dfr [])::o⟩):rfx P f ps asg bd K ⟨t,o⟩:=by
 intro cx N hok a w rel
 obtain ⟨β,h1,h2,h3,h4⟩:=rel
 obtain ⟨e,hc,hk⟩:=h
 have hk:jmpK ol K (SL.step ⟨t,(ol,.x (.lp (t0.map (·.1)) ps.toList asg bd .ready) (t0.map (·.2)))::(od,.x .dfr [])::o⟩ none e):=by
  have:=hk
  simp only [rgn] at this
  exact this.2
 refine wpIn_rangeFunc (F:=Fw none) fun fn _=>?_
 let lo:Obj:= .loop {state:= .ready,pending:=none,fn:=fn,tmps:=a.tmps,params:=ps,assign:=asg,body:=bd,defers:=w.heap.size}
 let w1:=w.alloc (.deferred (some []))
 have hl1:w1.heap.size=w.heap.size+1:=by simp [w1]
 have hrep0:(evL ⟨t,o⟩ f).rep (ze cx.Xo β (lookO o) w) (a.eval f):=evL_rep (N:=N) (σ:=⟨t,o⟩) h1 h2 f
 rw [hf] at hrep0
 simp only [A.rep] at hrep0
 obtain ⟨cvs,hfv,hcaps⟩:=hrep0
 have h1':Rel cx β (lookO o) w:=h1
 obtain ⟨r1,L1⟩:=h1'.allocX od (.x .dfr []) (.deferred (some [])) hod (fun L=>by
  simp only [Ob.rep]
  exact ⟨_,_,[],rfl,zM w _,rfl,by simp [repL]⟩)
 have hol1:put (lookO o) od (some (.x .dfr [])) ol=none:=by rw [zG _ _ hne];exact hol
 have hsl:=sayT_rep (f:=fun k=>a.tmps.getD k undef) (t:=t) h2 t0 ht
 obtain ⟨r2,L2⟩:=r1.allocX ol (.x (.lp (t0.map (·.1)) ps.toList asg bd .ready) (t0.map (·.2))) lo hol1 (fun L=>by
  simp only [Ob.rep]
  exact ⟨_,_,_,rfl,zM w1 _,⟨rfl,by rw [h3];exact hok,by simp,rfl,rfl,rfl,rfl⟩,repL_le (L1.trans L) _ _ hsl⟩)
 have eo:put (put (lookO o) od (some (.x .dfr []))) ol (some (.x (.lp (t0.map (·.1)) ps.toList asg bd .ready) (t0.map (·.2))))=lookO ((ol,.x (.lp (t0.map (·.1)) ps.toList asg bd .ready) (t0.map (·.2)))::(od,.x .dfr [])::o):=by
  rw [xh,xh]
 rw [eo] at r2 L2
 have L12:=L1.trans L2
 let β2:=put (put β od (some (some w.heap.size))) ol (some (some w1.heap.size))
 have hβl:β2 ol=some (some w1.heap.size):=yy _ _ _
 have hβd:β2 od=some (some w.heap.size):=by
  show put (put β od (some (some w.heap.size))) ol (some (some w1.heap.size)) od=_
  rw [zG _ _ (Ne.symm hne),yy]
 have hargs:repL (ze cx.Xo β2 (lookO ((ol,.x (.lp (t0.map (·.1)) ps.toList asg bd .ready) (t0.map (·.2)))::(od,.x .dfr [])::o)) (w1.alloc lo)) ([A.xo true ol]++caps) ([Value.func (.yield w1.heap.size) #[] #[]]++cvs):=by
  refine xw _ _ _ _ ?_ (repL_le L12 _ _ hcaps)
  simp only [repL,A.rep]
  exact ⟨_,[],rfl,⟨w1.heap.size,.lp (t0.map (·.1)) ps.toList asg bd .ready,t0.map (·.2),hβl,by simp [ze,lookO],rfl⟩,rfl⟩
 have hcalls:=hc.calls _ (fun _ _=>rfl) cx β2 (w1.alloc lo) _ r2 hargs
 obtain ⟨gf,g1,g2,g3⟩:=hc.fn
 have g4:gf.body≠none:=by intro hb;simp [hb] at g3
 have g5 : gf.name ≠ "runtime.NumGoroutine" := by simpa using g2
 refine ⟨w1.heap.size,[mark w.heap.size],w1.alloc lo,⟨.fn (.func g) cvs.toArray, #[Value.func (.yield w1.heap.size) #[] #[]]⟩,w1.alloc lo,g,([Value.func (.yield w1.heap.size) #[] #[]]++cvs).toArray,w1.alloc lo,?_,?_,fun _ _=>trivial,?_,fw_room,?_⟩
 ·have:=run_enterLoop_outer (P:=P) (w:=w) fn a.tmps ps asg bd
  rw [show (Fw none).round=none from rfl,this,hl1]
  rfl
 ·show Sem.run P (Deferred.ofValue (a.eval f) (Array.map a.eval #[.const (.func (.yield w1.heap.size) #[] #[])])) _=_
  rw [hfv]
  simp [Deferred.ofValue,Act.eval]
 ·simp [invoke,callFunc,g1,g4,g5]
 refine CallsIn.mono (callsIn_fw hcalls) fun en w3 hen=>?_
 obtain ⟨v,β3,rfl,k1,k2,k3⟩:=hen
 have hm0:MarksOk cx.w0.heap.size β2 (lookO ((ol,.x (.lp (t0.map (·.1)) ps.toList asg bd .ready) (t0.map (·.2)))::(od,.x .dfr [])::o)) (mark w.heap.size::a.defers):=by
  have m1:=MarksOk.le L12 (show MarksOk cx.w0.heap.size β (lookO o) a.defers from h4)
  refine ⟨List.pairwise_cons.2 ⟨fun d hd he=>?_,m1.1⟩,fun d hd=>?_⟩
  ·obtain ⟨o',b',as',q1,q2,q3,q4,q5⟩:=h4.2 d hd
   have:=h1.lt q3
   rw [q4] at he
   simp only [mark,Deferred.mk.injEq,Target.collected.injEq,and_true] at he
   omega
  ·rcases List.mem_cons.1 hd with rfl | hd
   ·refine ⟨od,w.heap.size,[],hodb,by simp [lookO,hne],hβd,rfl,h1.ev.size⟩
   ·exact m1.2 d hd
 have hst:(lookO ((ol,.x (.lp (t0.map (·.1)) ps.toList asg bd .ready) (t0.map (·.2)))::(od,.x .dfr [])::o)) ol=some (.x (.lp (t0.map (·.1)) ps.toList asg bd .ready) (t0.map (·.2))):=by simp [lookO]
 obtain ⟨obl,gl1,gl2⟩:=k2.h ol _ hst
 cases obl with
 | x kl asl=>
   simp only [Ob.grow] at gl2
   have hb3:β3 ol=some (some w1.heap.size):=gl2.1.trans hβl
   have gl1':upds (lookO ((ol,.x (.lp (t0.map (·.1)) ps.toList asg bd .ready) (t0.map (·.2)))::(od,.x .dfr [])::o)) e.upd ol=some (.x kl asl):=gl1
   have hobj:=k1.obj ol _ _ gl1' hb3
   simp only [Ob.rep] at hobj
   obtain ⟨b',ob3,vs3,eb,hw3,hof3,hrep3⟩:=hobj
   cases eb
   have hlk:lookO (SL.step ⟨t,(ol,.x (.lp (t0.map (·.1)) ps.toList asg bd .ready) (t0.map (·.2)))::(od,.x .dfr [])::o⟩ none e).o ol=some (.x kl asl):=by
    show lookO (updO _ _) _=_
    rw [<-xg];exact gl1'
   unfold jmpK at hk
   rw [hlk] at hk
   have done: ∀(ks ps':List Nat) (asg' bd':Code) (st:LS) (r3:Loop) (ex:Exit),ob3= .loop r3->r3.state≠ .busy->XK.of (.lp ks ps' asg' bd' .over) (.loop {r3 with state:= .exhausted}) vs3->kl.grow (.lp ks ps' asg' bd' .over)->
    K ex ⟨t,(ol,.x (.lp ks ps' asg' bd' .over) asl)::(SL.step ⟨t,(ol,.x (.lp (t0.map (·.1)) ps.toList asg bd .ready) (t0.map (·.2)))::(od,.x .dfr [])::o⟩ none e).o⟩->
    PostK cx N K ex {a with defers:=[mark w.heap.size]++a.defers} (w3.putObj w1.heap.size (.loop {r3 with state:= .exhausted})):=by
    intro ks ps' asg' bd' st r3 ex e3 hbz hof4 hgr hK
    subst e3
    obtain ⟨t3,L3⟩:=k1.turnX (y:= .loop {r3 with state:= .exhausted}) gl1' hb3 hw3 trivial trivial hgr hof4 hrep3
    have eo3:put (upds (lookO ((ol,.x (.lp (t0.map (·.1)) ps.toList asg bd .ready) (t0.map (·.2)))::(od,.x .dfr [])::o)) e.upd) ol (some (.x (.lp ks ps' asg' bd' .over) asl))=
     lookO ((ol,.x (.lp ks ps' asg' bd' .over) asl)::(SL.step ⟨t,(ol,.x (.lp (t0.map (·.1)) ps.toList asg bd .ready) (t0.map (·.2)))::(od,.x .dfr [])::o⟩ none e).o):=by
     rw [xg,xh];rfl
    rw [eo3] at t3 L3
    refine ⟨(⟨t,(ol,.x (.lp ks ps' asg' bd' .over) asl)::(SL.step ⟨t,(ol,.x (.lp (t0.map (fun x:Nat×A=>x.1)) ps.toList asg bd .ready) (t0.map (fun x:Nat×A=>x.2)))::(od,.x .dfr [])::o⟩ none e).o⟩:SL),⟨β3,t3,fun k=>?_,h3,?_⟩,hK⟩
    ·exact A.rep_le (L12.trans (k2.trans L3)) _ _ (h2 k)
    ·exact MarksOk.le (k2.trans L3) hm0
   split at hk
   ·rename_i ks ps' asg' bd' cs heq
    simp only [Option.some.injEq,Ob.x.injEq] at heq
    obtain ⟨rfl,rfl⟩:=heq
    obtain ⟨r3,rfl,e1,e2,e3,e4,e5,e6,e7⟩:=lp_of hof3
    have hbz:r3.state≠ .busy:=by rw [e6];exact fun h=>by cases h
    obtain ⟨w4,hw4,hend⟩: ∃w4,w4=w3.putObj w1.heap.size (.loop {r3 with state:= .exhausted})/\(Instr.endLoop w1.heap.size).run P w3= .ok r3.pending w4:=⟨_,rfl,run_endLoop hw3 hbz⟩
    rw [e7] at hend
    refine ⟨none,w4,hend,?_⟩
    rw [hw4]
    exact done _ _ _ _ .ready r3 .normal rfl hbz ⟨e1,e2,e3,e4,e5,trivial⟩ trivial hk
   ·rename_i ks ps' asg' bd' cs heq
    simp only [Option.some.injEq,Ob.x.injEq] at heq
    obtain ⟨rfl,rfl⟩:=heq
    obtain ⟨r3,rfl,e1,e2,e3,e4,e5,e6,e7⟩:=lp_of hof3
    have hbz:r3.state≠ .busy:=by rw [e6];exact fun h=>by cases h
    obtain ⟨w4,hw4,hend⟩: ∃w4,w4=w3.putObj w1.heap.size (.loop {r3 with state:= .exhausted})/\(Instr.endLoop w1.heap.size).run P w3= .ok r3.pending w4:=⟨_,rfl,run_endLoop hw3 hbz⟩
    rw [e7] at hend
    refine ⟨some .ret,w4,hend,?_⟩
    rw [hw4]
    exact wpIn_ret (done _ _ _ _ .ready r3 .ret rfl hbz ⟨e1,e2,e3,e4,e5,trivial⟩ trivial hk)
   ·rename_i ks ps' asg' bd' i cs heq
    simp only [Option.some.injEq,Ob.x.injEq] at heq
    obtain ⟨rfl,rfl⟩:=heq
    obtain ⟨r3,rfl,e1,e2,e3,e4,e5,e6,e7⟩:=lp_of hof3
    have hbz:r3.state≠ .busy:=by rw [e6];exact fun h=>by cases h
    obtain ⟨w4,hw4,hend⟩: ∃w4,w4=w3.putObj w1.heap.size (.loop {r3 with state:= .exhausted})/\(Instr.endLoop w1.heap.size).run P w3= .ok r3.pending w4:=⟨_,rfl,run_endLoop hw3 hbz⟩
    rw [e7] at hend
    refine ⟨some (.exit i),w4,hend,?_⟩
    rw [hw4]
    exact wpIn_exit (done _ _ _ _ .ready r3 (.exit i) rfl hbz ⟨e1,e2,e3,e4,e5,trivial⟩ trivial hk)
   ·exact hk.elim
 | _=>simp [Ob.grow] at gl2
def keepM (dom:Nat->Bool):List (Nat×Ob)->Prop
 | []=>True
 | (k,_)::l=>(hdd k=false\/dom k=true\/1000000<=k)/\keepM dom l
theorem keepM_spec {dom:Nat->Bool}: ∀(l:List (Nat×Ob)),keepM dom l-> ∀o,hdd o=true->o<1000000->(lookO l o).isSome=true->dom o=true
 | [],_,o,_,_,h=>by simp [lookO] at h
 | (k,v)::l,hk,o,ho,ho2,h=>by
   simp only [keepM] at hk
   simp only [lookO] at h
   by_cases hko:k=o
   ·subst hko
    rcases hk.1 with q | q | q
    ·rw [q] at ho;cases ho
    ·exact q
    ·omega
   ·simp only [hko,if_false] at h;exact keepM_spec l hk.2 o ho ho2 h
def dropM (σ σ1:SL):Prop:=keepT (lookT σ.t) (inO σ1.o) σ1.t/\keepO (lookO σ.o) (inO σ1.o) σ1.o/\keepM (inO σ1.o) σ.o/\noMk σ1.o=true
def bodyKM (tt:Types) (rs:List ResultVar) (res:A) (os':List (Nat×Ob)):Exit->SL->Prop
 | .normal,σ=> ∃σ1,dropM σ σ1/\retx (resA tt σ1 rs) σ1 res os'
 | .ret,σ=> ∃σ1,dropM σ σ1/\retx (resA tt σ1 rs) σ1 res os'
 | _,_=>False
theorem Rel.other {cx:Cx} {β:Nat->Option (Option Nat)} {h:Nat->Option Ob} {w:World} (r:Rel cx β h w) {b:Nat} {x y:Obj} (hw:w.heap[b]? =some x) (hx:jz x) (hy:jz y) (hb:cx.w0.heap.size<=b) (hno: ∀o,β o≠some (some b)):
 Rel cx β h (w.putObj b y)/\(ze cx.Xo β h w).Le (ze cx.Xo β h (w.putObj b y)):=by
 have hlt:b<w.heap.size:=by
  rcases Nat.lt_or_ge b w.heap.size with hl | hl
  ·exact hl
  ·simp [Array.getElem?_eq_none hl] at hw
 have hset:(w.putObj b y).heap[b]? =some y:=World.putObj_heap_same hlt
 have hoth: ∀k,k≠b->(w.putObj b y).heap[k]? =w.heap[k]? :=fun k hk=>World.putObj_heap_other hk
 have hcell: ∀k i v,w.cell? ⟨k,i,none⟩=some v->(w.putObj b y).cell? ⟨k,i,none⟩=some v:=by
  intro k i v hc
  by_cases hk:k=b
  ·subst hk
   unfold World.cell? at hc
   simp only [hw] at hc
   cases x<;>simp at hc
   exact hx.elim
  ·unfold World.cell? at hc ⊢
   simp only [hoth k hk];exact hc
 have hszz: ∀(k n:Nat),(ze cx.Xo β h w).sz k n->(ze cx.Xo β h (w.putObj b y)).sz k n:=by
  rintro k n ⟨c,el,h1,h2⟩
  have hk:k≠b:=fun e=>by rw [e,hw] at h1;cases h1;exact hx.elim
  exact ⟨c,el,(hoth k hk).trans h1,h2⟩
 have L:(ze cx.Xo β h w).Le (ze cx.Xo β h (w.putObj b y)):=
  ⟨fun k i v hr=>⟨hr.1,hr.2.1,hcell k i v hr.2.2⟩,fun o ob ho=>⟨ob,ho,Ob.grow_refl _ _⟩,hszz⟩
 refine ⟨⟨r.dom,fun o ob bo h1 h2=>?_,r.inj,r.out,r.bnd,?_,r.own,r.ent,r.big,fun g row hg=>rowAt_mono L.R (L.R g) row 0 (r.tab g row hg),fun g hg=>(r.gi g hg).imp fun _=>L.R _ _ _,fun g row hg=>?_⟩,L⟩
 ·exact Ob.rep_le L (fun k hk=>hoth k (fun e=>hno o (by rw [h2,hk,e]))) (r.obj o ob bo h1 h2)
 ·refine ⟨r.ev.os,r.ev.tape,r.ev.output,by simpa using r.ev.size,r.ev.drawn,fun k hk=>?_⟩
  have hkb:k≠b:=by omega
  rw [hoth k hkb]
  exact r.ev.block k hk
 ·obtain ⟨c,el,fl,h1,h2⟩:=r.tsz g row hg
  have hk:g≠b:=fun e=>by rw [e,hw] at h1;cases h1;exact hx.elim
  exact ⟨c,el,fl,(hoth g hk).trans h1,h2⟩
theorem ACall.enterM {P : Program} {tt : Types} (hm : P.follows .mixedOrders = true) (T' : tt.ok P) {f : FuncId} {fn : Func} {c : Code} {as : List A} {os os' : List (Nat × Ob)} {res : A} (hf : P.funcs[f]? = some fn) (hname : (fn.name == "runtime.NumGoroutine") = false) (hb : fn.body = some c)
 (N:Nat) (hNn:fn.ntmps=N) (hN:as.length<=N) (hc:cOkR N c=true) (rs:List ResultVar) (hrs:fn.results.toList=rs) (h:ev P tt c (bodyKM tt rs res os') ⟨argT 0 as,os⟩) (hmk:noMk os=true):ACall P f as os res os' where
 fn:=⟨fn,hf,hname,by rw [hb];rfl⟩
 calls:=fun Xo β w vs rel hr=>by
  have rel0:=RelT.args (M:=fn.ntmps) rel hr hNn hN
  refine calls_fw (n:=0) (callsIn_of_wp_marks hf hb trivial (wpIn_mono (ur hm T' none c _ _ h hc _ w rel0) fun e a' w' hp=>?_))
  obtain ⟨σ',r',k'⟩:=hp
  let cx:Cx:=⟨w,Xo,Xh β (lookO os),β,lookO os⟩
  have fin:(∃σ1,dropM σ' σ1/\retx (resA tt σ1 rs) σ1 res os')->LeavesInM (Fw none) 0 P fn a'.tmps (fun en w'=> ∃v β',en= .returned v/\Rel cx β' (lookO os') w'/\res.rep (ze Xo β' (lookO os') w') v) a'.defers .returning w':=by
   rintro ⟨σ1,⟨d1,d2,d3,d4⟩,hret⟩
   obtain ⟨β1,q1,q2,q3,q4⟩:=r'
   have hcl: ∀o ob,inO σ1.o o=true->lookO σ'.o o=some ob->ob.closed (inO σ1.o)=true:=fun o ob hd hob=>by
    unfold inO at hd
    obtain ⟨ob',hob'⟩:=Option.isSome_iff_exists.1 hd
    obtain ⟨g1,g2⟩:=v7 σ1.o d2 o ob' hob'
    rw [hob] at g1
    cases g1
    exact g2
   have q1':Rel cx β1 (lookO σ'.o) w':=q1
   obtain ⟨r1,S1⟩:=q1'.drop (inO σ1.o) hcl (fun o g1 g2=>by
    have hlt:o<1000000:=by
     rcases Nat.lt_or_ge o 1000000 with q | q
     ·exact q
     ·have hn:=jy hmk o q
      have g1':(lookO os o).isSome=true:=g1
      rw [hn] at g1'
      cases g1'
    exact keepM_spec σ'.o d3 o (rel.big o g1) hlt g2)
   have he:(fun o=>if inO σ1.o o then lookO σ'.o o else none)=lookO σ1.o:=by
    funext o
    unfold inO
    cases hl:lookO σ1.o o with
    | none=>simp
    | some ob=>simp;exact (v7 σ1.o d2 o ob hl).1
   rw [he] at r1 S1
   let β2:Nat->Option (Option Nat):=fun o=>if inO σ1.o o then β1 o else none
   have hslots: ∀k,(lookT σ1.t k).rep (ze Xo β2 (lookO σ1.o) w') (a'.tmps.getD k undef):=fun k=>by
    rcases jY σ1.t d1 k with q | ⟨q,hcq⟩
    ·rw [q];simp [A.rep]
    ·rw [q];exact A.rep_sub S1 _ _ hcq (q2 k)
   have key: ∀(ds:List Deferred) (w2:World),Rel cx β2 (lookO σ1.o) w2->(∀k,(lookT σ1.t k).rep (ze Xo β2 (lookO σ1.o) w2) (a'.tmps.getD k undef))->ds.Pairwise (· ≠ ·)->
    (∀d∈ds,∃b,d=mark b/\w2.heap[b]? =some (.deferred (some []))/\(∀o,β2 o≠some (some b))/\w.heap.size<=b)->
    LeavesInM (Fw none) 0 P fn a'.tmps (fun en w'=> ∃v β',en= .returned v/\Rel cx β' (lookO os') w'/\res.rep (ze Xo β' (lookO os') w') v) ds .returning w2:=by
    intro ds
    induction ds with
    | nil=>
      intro w2 g1 g2 _ _
      unfold retx at hret
      split at hret
      ·rename_i p x hx
       obtain ⟨hp,hw⟩:=hret
       obtain ⟨v,g3,g4⟩:=resA_ok (cx:=cx) (σ:=σ1) T' g1 g2 hrs hx hp
       have hst:RelT cx 1 ⟨lookT [(0,x)],lookO σ1.o⟩ {tmps:= #[v],defers:=[]} w2:=by
        refine ⟨β2,g1,fun k=>?_,rfl,MarksOk.nil _ _ _⟩
        simp only [lookT]
        by_cases hk:0=k
        ·subst hk;simp only [if_true];exact g4
        ·simp only [hk,if_false];simp [A.rep]
       obtain ⟨β3,p1,p2,_,_⟩:=hw _ 1 _ w2 hst
       have:=p2 0
       simp only [lookT,if_true] at this
       exact ⟨v,g3,v,β3,rfl,p1,by simpa using this⟩
      ·exact hret.elim
    | cons d ds ih=>
      intro w2 g1 g2 g3 g4
      obtain ⟨b,rfl,g5,g6,g7⟩:=g4 d (by simp)
      obtain ⟨r3,L3⟩:=g1.other (y:= .deferred none) g5 trivial trivial g7 g6
      refine ⟨fun h=>(by cases h),.inl ⟨b,_,rfl,run_takeDeferred g5,ih _ r3 (fun k=>A.rep_le L3 _ _ (g2 k)) (List.pairwise_cons.1 g3).2 fun d' hd'=>?_⟩⟩
      obtain ⟨b',rfl,p5,p6,p7⟩:=g4 d' (by simp [hd'])
      have hne:b'≠b:=fun e=>(List.pairwise_cons.1 g3).1 _ hd' (by rw [e])
      exact ⟨b',rfl,(World.putObj_heap_other hne).trans p5,p6,p7⟩
   refine key _ w' r1 hslots q4.1 fun d hd=>?_
   obtain ⟨o,b,as',m1,m2,m3,rfl,m5⟩:=q4.2 d hd
   have hobj:=q1'.obj o _ _ m2 m3
   simp only [Ob.rep] at hobj
   obtain ⟨b',ob,vs',e1,e2,e3,_⟩:=hobj
   cases e1
   refine ⟨b,rfl,?_,fun o' hno=>?_,m5⟩
   ·rw [e2]
    cases ob with
    | deferred x=>
      cases x with
      | none=>simp [XK.of] at e3
      | some l=>
        cases l with
        | nil=>rfl
        | cons _ _=>simp [XK.of] at e3
    | _=>simp [XK.of] at e3
   ·have ho':inO σ1.o o'=true:=by
     by_cases q:inO σ1.o o'=true
     ·exact q
     ·simp only [β2,q] at hno;cases hno
    have h5:β1 o'=some (some b):=by simpa only [β2,ho',if_true] using hno
    have:=q1'.inj o' o b h5 m3
    subst this
    have hn:=jy d4 o' m1
    unfold inO at ho'
    rw [hn] at ho'
    cases ho'
  cases e with
  | normal=>exact fin k'
  | ret=>exact fin k'
  | exit i=>exact k'.elim
  | goto l=>exact k'.elim
  | panic ch=>exact k'.elim
  | outgrown=>exact k'.elim
theorem enterqM {P:Program} {tt:Types} (hm:P.follows .mixedOrders=true) (T:tt.ok P) {f:FuncId} {fn:Func} {c:Code} {as:List A} {os os':List (Nat×Ob)} {res:A} {N:Nat} {ra:Array ResultVar} (hf:P.funcs[f]? =some fn)
 (hNn : fn.ntmps = N) (hrs : fn.results = ra) (h : ev P tt c (bodyKM tt ra.toList res os') ⟨argT 0 as, os⟩) (hname : (fn.name == "runtime.NumGoroutine") = false := by exact rfl) (hb : fn.body = some c := by exact rfl)
 (hN:as.length<=N:=by exact Nat.le_of_ble_eq_true rfl) (hc:cOkR N c=true:=by kernel_rfl) (hmk:noMk os=true:=by first | rfl | (simp [noMk];done)):ACall P f as os res os':=
 ACall.enterM hm T hf hname hb N hNn hN hc ra.toList (congrArg Array.toList hrs) h hmk
end
section
variable [T:Tab]
section
variable {P:Program} {tt:Types} {ops:Array Oper} {rest:List Oper} {log:List Foot} {K:SL->Prop}
end
end
section
variable {α:Type} (le:α->α->Bool)
def ssort:List α->List α
 | []=>[]
 | x::l=>List.merge [x] (ssort l) le
variable {le}
structure Ord (le:α->α->Bool):Prop where
 trans: ∀a b c,le a b=true->le b c=true->le a c=true
 total: ∀a b,(le a b || le b a)=true
def chunks (le:α->α->Bool) (s:Nat):Nat->List α->List α
 | 0,l=>l
 | n+1,l=>if l.length<=s then ssort le l else ssort le (l.take s)++chunks le s n (l.drop s)
def chk (le:α->α->Bool) (s:Nat) (l:List α):List α:=chunks le s l.length l
end
section
variable [T:Tab]
end
section
variable [T:Tab]
def codx (P:Program) (c:Code) (K:Exit->SL->Prop) (σ:SL):Prop:=
 ∀(r:Option Nat) (cx:Cx) (N:Nat),cOkF r N c=true-> ∀(a:Act) (w:World),RelT cx N σ.st a w->c.wpIn (Fw r) 0 P (PostK cx N K) a w
def stepK (P:Program) (b:Code) (K:Exit->SL->Prop):Exit->SL->Prop
 | .normal,σ=>codx P b K σ
 | e,σ=>K e σ
def joinK (tgt:SL) (K:Exit->SL->Prop):Exit->SL->Prop
 | .normal,σ=>Weak σ.st tgt.st
 | e,σ=>K e σ
section
variable {P:Program} {tt:Types} {K:Exit->SL->Prop} {σ tgt:SL} {a b:Code}
theorem stepK_normal:stepK P b K .normal σ=codx P b K σ:=rfl
theorem stepK_ret:stepK P b K .ret σ=K .ret σ:=rfl
theorem stepK_exit (i:Nat):stepK P b K (.exit i) σ=K (.exit i) σ:=rfl
theorem joinK_normal:joinK tgt K .normal σ=Weak σ.st tgt.st:=rfl
theorem joinK_ret:joinK tgt K .ret σ=K .ret σ:=rfl
theorem joinK_exit (i:Nat):joinK tgt K (.exit i) σ=K (.exit i) σ:=rfl
end
end
attribute [push_cast] Go.Am.stepK_normal Go.Am.stepK_ret Go.Am.stepK_exit Go.Am.joinK_normal Go.Am.joinK_ret Go.Am.joinK_exit
section
variable [T:Tab]
def idxG (sz o n:Nat) (i:Int) (ob:Option Ob):Option Eff:=match ob with
 | some (.gv _ cs)=>some ⟨(0<=i/\i<n)/\n=cs.length/\sz=1,.g o n (some i.toNat),[],[o]⟩
 | _=>none
theorem idx_g (te:TI) (h:Nat->Option Ob) (o n:Nat) (i:Int):idxS (some te) h (.g o n none) i=idxG te.size o n i (h o):=by
 simp only [idxS,uv,idxG]
 cases h o with
 | none=>rfl
 | some ob=>cases ob<;>rfl
theorem idx_G (sz o n:Nat) (i:Int) (e:Nat) (cs:List A):idxG sz o n i (some (.gv e cs))=some ⟨(0<=i/\i<n)/\n=cs.length/\sz=1,.g o n (some i.toNat),[],[o]⟩:=rfl
def loadG (tt:Types) (t n i o:Nat) (ob:Option Ob):Option Eff:=match ob with
 | some (.gv _ cs)=>match xm tt t cs i with
   | some (p,a)=>some ⟨p/\n=cs.length,a,[],[o]⟩
   | none=>none
 | _=>none
theorem load_g (tt:Types) (t:Nat) (h:Nat->Option Ob) (o n i:Nat):xA tt t h (.g o n (some i))=loadG tt t n i o (h o):=by
 simp only [xA,loadG]
 cases h o with
 | none=>rfl
 | some ob=>cases ob<;>rfl
attribute [push_cast] idx_g idx_G load_g loadG
end
section
variable [T:Tab]
def lits (rs:List Value):A:= .agg (rs.map fun r=> .d (.lit r))
theorem lits_rep {E E':Env} {rs:List Value} {v:Value} (h:(lits rs).rep E v):(lits rs).rep E' v:=by
 have key: ∀(rs vs:List Value),repL E (rs.map fun r=>A.d (.lit r)) vs->repL E' (rs.map fun r=>A.d (.lit r)) vs:=by
  intro rs
  induction rs with
  | nil=>intro vs h;simpa [repL] using h
  | cons r rs ih=>
    intro vs h
    simp only [List.map_cons,repL] at h ⊢
    obtain ⟨u,us,e,h1,h2⟩:=h
    exact ⟨u,us,e,by simpa only [A.rep,D.rep] using h1,ih us h2⟩
 unfold lits at h ⊢
 simp only [A.rep] at h ⊢
 obtain ⟨vs,e,h1,h2⟩:=h
 exact ⟨vs,e,key rs vs h1,h2⟩
theorem FnCall.pureV {P:Program} {f:FuncId} {as xs:List A} {h:Nat→Option Ob} {rs:List Value} (rd:List Nat) (ac:ACall P f xs [] (lits rs) []) (hz: ∀h2,(∀i∈rd,h2 i=h i)→jr h2 as xs):FnCall P f as h ⟨True,lits rs,[],rd⟩ where
 fn:=ac.fn
 keyed:=by simp [z2]
 calls:=fun h2 hr2 cx β w vs rel hvs=>by
  have hx:=hz h2 hr2 cx β w vs rel hvs
  have e0:lookO []=fun _=>none:=by funext o;rfl
  have hX0: ∀b i,¬Xh (fun _=>none) (lookO []) b i:=by rintro b i ⟨o,ob,h1,_⟩;simp [lookO] at h1
  have relc:Rel ⟨w,fun _ _=>False,Xh (fun _=>none) (lookO []),fun _=>none,lookO []⟩ (fun _=>none) (lookO []) w:=by
   refine ⟨fun o=>(by simp [lookO]),fun o ob bo h1 _=>(by simp [lookO] at h1),fun o o' b h1 _=>(by cases h1),fun o b i h1=>(by cases h1),fun b i h1=>False.elim h1,Ev.refl _ _,fun b i h1=>(hX0 b i h1).elim,fun o ob h1=>(by simp [lookO] at h1),fun o h1=>(by simp [lookO] at h1),fun g row hg=>?_,fun g hg=>?_,rel.tsz⟩
   ·have:=rel.tab g row hg
    rw [e0]
    exact rowAt_mono vY (vY g) row 0 this
   ·rw [e0]
    exact (rel.gi g hg).imp fun _=>vY _ _ _
  refine Calls.mono (ac.calls (fun _ _=>False) (fun _=>none) w vs relc (by rw [e0];exact hx)) fun en w' hen=>?_
  obtain ⟨v,β',rfl,R',hres⟩:=hen
  have evw:Ev (fun _ _=>False) w w':=by
   have:=R'.ev
   exact Ev.mono this fun b i _ q=>hX0 b i q
  obtain ⟨r1,L1⟩:=rel.step (β':=β) (h':=h2) (w':=w') (Ev.mono evw fun _ _ _ q=>False.elim q) rel.dom (fun o ob ho=>⟨ob,ho,Ob.grow_refl _ _⟩) (fun o b hb=> .inl hb) rel.inj (fun b i q=> .inl q)
   (fun o ob bo h1 h3=> .inl ⟨h1,h3,fun b hb=>evw.same (rel.lt (hb ▸ h3)) fun _ q=>q⟩)
  refine ⟨v,β,rfl,by simpa [upds] using r1,by simpa [upds] using L1,?_⟩
  exact lits_rep hres
section
variable {P:Program} {tt:Types} {ops:Array Oper} {dr:Bool} {rest:List Oper} {log:List Foot} {K:SL->Prop}
theorem vQ {f:FuncId} {as caps xs:List A} {d:Option Nat} {t:List (Nat×A)} {o:List (Nat×Ob)} {rs:List Value} (rd:List Nat) (ac:ACall P f xs [] (lits rs) []) (hz: ∀h2,(∀i∈rd,h2 i=lookO o i)->jr h2 (as++caps) xs)
 (h:effx P tt ops dr (some ⟨True,lits rs,[],rd⟩) d rest log K ⟨t,o⟩):vR P tt ops dr (.clo f caps) as d rest log K ⟨t,o⟩:=
 callx_fn (FnCall.pureV rd ac hz) rfl h
end
section
variable {P:Program} {tt:Types} {ops:Array Oper} {dr:Bool} {rest:List Oper} {log:List Foot} {K:SL->Prop}
theorem uI {l l0:Nat} {as:List A} {d:Option Nat} {t:List (Nat×A)} {o:List (Nat×Ob)} (rn:List (Nat×Nat)) {xs:List A} {rd:List Nat} {cas:List A} {os os':List (Nat×Ob)} {cres:A}
 (hz:View (lookO o) as xs rd) (ac:AYield P l0 cas os cres os') (hl0:inO os l0=true) (hl:ren1 rn l0=l) (hargs:renL (ren1 rn) cas=xs) (hcl:closedL (inO os) cas=true)
 (hos:hosL (lookO o) (ren1 rn) (inO os) os) (hid:idsOk (ren1 rn) (lookO o) (os.map (·.1)) (os'.map (·.1)))
 (h:effx P tt ops dr (some ⟨True,cres.ren (ren1 rn),os'.map (fun p=>(ren1 rn p.1,p.2.ren (ren1 rn))),rd++os'.map (fun p=>ren1 rn p.1)⟩) d rest log K ⟨t,o⟩):
 vR P tt ops dr (.xo true l) as d rest log K ⟨t,o⟩:=by
 obtain ⟨i1,⟨i2,i2'⟩,i3⟩:=hid
 have i1': ∀o,o∈os.map (·.1)->o∈os'.map (·.1)/\hdd o=true:=fun o ho=>by
  have:=List.all_eq_true.1 i1 o ho
  simpa using this
 have h:=h.2
 subst hl
 refine ⟨_,⟨?_,?_⟩,h⟩
 ·refine GCall.ofV (g:=⟨xs,[],rd,True⟩) (C:=fun β args w R=> ∀b,β l0=some (some b)→YieldRun P b args w R) (C':=fun β args w R=> ∀b,β (ren1 rn l0)=some (some b)→YieldRun P b args w R) (fun _ _ _ _ _ hc hm b hb=>YieldRun.mono (hc b hb) hm)
   (fun h2 hr cx β w vs rel hv=>⟨rel,Env.Le.refl _,hz h2 hr cx β w vs rel hv⟩) ac (ren1 rn) (fun β βc args w R hβ hc b hb=>hc b ((hβ l0 hl0).trans hb)) hargs hcl (fun x ob hx=>j5 os hos x ob hx) (fun x hx=>?_) (fun x y hx hy=>?_) (fun x hx hn=>?_) (fun x hx=>?_) ?_
  ·rw [yT] at hx ⊢;exact (i1' x hx).1
  ·rw [yT] at hx hy
   exact wz _ i2 x hx y hy
  ·rw [yT] at hx
   rcases i3 x hx with q | q
   ·rw [<-yT] at q;rw [q] at hn;cases hn
   ·exact q
  ·rw [yT] at hx;exact (i1' x hx).2
  ·exact i2'
 ·exact fun p hp=>List.mem_append.2 (.inr (by simp only [List.mem_map] at hp ⊢;obtain ⟨q,hq,rfl⟩:=hp;exact ⟨q,hq,rfl⟩))
end
end
end Go.Am
