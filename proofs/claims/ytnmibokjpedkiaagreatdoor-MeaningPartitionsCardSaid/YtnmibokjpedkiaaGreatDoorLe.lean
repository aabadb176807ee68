/- Made queries answer as specified (part Le) -/
import Derived.Test.YtnmibokjpedkiaaGreatDoorLd
import Derived.HandedShaped
import Derived.Handed
set_option linter.all false
namespace Go.Am
section
variable [T:Tab]
open Go.ChangeShapes Go.WideShapes Go.ChangeAt Go.RowKit
def crep (R:Rd):List D->List Value->Prop
 | [],[]=>True
 | x::xs,v::vs=>(x.rep R v/\one v=true)/\crep R xs vs
 | _,_=>False
theorem crep_rowAt {R:Rd} {C:Nat->Value->Prop}: ∀{xs:List D} {vs:List Value} (k:Nat),crep R xs vs->(∀j u,vs[j]? =some u->C (k+j) u)->rowAt R C k xs
 | [],[],_,_,_=>by simp [rowAt]
 | x::xs,v::vs,k,h,hc=>by
   simp only [crep] at h;simp only [rowAt];exact ⟨⟨v,hc 0 v rfl,h.1.1⟩,crep_rowAt (k+1) h.2 fun j u hj=>by have:=hc (j+1) u (by simpa using hj);rwa [show k+(j+1)=k+1+j by omega] at this⟩
 | [],_::_,_,h,_=>h.elim
 | _::_,[],_,h,_=>h.elim
section
variable {H:Type} {enc:TypeId×Value->H} {P:Program} {w:World} {base b0:Nat} {spare:Nat->Bool} {held:Bool} {t e:TypeId} {fuel:Nat} {cs:List Value} {x:DataW H×List MemPlace}
end
def qT (P:Program) (t:TypeId) (tys:List TypeId):Bool:=match P.underlying t with
 | some (.struct fs)=>fs.toList.map (·.type)==tys&&P.cellsOf t==fs.size&&(List.range fs.size).all fun i=>match fs[i]? with | some f=>f.offset==i&&P.cellsOf f.type==1 | none=>true
 | _=>false
theorem crep_3 {R:Rd} {a b c:D} {c0 c1 c2:Value} {cs:List Value} (hl:cs.length=3) (e0:cs[0]? =some c0) (e1:cs[1]? =some c1) (e2:cs[2]? =some c2) (r0:crep R [a] [c0]) (r1:crep R [b] [c1]) (r2:crep R [c] [c2]):crep R [a,b,c] cs:=by
 match cs,hl with
 | [x,y,z],_=>simp at e0 e1 e2;subst e0;subst e1;subst e2;exact ⟨r0.1,r1.1,r2.1,trivial⟩
theorem returns_and_shaped {H:Type} {enc:TypeId×Value->H} {a:Assume} {C:Checked} {os:Os} {f:FuncId} {fn:Func} {s:ChangeSpec} {conds:List PathCond} {apart fresh handsOn again:Bool} {X:World->Array Value->Prop}
 (hX: ∀(w w':World) (args:Array Value),w.heap=w'.heap->X w args->X w' args)
 (own:ownKnob C.prog.godebug=none) (started:os.Started) (noInit:C.prog.inits.idxOf? f=none) (hfn:C.prog.funcs[f]? =some fn)
 (witness: ∃(w:World) (tape:Tape) (i:Input),w.os=os/\(w.forCall tape i).Shaped C.prog/\i.vars=[]/\Input.okWide C.prog (w.forCall tape i) .any w.heap.size f i/\
   ((s.pre enc C.prog fn conds apart (w.forCall tape i).memory i.args/\X (w.forCall tape i).memory i.args)/\sizedMet enc C.prog fn (OpenSpec.ofChange s) apart (w.forCall tape i).memory i.args)/\a.holds C.prog (lone (Frame.enter C.prog f i.args .normal) [] (w.forCall tape i)))
 (contract: ∀(W:World) (base:Nat) (args:Array Value) (ds gs:List (DataW H)) (before:List MemPlace),
   (∀(j:Nat) t v,fn.params[j]? =some t->args[j]? =some v->Value.okWide C.prog W .any base t v)->
   DataW.Whole enc C.prog fn.params.toList s.vars apart W args.toList ds gs before->X W args->W.ShapedOpen C.prog->
   Calls C.prog f args W fun e W'=> ∃v,e= .returned v/\s.post enc C.prog fn apart fresh handsOn again W args v W'):
 ReturnsInHanded a C os f .any (fun w args=>(s.pre enc C.prog fn conds apart w args/\X w args)/\sizedMet enc C.prog fn (OpenSpec.ofChange s) apart w args) (s.post enc C.prog fn apart fresh handsOn again):=by
 refine returnsInHanded_of_calls own started noInit witness ?_;intro w tape i _ hsh _ hok hpre hholds;obtain ⟨_,_,_,fn',hfn',_,_,_,_,hval⟩:=hok;have e:fn'=fn:=Option.some.inj (hfn'.symm.trans hfn);subst e;obtain ⟨⟨⟨ds,gs,before,hw,hc⟩,hx⟩,hz⟩:=hpre;have hw':=DataW.Whole.of_heap (w':=w.forCall tape i) (by rfl) hw;refine (contract (w.forCall tape i) w.heap.size i.args ds gs before hval hw' (hX _ _ _ (by rfl) hx) hsh).mono fun e W' ⟨v,he,hp⟩=>?_;subst he;exact ChangeSpec.post_blind hp
end
section
variable [T:Tab]
theorem kK {R:Rd} {C:Nat->Value->Prop}: ∀(xs:List D) (k:Nat),(∀j x,xs[j]? =some x-> ∃u,C (k+j) u/\x.rep R u)->rowsAt R C 1 k (xs.map fun x=>[x])
 | [],_,_=>trivial
 | x::xs,k,h=>by
   refine ⟨rfl,⟨h 0 x rfl,trivial⟩,kK xs (k+1) fun j y hy=>?_⟩;have:=h (j+1) y (Zc hy);rwa [show k+(j+1)=k+1+j from Za] at this
theorem Rel.vsOut {cx:Cx} {β:UK} {h:UJ} {w:World} (r:Rel cx β h w) (dom:Nat->Bool) (hc: ∀o ob,dom o=true->h o=some ob->ob.closed dom=true)
 (hent: ∀o,hdd o=true->(h o).isSome=true->dom o=true) {q n:Nat} {xs:List D} (hq:h q=some (.var (xs.map .d))) (hd:dom q=false) (hn:n=xs.length) {v:Value}
 (hv:(A.vs q n).rep (zj cx.Xo β h w) v):
 (D.sl 1 (xs.map fun x=>[x])).rep (zj cx.Xo (fun o=>if dom o then β o else none) (fun o=>if dom o then h o else none) w).R v:=by
 obtain ⟨_,S⟩:=r.drop dom hc (fun o g1 g2=>hent o (r.big o g1) g2);simp only [A.rep] at hv;obtain ⟨b,cs,hb,hh,rfl⟩:=hv;have hob:=r.obj q _ _ hq hb;simp only [Ob.rep] at hob;obtain ⟨b',c,el,e1,g2,g3,g4⟩:=hob;cases e1;simp only [D.rep];refine ⟨_,n,by rw [Y2,hn],by rw [Y2,hn];exact Ys _,fun e=>(by cases e),fun a' ha=>?_⟩;cases ha;refine ⟨fun _=>rfl,kK xs 0 fun j x hx=>?_⟩;have hx2:(xs.map A.d)[j]? =some (.d x):=by rw [List.getElem?_map,hx];rfl
 obtain ⟨u,hu1,hu2⟩:=uu _ _ j _ g3 hx2;simp only [A.rep] at hu2;refine ⟨u,⟨r.out q b _ hb,?_,?_⟩,D.rep_mono S.R _ _ hu2⟩
 ·rintro ⟨o,ob,h1,h2,h3⟩;by_cases hdo:dom o=true
  ·simp only [hdo,if_true] at h1 h2;have:=r.inj o q b h2 hb;rw [this,hd] at hdo;cases hdo
  ·simp [hdo] at h1
 ·simp only [World.cell?,g2,YW];simpa using hu1
theorem ret_vs1 {p:Prop} {t:UL} {o os':UM} {q n:Nat} {xs:List D} {R:A} (hp:p) (hq:lookO o q=some (.var (xs.map .d))) (hd:inO os' q=false) (hn:n=xs.length)
 (hR:R= .agg [.d (.sl 1 (xs.map fun x=>[x]))]) (ho:keepO (lookO o) (inO os') os') (hin:keepIn (inO os') o):retx (some (p,.agg [.vs q n])) ⟨t,o⟩ R os':=by
 refine ⟨hp,?_⟩;subst hR;intro cx N a w ⟨β,h1,h2,h3,h4⟩;have hcl: ∀o' ob,inO os' o'=true->lookO o o'=some ob->ob.closed (inO os')=true:=fun o' ob hd hob=>by
  unfold inO at hd;obtain ⟨ob',hob'⟩:=YD.1 hd;obtain ⟨g1,g2⟩:=vZ os' ho o' ob' hob';have hob2:lookO o o'=some ob:=hob;rw [hob2] at g1;cases g1;exact g2
 obtain ⟨r1,S1⟩:=h1.drop (inO os') hcl (fun o' g1 g2=>xT o hin o' (h1.big o' g1) g2);have hv:=h2 0;simp only [lookT,if_true,A.rep] at hv;obtain ⟨vs,hv1,hv2,hv3⟩:=hv;simp only [repL] at hv2;obtain ⟨u,us,rfl,hu,rfl⟩:=hv2;have hx:=h1.vsOut (inO os') hcl (xT o hin) hq hd hn hu;have he:(fun o'=>if inO os' o' then lookO o o' else none)=lookO os':=by
  funext o'
  unfold inO;cases hl:lookO os' o' with
  | none=>simp
  | some ob=>simp;exact (vZ os' ho o' ob hl).1
 simp only [he] at r1 S1 hx;have h4':=MarksOk.drop (h:=lookO o) (dom:=inO os') h4 (xT o hin);rw [he] at h4';refine ⟨_,r1,fun j=>?_,h3,h4'⟩;show (lookT [(0,_)] j).rep _ _;simp only [lookT];by_cases hj:0=j
 ·subst hj;rw [if_pos rfl];simp only [A.rep];refine ⟨[u],hv1,?_,hv3⟩;simp only [repL];exact ⟨u,[],rfl,by simpa only [A.rep] using hx,rfl⟩
 ·rw [if_neg hj];simp [A.rep]
theorem Weak.frzSlotL {t:UL} {o:UM} (k wd:Nat) {f:Frz} (hf:frz (lookO o) wd (lookT t k)=some f) (hs:f.side):Weak (SL.mk t o).st (SL.mk ((k,.d f.x)::t) (updO o f.upd)).st:=by
 intro cx N a w ⟨β,h1,h2,h3,h4⟩;obtain ⟨r1,L1,hx⟩:=frz_ok h1 hf hs (h2 k);simp only [SL.st] at r1 L1 hx ⊢;rw [wO] at r1 L1 hx;refine ⟨_,r1,fun j=>?_,h3,MarksOk.le L1 h4⟩;show (lookT ((k,_)::t) j).rep _ _;simp only [lookT];by_cases hj:k=j
 ·subst hj;rw [if_pos rfl];simpa [A.rep] using hx
 ·rw [if_neg hj];exact U2 L1 _ _ (h2 j)
end
section
variable [T:Tab]
def Rall (w:World):Rd:=(zj (fun _ _=>False) (fun _=>none) (fun _=>none) w).R
theorem Rall_of {cx:Cx} {β:UK} {h:UJ} {w:World}: ∀b i v,(zj cx.Xo β h w).R b i v->Rall w b i v:=
 fun b i v hr=>⟨fun q=>q,fun ⟨o,ob,h1,_⟩=>(by cases h1),hr.2.2⟩
def SeenL (h:UJ) (as xs:List A):Prop:= ∀(cx:Cx) (β:UK) (w:World) (vs:List Value),Rel cx β h w->repL (zj cx.Xo β h w) as vs->repL (zj (fun _ _=>False) (fun _=>none) (fun _=>none) w) xs vs
theorem FnCall.pure {P:Program} {f:FuncId} {as xs:List A} {h:UJ} {r:Value} (rd:List Nat) (ac:ACall P f xs [] (.d (.lit r)) []) (hz: ∀h2,(∀i∈rd,h2 i=h i)→SeenL h2 as xs):FnCall P f as h ⟨True,.d (.lit r),[],rd⟩ where
 fn:=ac.fn
 keyed:=Z3
 calls:=fun h2 hr2 cx β w vs rel hvs=>by
  have hx:=hz h2 hr2 cx β w vs rel hvs;have e0:lookO []=fun _=>none:=by funext o;rfl
  have hX0: ∀b i,¬Xh (fun _=>none) (lookO []) b i:=by rintro b i ⟨o,ob,h1,_⟩;simp [lookO] at h1
  have relc:Rel ⟨w,fun _ _=>False,Xh (fun _=>none) (lookO []),fun _=>none,lookO []⟩ (fun _=>none) (lookO []) w:=by
   refine ⟨fun o=>(by simp [lookO]),fun o ob bo h1 _=>(by simp [lookO] at h1),fun o o' b h1 _=>(by cases h1),fun o b i h1=>(by cases h1),fun b i h1=>False.elim h1,Ev.refl _ _,fun b i h1=>(hX0 b i h1).elim,fun o ob h1=>(by simp [lookO] at h1),fun o h1=>(by simp [lookO] at h1),fun g row hg=>?_,fun g hg=>?_,rel.tsz⟩
   ·have:=rel.tab g row hg;rw [e0];exact rowAt_mono Rall_of (Rall_of g) row 0 this
   ·rw [e0];exact (rel.gi g hg).imp fun _=>Rall_of _ _ _
  refine Calls.mono (ac.calls (fun _ _=>False) (fun _=>none) w vs relc (by rw [e0];exact hx)) fun en w' hen=>?_;obtain ⟨v,β',rfl,R',hres⟩:=hen;have evw:Ev (fun _ _=>False) w w':=by
   have:=R'.ev;exact Ev.mono this fun b i _ q=>hX0 b i q
  obtain ⟨r1,L1⟩:=rel.step (β':=β) (h':=h2) (w':=w') (Ev.mono evw fun _ _ _ q=>False.elim q) rel.dom (fun o ob ho=>⟨ob,ho,Uw _ _⟩) (fun o b hb=> .inl hb) rel.inj (fun b i q=> .inl q)
   (fun o ob bo h1 h3=> .inl ⟨h1,h3,fun b hb=>evw.same (rel.lt (hb ▸ h3)) fun _ q=>q⟩)
  refine ⟨v,β,rfl,by simpa [upds] using r1,by simpa [upds] using L1,?_⟩
  simpa only [A.rep,D.rep] using hres
section
variable {P:Program} {tt:Types} {ops:Array Oper} {dr:Bool} {rest:List Oper} {log:List Foot} {K:SL->Prop}
end
end
section
variable [T:Tab]
structure Agg where
 fn:Int
 arg:Ex
instance:Inhabited Agg:=⟨⟨0,default⟩⟩
def rAgg (a:Agg):List D:= .lit (.int .i64 a.fn)::rE a.arg
inductive Qr where
 | mk (op:Int) (table:ByteArray) (kind:Int) (all:Bool) (cond:Ex) (exprs:List Ex) (aggs:List Agg) (types:List Int) (rows:List (List Val)) (kids:List Qr)
def q0:Qr:= .mk 0 ByteArray.empty 0 false default [] [] [] [] []
instance:Inhabited Qr:=⟨q0⟩
namespace Qr
def op:Qr->Int | .mk a _ _ _ _ _ _ _ _ _=>a
def table:Qr->ByteArray | .mk _ a _ _ _ _ _ _ _ _=>a
def kind:Qr->Int | .mk _ _ a _ _ _ _ _ _ _=>a
def all:Qr->Bool | .mk _ _ _ a _ _ _ _ _ _=>a
def cond:Qr->Ex | .mk _ _ _ _ a _ _ _ _ _=>a
def exprs:Qr->List Ex | .mk _ _ _ _ _ a _ _ _ _=>a
def aggs:Qr->List Agg | .mk _ _ _ _ _ _ a _ _ _=>a
def types:Qr->List Int | .mk _ _ _ _ _ _ _ a _ _=>a
def rows:Qr->List (List Val) | .mk _ _ _ _ _ _ _ _ a _=>a
def kids:Qr->List Qr | .mk _ _ _ _ _ _ _ _ _ a=>a
end Qr
def yM (r:List Val):List D:=[.sl 3 (zd rV r)]
mutual
def rQ:Qr->List D
 | .mk a b c d e f g h i ks=>[.lit (.int .i64 a),.lit (.string b),.lit (.int .i64 c),.lit (.bool d)]++rE e++[.sl 6 (zd rE f),.sl 7 (zd rAgg g),.sl 1 (zd rI h),.sl 1 (zd yM i),.sl 15 (rQs ks)]
def rQs:List Qr->List (List D)
 | []=>[]
 | q::l=>rQ q::rQs l
end
theorem rQs_eq: ∀l,rQs l=zd rQ l
 | []=>by simp [rQs,zd]
 | q::l=>by simp [rQs,z6,rQs_eq l]
theorem yA (q:Qr):rQ q=[.lit (.int .i64 q.op),.lit (.string q.table),.lit (.int .i64 q.kind),.lit (.bool q.all),.lit (.int .i64 q.cond.op),.lit (.int .i64 q.cond.type),.lit (.int .i64 q.cond.num),.lit (.string q.cond.text),.lit (.int .i64 q.cond.col),.sl 6 (zd rE q.cond.kids),
 .sl 6 (zd rE q.exprs),.sl 7 (zd rAgg q.aggs),.sl 1 (zd rI q.types),.sl 1 (zd yM q.rows),.sl 15 (zd rQ q.kids)]:=by
 cases q;simp [rQ,rQs_eq,y7,Qr.op,Qr.table,Qr.kind,Qr.all,Qr.cond,Qr.exprs,Qr.aggs,Qr.types,Qr.rows,Qr.kids]
theorem yx (a:Agg):rAgg a=[.lit (.int .i64 a.fn),.lit (.int .i64 a.arg.op),.lit (.int .i64 a.arg.type),.lit (.int .i64 a.arg.num),.lit (.string a.arg.text),.lit (.int .i64 a.arg.col),.sl 6 (zd rE a.arg.kids)]:=by
 simp [rAgg,y7]
def aQ (q:Qr):A:=aD (rQ q)
theorem zW (q:Qr):aQ q= .agg [.d (.lit (.int .i64 q.op)),.d (.lit (.string q.table)),.d (.lit (.int .i64 q.kind)),.d (.lit (.bool q.all)),.d (.lit (.int .i64 q.cond.op)),.d (.lit (.int .i64 q.cond.type)),.d (.lit (.int .i64 q.cond.num)),.d (.lit (.string q.cond.text)),.d (.lit (.int .i64 q.cond.col)),.d (.sl 6 (zd rE q.cond.kids)),
 .d (.sl 6 (zd rE q.exprs)),.d (.sl 7 (zd rAgg q.aggs)),.d (.sl 1 (zd rI q.types)),.d (.sl 1 (zd yM q.rows)),.d (.sl 15 (zd rQ q.kids))]:=by
 simp [aQ,aD,yA]
end
section
variable [T:Tab]
theorem rndOk_spec {N:Nat} {ps:List Nat} {asg bd:Code} (h:rndOk N ps asg bd=true):(∀p∈ps,p<N)/\cOk N asg=true/\cOk N bd=true:=by
 simp only [rndOk,Yy] at h;exact ⟨fun p hp=>by simpa using Ua.1 h.1.1 p hp,h.1.2,h.2⟩
theorem lp_of {ks ps:List Nat} {asg bd:Code} {st:LS} {ob:Obj} {vs:List Value} (h:XK.of (.lp ks ps asg bd st) ob vs): ∃r:Loop,ob= .loop r/\vs=ks.map (fun k=>r.tmps.getD k undef)/\rndOk r.tmps.size ps asg bd=true/\r.params=ps.toArray/\r.assign=asg/\r.body=bd/\
 (match st with
  | .ready=>r.state= .ready/\r.pending=none
  | .busy=>r.state= .busy
  | .done j=>r.state= .done/\r.pending=some j
  | .over=>True):=by
 cases ob with
 | loop r=>exact ⟨r,rfl,by cases st<;>exact h⟩
 | _=>simp [XK.of] at h
def zipT:List Nat->List A->List (Nat×A)
 | k::ks,a::as=>(k,a)::zipT ks as
 | _,_=>[]
def setPs:List Nat->List A->List (Nat×A)->List (Nat×A)
 | p::ps,a::as,t=>setPs ps as ((p,a)::t)
 | _,_,t=>t
theorem zipT_rep {E:Env} {f:Nat->Value}: ∀(ks:List Nat) (as:List A),repL E as (ks.map f)-> ∀k,(lookT (zipT ks as) k).rep E (f k)
 | [],as,h,k=>by simp [zipT,lookT,A.rep]
 | k0::ks,[],h,k=>by simp [zipT,lookT,A.rep]
 | k0::ks,a::as,h,k=>by
   simp only [Y0,repL] at h;obtain ⟨u,us,e,h1,h2⟩:=h;injection e with e1 e2
   subst e1 e2;simp only [zipT,lookT];by_cases hk:k0=k
   ·subst hk;rw [if_pos rfl];exact h1
   ·rw [if_neg hk];exact zipT_rep ks as h2 k
theorem setPs_rep {E:Env}: ∀(ps:List Nat) (as:List A) (vs:List Value) (t:UL) (tmps:Array Value),repL E as vs->as.length=ps.length->(∀p∈ps,p<tmps.size)->(∀k,(lookT t k).rep E (tmps.getD k undef))->
 ∀k,(lookT (setPs ps as t) k).rep E (((ps.zip vs).foldl (fun tmps (x:Nat×Value)=>tmps.setIfInBounds x.1 x.2) tmps).getD k undef)
 | [],[],vs,t,tmps,h,_,_,ht,k=>by simpa [setPs] using ht k
 | [],a::as,vs,t,tmps,h,hl,_,ht,k=>by simp at hl
 | p::ps,[],vs,t,tmps,h,hl,_,ht,k=>by simp at hl
 | p::ps,a::as,vs,t,tmps,h,hl,hp,ht,k=>by
   simp only [repL] at h;obtain ⟨u,us,rfl,h1,h2⟩:=h;simp only [setPs,List.zip_cons_cons,List.foldl_cons];refine setPs_rep ps as us ((p,a)::t) _ h2 (Zc hl) (fun q hq=>by simpa using hp q (by simp [hq])) (fun j=>?_) k;have hpl:=hp p Zd;simp only [lookT,YP];by_cases hj:p=j
   ·subst hj;rw [if_pos rfl,Array.getElem?_setIfInBounds_self_of_lt hpl];exact h1
   ·rw [if_neg hj,Array.getElem?_setIfInBounds_ne hj];have:=ht j;rwa [YP] at this
abbrev AYield (P:Program) (o:Nat) (as:List A) (os:UM) (res:A) (os':UM):Prop:=
 GCall (fun β args w R=> ∀b,β o=some (some b)->YieldRun P b args w R) as os res os'
def rndE:Exit->Option (LS×Bool)
 | .normal=>some (.ready,true)
 | .ret=>some (.done .ret,false)
 | .exit i=>some (.done (.exit i),false)
 | _=>none
def rndK (o:Nat) (ks ps:List Nat) (asg bd:Code) (res:A) (os':UM) (e:Exit) (σ:SL):Prop:=
 match rndE e with
 | some (st,b)=> ∃cs,lookO σ.o o=some (.x (.lp ks ps asg bd .busy) cs)/\retx (some (True,.d (.lit (.bool b)))) ⟨σ.t,(o,.x (.lp ks ps asg bd st) cs)::σ.o⟩ res os'
 | none=>False
def asgK (P:Program) (tt:Types) (o:Nat) (ks ps:List Nat) (asg bd:Code) (res:A) (os':UM):Exit->SL->Prop
 | .normal,σ=> ∃cs,lookO σ.o o=some (.x (.lp ks ps asg bd .ready) cs)/\ev P tt bd (rndK o ks ps asg bd res os') ⟨σ.t,(o,.x (.lp ks ps asg bd .busy) cs)::σ.o⟩
 | _,_=>False
theorem lp_at {cx:Cx} {β:UK} {h:UJ} {w:World} (rel:Rel cx β h w) {o b:Nat} {k0 k:XK} {as0 as:List A} (h0:cx.h0 o=some (.x k0 as0)) (hb0:cx.β0 o=some (some b)) (ho:h o=some (.x k as)):
 β o=some (some b)/\ ∃ob vs,w.heap[b]? =some ob/\k.of ob vs/\repL (zj cx.Xo β h w) as vs:=by
 obtain ⟨ob',g1,g2⟩:=rel.ent o _ h0;rw [ho] at g1;cases g1;simp only [Ob.grow] at g2;have hb:β o=some (some b):=g2.1.trans hb0;have:=rel.obj o _ _ ho hb;simp only [Ob.rep] at this;obtain ⟨b',ob,vs,e,g3,g4,g5⟩:=this;cases e;exact ⟨hb,ob,vs,g3,g4,g5⟩
theorem AYield.enter {P:Program} {tt:Types} (hm:P.follows .mixedOrders=true) (T':tt.ok P) {o:Nat} {ks ps:List Nat} {asg bd:Code} {cs as:List A} {os os':UM} {res:A}
 (ho:lookO os o=some (.x (.lp ks ps asg bd .ready) cs)) (hl:as.length=ps.length) (h:ev P tt asg (asgK P tt o ks ps asg bd res os') ⟨setPs ps as (zipT ks cs),os⟩):AYield P o as os res os':=by
 intro Xo β w vs rel hr b hb;have hobj:=rel.obj o _ _ ho hb;simp only [Ob.rep] at hobj;obtain ⟨b',ob,us,e,hw,hof,hrep⟩:=hobj;cases e;obtain ⟨r,rfl,rfl,hok,hps,has,hbd,hst,hpend⟩:=lp_of hof;obtain ⟨hps1,hc1,hc2⟩:=rndOk_spec hok;have hvl:=yc _ _ hr;have hsz:vs.toArray.size=r.params.size:=by rw [hps];simp;omega
 refine ⟨r.fn,_,r.assign,r.body,run_yield hw hsz,roundIn_of_wpIn (F:=Fence.wide) trivial ?_⟩;have rel0:RelT ⟨w,Xo,Xh β (lookO os),β,lookO os⟩ r.tmps.size (⟨setPs ps as (zipT ks cs),os⟩:SL).st {tmps:=(r.params.zip vs.toArray).foldl (fun tmps (x:Nat×Value)=>tmps.setIfInBounds x.1 x.2) r.tmps,defers:=[]} w:=by
  have e1:(r.params.zip vs.toArray).foldl (fun tmps (x:Nat×Value)=>tmps.setIfInBounds x.1 x.2) r.tmps=(ps.zip vs).foldl (fun tmps (x:Nat×Value)=>tmps.setIfInBounds x.1 x.2) r.tmps:=by
   rw [hps,<-Array.foldl_toList,Array.toList_zip]
  refine ⟨β,rel,fun k=>?_,?_,MarksOk.nil _ _ _⟩
  ·rw [e1];exact setPs_rep ps as vs _ r.tmps hr hl hps1 (fun k=>zipT_rep ks cs hrep k) k
  ·rw [e1];have: ∀(l:List (Nat×Value)) (a:Array Value),(l.foldl (fun tmps (x:Nat×Value)=>tmps.setIfInBounds x.1 x.2) a).size=a.size:=by
    intro l
    induction l with
    | nil=>intro a;rfl
    | cons x l ih=>intro a;rw [List.foldl_cons,ih];simp
   exact this _ _
 rw [has];refine wpIn_mono (jZ hm T' (some b) asg _ _ h (cOkF_of hc1) _ w rel0) fun e a1 w1 hp=>?_;obtain ⟨σ1,⟨β1,q1,q2,q3,q4⟩,k1⟩:=hp;cases e with
 | normal=>
   obtain ⟨cs1,ho1,hbody⟩:=k1;obtain ⟨hb1,ob1,us1,hw1,hof1,hrep1⟩:=lp_at q1 (b:=b) ho hb ho1;obtain ⟨r1,rfl,e1,hok1,hps1',has1,hbd1,hst1,hpend1⟩:=lp_of hof1;refine ⟨_,run_beginRound hw1 hst1,?_⟩;obtain ⟨t1,L1⟩:=q1.turnX (y:= .loop {r1 with state:= .busy}) ho1 hb1 hw1 trivial trivial (k':= .lp ks ps asg bd .busy) trivial ⟨e1,hok1,hps1',has1,hbd1,rfl⟩ hrep1;have rel1:RelT ⟨w,Xo,Xh β (lookO os),β,lookO os⟩ r.tmps.size (⟨σ1.t,(o,.x (.lp ks ps asg bd .busy) cs1)::σ1.o⟩:SL).st a1 (w1.putObj b (.loop {r1 with state:= .busy})):=by
    have e2:(SL.st ⟨σ1.t,(o,.x (.lp ks ps asg bd .busy) cs1)::σ1.o⟩).o=put σ1.st.o o (some (.x (.lp ks ps asg bd .busy) cs1)):=(wt _ _ _).symm;refine ⟨β1,?_,fun k=>?_,q3,?_⟩
    ·rw [e2];exact t1
    ·rw [e2];exact U2 L1 _ _ (q2 k)
    ·rw [e2];exact MarksOk.le L1 q4
   rw [hbd];refine wpIn_mono (jZ hm T' (some b) bd _ _ hbody (cOkF_of hc2) a1 _ rel1) fun e2 a2 w2 hp2=>?_;obtain ⟨σ2,⟨β2,p1,p2,p3,p4⟩,k2⟩:=hp2;have fin: ∀(jump:Option Code) (st:LS) (bb:Bool),rndE e2=some (st,bb)→bb=jump.isNone→(∀r2:Loop,(match st with
        | .ready=>({r2 with state:=if jump.isNone then .ready else .done,pending:=jump}:Loop).state= .ready/\({r2 with state:=if jump.isNone then .ready else .done,pending:=jump}:Loop).pending=none
        | .busy=>({r2 with state:=if jump.isNone then .ready else .done,pending:=jump}:Loop).state= .busy
        | .done j=>({r2 with state:=if jump.isNone then .ready else .done,pending:=jump}:Loop).state= .done/\({r2 with state:=if jump.isNone then .ready else .done,pending:=jump}:Loop).pending=some j
        | .over=>True))->
    ∃v w',(Instr.endRound b jump).run P w2= .ok v w'/\ ∃v_1 β',Ending.returned v= .returned v_1/\Rel ⟨w,Xo,Xh β (lookO os),β,lookO os⟩ β' (lookO os') w'/\res.rep (zj Xo β' (lookO os') w') v_1:=by
    intro jump st bb hE hbb hjj;unfold rndK at k2;rw [hE] at k2;obtain ⟨cs2,ho2,hret⟩:=k2;obtain ⟨hb2,ob2,us2,hw2,hof2,hrep2⟩:=lp_at p1 (b:=b) ho hb ho2;obtain ⟨r2,rfl,e3,hok2,hps2,has2,hbd2,hst2⟩:=lp_of hof2;obtain ⟨t2,L2⟩:=p1.turnX (y:= .loop {r2 with state:=if jump.isNone then .ready else .done,pending:=jump}) ho2 hb2 hw2 trivial trivial (k':= .lp ks ps asg bd st) trivial ⟨e3,hok2,hps2,has2,hbd2,hjj r2⟩ hrep2;refine ⟨_,_,run_endRound jump hw2,?_⟩;obtain ⟨_,hwk⟩:=hret;have rel2:RelT ⟨w,Xo,Xh β (lookO os),β,lookO os⟩ 1 ⟨lookT [(0,.d (.lit (.bool bb)))],lookO ((o,.x (.lp ks ps asg bd st) cs2)::σ2.o)⟩ {tmps:= #[.bool jump.isNone],defers:=[]} (w2.putObj b (.loop {r2 with state:=if jump.isNone then .ready else .done,pending:=jump})):=by
     refine ⟨β2,?_,fun k=>?_,rfl,MarksOk.nil _ _ _⟩
     ·rw [<-wt];exact t2
     ·simp only [lookT];by_cases hk:0=k
      ·subst hk;rw [if_pos rfl,hbb];simp only [A.rep,D.rep];exact ⟨rfl,rfl⟩
      ·rw [if_neg hk];simp [A.rep]
    obtain ⟨β3,s1,s2,_,_⟩:=hwk _ 1 _ _ rel2;have:=s2 0;simp only [lookT,if_true] at this;exact ⟨_,β3,rfl,s1,Zc this⟩
   cases e2 with
   | normal=>exact fin none .ready true rfl rfl (fun _=>⟨rfl,rfl⟩)
   | ret=>exact fin (some .ret) (.done .ret) false rfl rfl (fun _=>⟨rfl,rfl⟩)
   | exit i=>exact fin (some (.exit i)) (.done (.exit i)) false rfl rfl (fun _=>⟨rfl,rfl⟩)
   | goto l=>exact k2.elim
   | panic ch=>exact k2.elim
   | outgrown=>exact k2.elim
 | exit i=>exact k1.elim
 | goto l=>exact k1.elim
 | ret=>exact k1.elim
 | panic ch=>exact k1.elim
 | outgrown=>exact k1.elim
end
section
variable [T:Tab]
section
variable {P:Program} {tt:Types} {ops:Array Oper} {dr:Bool} {rest:List Oper} {log:List Foot} {K:SL->Prop}
end
theorem Rel.other {cx:Cx} {β:UK} {h:UJ} {w:World} (r:Rel cx β h w) {b:Nat} {x y:Obj} (hw:w.heap[b]? =some x) (hx:gP x) (hy:gP y) (hb:cx.w0.heap.size<=b) (hno: ∀o,β o≠some (some b)):
 Rel cx β h (w.putObj b y)/\(zj cx.Xo β h w).Le (zj cx.Xo β h (w.putObj b y)):=by
 have hlt:b<w.heap.size:=by
  rcases YL b w.heap.size with hl | hl
  ·exact hl
  ·simp [Array.getElem?_eq_none hl] at hw
 have hset:(w.putObj b y).heap[b]? =some y:=World.putObj_heap_same hlt;have hoth: ∀k,k≠b->(w.putObj b y).heap[k]? =w.heap[k]? :=fun k hk=>World.putObj_heap_other hk;have hcell: ∀k i v,w.cell? ⟨k,i,none⟩=some v->(w.putObj b y).cell? ⟨k,i,none⟩=some v:=by
  intro k i v hc;by_cases hk:k=b
  ·subst hk;unfold World.cell? at hc;simp only [hw] at hc;cases x<;>simp at hc;exact hx.elim
  ·unfold World.cell? at hc ⊢;simp only [hoth k hk];exact hc
 have hszz: ∀(k n:Nat),(zj cx.Xo β h w).sz k n->(zj cx.Xo β h (w.putObj b y)).sz k n:=by
  rintro k n ⟨c,el,h1,h2⟩;have hk:k≠b:=fun e=>by rw [e,hw] at h1;cases h1;exact hx.elim
  exact ⟨c,el,(hoth k hk).trans h1,h2⟩
 have L:(zj cx.Xo β h w).Le (zj cx.Xo β h (w.putObj b y)):=
  ⟨fun k i v hr=>⟨hr.1,hr.2.1,hcell k i v hr.2.2⟩,fun o ob ho=>⟨ob,ho,Uw _ _⟩,hszz⟩
 refine ⟨⟨r.dom,fun o ob bo h1 h2=>?_,r.inj,r.out,r.bnd,?_,r.own,r.ent,r.big,fun g row hg=>rowAt_mono L.R (L.R g) row 0 (r.tab g row hg),fun g hg=>(r.gi g hg).imp fun _=>L.R _ _ _,fun g row hg=>?_⟩,L⟩
 ·exact Ob.rep_le L (fun k hk=>hoth k (fun e=>hno o (by rw [h2,hk,e]))) (r.obj o ob bo h1 h2)
 ·refine ⟨r.ev.os,r.ev.tape,r.ev.output,by simpa using r.ev.size,r.ev.drawn,fun k hk=>?_⟩;have hkb:k≠b:=Za;rw [hoth k hkb];exact r.ev.block k hk
 ·obtain ⟨c,el,fl,h1,h2⟩:=r.tsz g row hg;have hk:g≠b:=fun e=>by rw [e,hw] at h1;cases h1;exact hx.elim
  exact ⟨c,el,fl,(hoth g hk).trans h1,h2⟩
end
section
variable [T:Tab]
section
variable {P:Program} {tt:Types} {ops:Array Oper} {rest:List Oper} {log:List Foot} {K:SL->Prop}
theorem map_next {io om clk:Nat} {bs sn:List Nat} {es:List (Value×Value)} {d:Option Nat} {t:UL} {o:UM} (h1:lookO o io=some (.x (.mi bs clk sn) [.mp om])) (h2:lookO o om=some (.mp es (some (bs,clk))))
 (hs: ∀i k v,es[i]? =some (k,v)->i ∉ sn->rgn P tt ops false rest (⟨[io,om],[io]⟩::log) K ⟨setT d (.tup [.d (.lit (.bool true)),.d (.lit k),.d (.lit v)]) t,(io,.x (.mi bs clk (sn++[i])) [.mp om])::o⟩)
 (he:(∀i,i<es.length->i∈sn)->rgn P tt ops false rest (⟨[io,om],[]⟩::log) K ⟨setT d (.tup [.d (.lit (.bool false))]) t,o⟩):nextx P tt ops false rest log K ⟨t,o⟩ false (.xo false io) d:=by
 unfold nextx mapx;simp only [nextS,h1,h2];refine ⟨⟨trivial,⟨trivial,trivial⟩⟩,fun e hS=>?_⟩;rcases hS with ⟨i,k,v,g1,g2,rfl⟩ | ⟨g1,rfl⟩
 ·exact hs i k v g1 g2
 ·exact he g1
theorem map_entry {io om clk i:Nat} {bs sn:List Nat} {es:List (Value×Value)} {k v:Value} {d:Option Nat} {t:UL} {o:UM} (h1:lookO o io=some (.x (.mi bs clk (sn++[i])) [.mp om])) (h2:lookO o om=some (.mp es (some (bs,clk)))) (hi:es[i]? =some (k,v))
 (h:rgn P tt ops false rest (⟨[io,om],[]⟩::log) K ⟨setT d (.tup [.d (.lit k),.d (.lit v)]) t,o⟩):entryx P tt ops false rest log K ⟨t,o⟩ (.xo false io) d:=by
 unfold entryx mapx;simp only [entryS,h1,h2];refine ⟨⟨trivial,⟨⟨trivial,trivial⟩,Zd⟩⟩,fun e hS=>?_⟩;obtain ⟨j,k',v',g1,g2,rfl⟩:=hS;simp only [List.getLast?_append,List.getLast?_singleton,Option.some_or,Option.some.injEq] at g1;subst g1;rw [hi] at g2;cases g2;exact h
end
theorem Weak.mpAny {t:UL} {o:UM} (q:Nat) {es:List (Value×Value)} {st:Option (List Nat×Nat)} (hq:lookO o q=some (.mp es st)):Weak (SL.mk t o).st (SL.mk t ((q,.mp es)::o)).st:=by
 intro cx N a w ⟨β,h1,h2,h3,h4⟩;have h1':Rel cx β (lookO o) w:=h1;obtain ⟨b,hb,hrep⟩: ∃b,β q=some (some b)/\(Ob.mp es).rep (zj cx.Xo β (lookO o) w) w (some b):=by
  have hd:=h1'.dom q;rw [hq] at hd;obtain ⟨bo,hbo⟩:=YD.1 (Zc hd);have:=h1'.obj q _ _ hq hbo;simp only [Ob.rep] at this;obtain ⟨b,ens,clk,rfl,g1,g2,g3,g4⟩:=this;refine ⟨b,hbo,?_⟩;simp only [Ob.rep];exact ⟨b,ens,clk,rfl,g1,g2,g3,g4.any⟩
 obtain ⟨r1,L1⟩:=h1'.step (β':=β) (h':=put (lookO o) q (some (.mp es))) (w':=w) (Ev.refl _ _) (fun k=>by
  by_cases hk:k=q
  ·subst hk;rw [yB,hb];rfl
  ·rw [zK _ _ hk];exact h1'.dom k) (fun k x hx=>by
  by_cases hk:k=q
  ·subst hk;rw [hq] at hx;cases hx;exact ⟨_,yB _ _ _,Xz⟩
  ·exact ⟨x,by rw [zK _ _ hk,hx],Uw _ _⟩) (fun _ _ h=> .inl h) h1'.inj (fun k i hX=>by
  obtain ⟨j,x,g1,g2,g3⟩:=hX;by_cases hk:j=q
  ·subst hk;exact .inl ⟨j,_,hq,g2,trivial⟩
  ·rw [zK _ _ hk] at g1;exact .inl ⟨j,x,g1,g2,g3⟩) (fun k x bo g1 g2=>by
  by_cases hk:k=q
  ·subst hk;rw [yB] at g1;cases g1;rw [hb] at g2;cases g2;refine .inr fun L=>?_;simp only [Ob.rep] at hrep ⊢;exact hrep
  ·rw [zK _ _ hk] at g1;exact .inl ⟨g1,g2,fun _ _=>rfl⟩)
 rw [wt] at r1 L1;exact ⟨β,r1,fun k=>U2 L1 _ _ (h2 k),h3,MarksOk.le L1 h4⟩
theorem Rel.retell {cx:Cx} {β:UK} {h:UJ} {w:World} (rel:Rel cx β h w) {q:Nat} {ob ob':Ob} (hq:h q=some ob) (hg:Ob.grow (β q) (β q) ob ob') (hx: ∀i,ob'.excl i->ob.excl i)
 (hr: ∀bo,β q=some bo->(zj cx.Xo β h w).Le (zj cx.Xo β (put h q (some ob')) w)->ob'.rep (zj cx.Xo β (put h q (some ob')) w) w bo):
 Rel cx β (put h q (some ob')) w/\(zj cx.Xo β h w).Le (zj cx.Xo β (put h q (some ob')) w):=by
 refine rel.step (Ev.refl _ _) (fun k=>?_) (fun k x hk=>?_) (fun _ _ h=> .inl h) rel.inj (fun k i hX=>?_) (fun k x bo g1 g2=>?_)
 ·by_cases hk:k=q
  ·subst hk;rw [yB,rel.dom,hq];rfl
  ·rw [zK _ _ hk];exact rel.dom k
 ·by_cases hkq:k=q
  ·subst hkq;rw [hq] at hk;cases hk;exact ⟨_,yB _ _ _,hg⟩
  ·exact ⟨x,by rw [zK _ _ hkq,hk],Uw _ _⟩
 ·obtain ⟨j,x,g1,g2,g3⟩:=hX;by_cases hk:j=q
  ·subst hk;rw [yB] at g1;cases g1;exact .inl ⟨j,_,hq,g2,hx i g3⟩
  ·rw [zK _ _ hk] at g1;exact .inl ⟨j,x,g1,g2,g3⟩
 ·by_cases hk:k=q
  ·subst hk;rw [yB] at g1;cases g1;exact .inr fun L=>hr bo g2 L
  ·rw [zK _ _ hk] at g1;exact .inl ⟨g1,g2,fun _ _=>rfl⟩
theorem bag_open {P:Program} {c:Code} {K:Exit→SL→Prop} {t:UL} {o:UM} {q io n:Nat} {S:Value→Option Value} (hq:lookO o q=some (.bag S n)) (hio:lookO o io=some (.x (.bi n) [.mp q]))
 (h: ∀(es:List (Value×Value)) (bs:List Nat),bs.length=es.length->(∀x y,(x,y)∈es ↔ S x=some y)->wK P c K ⟨t,(io,.x (.mi bs n []) [.mp q])::(q,.mp es (some (bs,n)))::o⟩):wK P c K ⟨t,o⟩:=by
 have hne:io≠q:=fun e=>by rw [e,hq] at hio;cases hio
 intro ro cx N hc a w rel;obtain ⟨β,h1,h2,h3,h4⟩:=rel;have h1':Rel cx β (lookO o) w:=h1;obtain ⟨bo,hbo⟩:=YD.1 (show (β q).isSome=true by rw [h1'.dom,hq];rfl);have hrep:=h1'.obj q _ _ hq hbo;simp only [Ob.rep] at hrep;obtain ⟨b,ens,rfl,g1,g2,g3,g4⟩:=hrep;refine h (ens.toList.map fun e=>(e.key,e.val)) (ens.toList.map (·.born)) Zd g2 ro cx N hc a w ?_;obtain ⟨r1,L1⟩:=h1'.retell (ob':= .mp (ens.toList.map fun e=>(e.key,e.val)) (some (ens.toList.map (·.born),n))) hq Xz (fun _ _=>trivial) (fun bo' hb' L=>by
  rw [hbo] at hb';cases hb';simp only [Ob.rep];exact ⟨b,ens,n,rfl,g1,rfl,fun p hp=>by
   obtain ⟨e,he,rfl⟩:=Yv.1 hp;exact g3 e he,⟨g4.up,g4.lt,fun _ _ e=>by cases e;exact ⟨rfl,rfl⟩⟩⟩)
 have hio':put (lookO o) q (some (.mp (ens.toList.map fun e=>(e.key,e.val)) (some (ens.toList.map (·.born),n)))) io=some (.x (.bi n) [.mp q]):=by rw [zK _ _ hne];exact hio
 obtain ⟨bi,hbi⟩:=YD.1 (show (β io).isSome=true by rw [h1'.dom,hio];rfl);have hrepi:=r1.obj io _ _ hio' hbi;simp only [Ob.rep] at hrepi;obtain ⟨bb,ob,vs,rfl,k1,k2,k3⟩:=hrepi;obtain ⟨r2,L2⟩:=r1.retell (ob':= .x (.mi (ens.toList.map (·.born)) n []) [.mp q]) hio' (by simp [Ob.grow,XK.grow]) (fun _ _=>trivial) (fun bo' hb' L=>by
  rw [hbi] at hb';cases hb';simp only [Ob.rep];refine ⟨bb,ob,vs,rfl,k1,?_,repL_le L _ _ k3⟩;cases ob with
  | mapIter m since seen last=>
    cases m with
    | none=>simp [XK.of] at k2
    | some m=>
      obtain ⟨e1,e2,e3,e4⟩:=k2;exact ⟨e1,e2,e3,Z4 e4,fun _ h=>by cases h⟩
  | _=>simp [XK.of] at k2)
 have L:=L1.trans L2;rw [wt,wt] at r2 L;exact ⟨β,r2,fun k=>U2 L _ _ (h2 k),h3,MarksOk.le L h4⟩
end
theorem Z8 {p P0:Prop} (zf_:P0) (h:P0->p:=by intro zf_;rw [zf_];decide):p:=h zf_
theorem ZC {p:Prop} (h:p:=by rw [Yb];omega):p:=h
theorem ZD {p:Prop} (h:p:=by rw [Yh];omega):p:=h
theorem Xm {p:Prop} (h:p:=by rw [Ym];omega):p:=h
theorem XC {p:Prop} (h:p:=by simp at h ⊢;omega):p:=h
section
variable {α:Type} (le:α->α->Bool)
def zL:List α->List α
 | []=>[]
 | x::l=>List.merge [x] (zL l) le
theorem mg_l {x y:α} {a b:List α} (h:le x y=true):List.merge (x::a) (y::b) le=x::List.merge a (y::b) le:=by
 rw [List.cons_merge_cons,if_pos h]
theorem mg_r {x y:α} {a b:List α} (h:le x y=false):List.merge (x::a) (y::b) le=y::List.merge (x::a) b le:=by
 rw [List.cons_merge_cons,if_neg (Z8 h)]
variable {le}
theorem vK: ∀(n:Nat) (u1 v1 u2 v2:List α),u1.length+v1.length<=n->(∀x∈u1,∀y∈v2,le x y=true)->(∀x∈u2,∀y∈v1,le x y=false)->
 List.merge (u1++u2) (v1++v2) le=List.merge u1 v1 le++List.merge u2 v2 le
 | n,[],[],u2,v2,_,_,_=>Zd
 | n,[],y::v1,[],v2,_,_,_=>Zd
 | n,x::u1,[],u2,[],_,_,_=>Zd
 | 0,[],y::v1,x::u2,v2,h,_,_=>by simp at h
 | 0,x::u1,[],u2,y::v2,h,_,_=>by simp at h
 | 0,x::u1,y::v1,u2,v2,h,_,_=>by simp at h
 | n+1,[],y::v1,x::u2,v2,h,h1,h2=>by
   have hxy:=h2 x Zd y Zd;have ih:=vK n [] v1 (x::u2) v2 XC Zd (fun a ha b hb=>h2 a ha b (Zu hb));simp only [Ue,YN] at ih ⊢;rw [mg_r le hxy,ih];simp
 | n+1,x::u1,[],u2,y::v2,h,h1,h2=>by
   have hxy:=h1 x Zd y Zd;have ih:=vK n u1 [] u2 (y::v2) XC (fun a ha b hb=>h1 a (Zu ha) b hb) Zd;simp only [Ue,YN] at ih ⊢;rw [mg_l le hxy,ih];simp
 | n+1,x::u1,y::v1,u2,v2,h,h1,h2=>by
   simp only [YN];cases hxy:le x y with
   | true=>
     have ih:=vK n u1 (y::v1) u2 v2 XC (fun a ha b hb=>h1 a (Zu ha) b hb) h2;rw [mg_l le hxy,mg_l le hxy];simp only [YN] at ih;rw [ih,YN]
   | false=>
     have ih:=vK n (x::u1) v1 u2 v2 XC h1 (fun a ha b hb=>h2 a ha b (Zu hb));rw [mg_r le hxy,mg_r le hxy];simp only [YN] at ih;rw [ih,YN]
structure Ord (le:α->α->Bool):Prop where
 trans: ∀a b c,le a b=true->le b c=true->le a c=true
 total: ∀a b,(le a b || le b a)=true
theorem Ord.flip (o:Ord le) {a b:α} (h:le a b=false):le b a=true:=by
 have:=o.total a b;rw [h] at this;simpa using this
theorem kV (o:Ord le): ∀(n:Nat) (a b c:List α),a.length+b.length+c.length≤n→List.merge (List.merge a b le) c le=List.merge a (List.merge b c le) le
 | n,[],b,c,_=>Zd
 | n,x::a,[],c,_=>Zd
 | n,x::a,y::b,[],_=>Zd
 | 0,x::a,y::b,z::c,h=>by simp at h
 | n+1,x::a,y::b,z::c,h=>by
   simp only [Y5] at h;cases hxy:le x y with
   | true=>
     rw [mg_l le hxy];cases hyz:le y z with
     | true=>
       have hxz:=o.trans _ _ _ hxy hyz;rw [mg_l le hxz,mg_l le hyz,mg_l le hxy,<-mg_l le hyz];exact congrArg _ (kV o n a (y::b) (z::c) Zt)
     | false=>
       rw [mg_r le hyz];cases hxz:le x z with
       | true=>
         rw [mg_l le hxz,mg_l le hxz,<-mg_r le hyz];exact congrArg _ (kV o n a (y::b) (z::c) Zt)
       | false=>
         rw [mg_r le hxz,mg_r le hxz,<-mg_l le hxy];exact congrArg _ (kV o n (x::a) (y::b) c Zt)
   | false=>
     rw [mg_r le hxy];cases hyz:le y z with
     | true=>
       rw [mg_l le hyz,mg_l le hyz,mg_r le hxy];exact congrArg _ (kV o n (x::a) b (z::c) Zt)
     | false=>
       have hxz:le x z=false:=by
        cases hq:le x z with
        | false=>rfl
        | true=>
          have:=o.trans _ _ _ hq (o.flip hyz);rw [hxy] at this;cases this
       rw [mg_r le hyz,mg_r le hyz,mg_r le hxz,<-mg_r le hxy];exact congrArg _ (kV o n (x::a) (y::b) c Zt)
theorem w9 (o:Ord le): ∀a b:List α,List.merge (zL le a) (zL le b) le=zL le (a++b)
 | [],b=>by simp [zL]
 | x::a,b=>by
   rw [zL,kV o _ _ _ _ (Ys _),w9 o a b];rfl
theorem ssort_one (x:α):zL le [x]=[x]:=by simp [zL]
theorem zJ: ∀l:List α,(zL le l).Perm l
 | []=>List.Perm.refl _
 | x::l=>by
   rw [zL];refine (List.merge_perm_append le).trans ?_;exact (zJ l).cons x
theorem zI (l:List α):(zL le l).length=l.length:=(zJ l).length_eq
abbrev Asc (le:α->α->Bool) (l:List α):Prop:=l.Pairwise fun a b=>le a b=true
theorem yL (o:Ord le): ∀l:List α,Asc le (zL le l)
 | []=>List.Pairwise.nil
 | x::l=>by
   rw [zL];exact List.pairwise_merge (fun a b c=>o.trans a b c) (fun a b=>o.total a b) _ _ Zd (yL o l)
theorem gS (a b:List α):(List.merge a b le).length=a.length+b.length:=by
 rw [(List.merge_perm_append le).length_eq,Yb]
theorem mg_le {a b:List α} (h: ∀x∈a,∀y∈b,le x y=true):List.merge a b le=a++b:=by
 have:=vK (le:=le) _ a [] [] b (Ys _) h Zd;simpa using this
theorem mg_gt {a b:List α} (h: ∀x∈a,∀y∈b,le x y=false):List.merge a b le=b++a:=by
 have:=vK (le:=le) _ [] b a [] (Ys _) Zd h;simpa using this
theorem mg_in_l {x:α} {v1 v2:List α} (h1: ∀y∈v1,le x y=false) (h2: ∀y∈v2,le x y=true):List.merge [x] (v1++v2) le=v1++x::v2:=by
 have:=vK (le:=le) _ [] v1 [x] v2 (Ys _) Zd (Zc h1);rw [Ue] at this;rw [this,mg_le (a:=[x]) (b:=v2) (Zc h2)];simp
theorem mg_in_r {y:α} {u1 u2:List α} (h1: ∀x∈u1,le x y=true) (h2: ∀x∈u2,le x y=false):List.merge (u1++u2) [y] le=u1++y::u2:=by
 have:=vK (le:=le) _ u1 [] u2 [y] (Ys _) (Zc h1) Zd;rw [Ue] at this;rw [this,mg_gt (a:=u2) (b:=[y]) (Zc h2)];simp
def vp (le:α->α->Bool) (s:Nat):Nat->List α->List α
 | 0,l=>l
 | n+1,l=>if l.length<=s then zL le l else zL le (l.take s)++vp le s n (l.drop s)
theorem chunks_fuel {s:Nat} (hs:0<s): ∀(n m:Nat) (l:List α),l.length<=n->l.length<=m->vp le s n l=vp le s m l
 | 0,0,l,_,_=>rfl
 | 0,m+1,l,h1,h2=>by
   have:l=[]:=Yi Za;subst this;simp [vp,zL]
 | n+1,0,l,h1,h2=>by
   have:l=[]:=Yi Za;subst this;simp [vp,zL]
 | n+1,m+1,l,h1,h2=>by
   rw [vp,vp]
   split
   ·rfl
   ·rw [chunks_fuel hs n m _ Zt Zt]
def chk (le:α->α->Bool) (s:Nat) (l:List α):List α:=vp le s l.length l
theorem xk {s:Nat} {l:List α} (h:l.length<=s):chk le s l=zL le l:=by
 cases l with
 | nil=>rfl
 | cons x l=>rw [chk,Y5,vp,if_pos (Zc h)]
theorem qI {s:Nat} (hs:0<s) {a:List α} (b:List α) (h:a.length=s):chk le s (a++b)=zL le a++chk le s b:=by
 by_cases hb:b=[]
 ·subst hb;rw [Yw,xk Za];simp [chk,vp]
 ·have hb':0<b.length:=List.length_pos_iff.2 hb;have e:(a++b).length=(a.length+b.length-1)+1:=ZC;rw [chk,e,vp,if_neg (Z2 e),List.take_left' h,List.drop_left' h,chk,chunks_fuel hs _ _ b Za (Ys _)]
theorem wH {s:Nat} (hs:0<s): ∀(k:Nat) (a b:List α),a.length=k * s->chk le s (a++b)=chk le s a++chk le s b
 | 0,a,b,h=>by
   have:a=[]:=Yi Za;subst this;simp [chk,vp]
 | k+1,a,b,h=>by
   rw [YY,Nat.one_mul] at h;have h1:(a.take s).length=s:=ZD;have h2:(a.drop s).length=k * s:=Xm;have ha:a=a.take s++a.drop s:=(Yp s a).symm;rw [ha,Yn,qI hs _ h1,qI hs _ h1,wH hs k _ b h2,Yn]
theorem chk_pair (o:Ord le) {s:Nat} (hs:0<s) {u v:List α} (hu:u.length=s) (hv:v.length<=s): ∃x y,chk le s (u++v)=x++y/\x=zL le u/\y=zL le v/\List.merge x y le=chk le (2 * s) (u++v):=by
 refine ⟨_,_,?_,rfl,rfl,?_⟩
 ·rw [qI hs v hu,xk hv]
 ·rw [w9 o,xk ZC]
theorem chk_perm (s:Nat) (l:List α):(chk le s l).Perm l:=by
 unfold chk;generalize l.length=n
 induction n generalizing l with
 | zero=>exact List.Perm.refl _
 | succ n ih=>
   rw [vp]
   split
   ·exact zJ l
   ·refine ((zJ _).append (ih _)).trans ?_;rw [Yp]
theorem vq (s:Nat) (l:List α):(chk le s l).length=l.length:=(chk_perm s l).length_eq
end
section
variable [T:Tab]
theorem meetQ {A:Prop} {P:Program} {c:Code} {K:Exit->SL->Prop} (s:SL) (Q:Prop) (k:(∀σ:SL,Q->Weak σ.st s.st->wK P c K σ)->A) (h: ∀σ:SL,Q->Weak σ.st s.st->wK P c K σ):A:=k h
theorem meet_ab {b1 b2:Bool} {X:Prop} {P:Program} {c:Code} {K:Exit->SL->Prop} {σ1 σ2:SL} (s:SL) (hx:b1=true->b2=true->X) (h1:b1=true->b2=false->Weak σ1.st s.st) (h2:b1=false->Weak σ2.st s.st)
 (h:(¬(b1=true/\b2=true))-> ∀σ:SL,Weak σ.st s.st->wK P c K σ):vH b1 (vH b2 X (wK P c K σ1)) (wK P c K σ2):=
 ⟨fun e1=>⟨fun e2=>hx e1 e2,fun e2=>h (fun q=>by rw [e2] at q;cases q.2) _ (h1 e1 e2)⟩,fun e1=>h (fun q=>by rw [e1] at q;cases q.1) _ (h2 e1)⟩
end
section
variable [T:Tab]
def codx (P:Program) (c:Code) (K:Exit->SL->Prop) (σ:SL):Prop:=
 ∀(r:Option Nat) (cx:Cx) (N:Nat),cOkF r N c=true-> ∀(a:Act) (w:World),RelT cx N σ.st a w->c.wpIn (Fw r) 0 P (PostK cx N K) a w
def stepK (P:Program) (b:Code) (K:Exit->SL->Prop):Exit->SL->Prop
 | .normal,σ=>codx P b K σ
 | e,σ=>K e σ
def joinK (tgt:SL) (K:Exit->SL->Prop):Exit->SL->Prop
 | .normal,σ=>Weak σ.st tgt.st
 | e,σ=>K e σ
section
variable {P:Program} {tt:Types} {K:Exit->SL->Prop} {σ tgt:SL} {a b:Code}
theorem stepK_normal:stepK P b K .normal σ=codx P b K σ:=rfl
theorem stepK_ret:stepK P b K .ret σ=K .ret σ:=rfl
theorem stepK_exit (i:Nat):stepK P b K (.exit i) σ=K (.exit i) σ:=rfl
theorem joinK_normal:joinK tgt K .normal σ=Weak σ.st tgt.st:=rfl
theorem joinK_ret:joinK tgt K .ret σ=K .ret σ:=rfl
theorem joinK_exit (i:Nat):joinK tgt K (.exit i) σ=K (.exit i) σ:=rfl
theorem uz (hm:P.follows .mixedOrders=true) (T:tt.ok P) (h:ev P tt a K σ):codx P a K σ:=fun r _ _ hc x w rel=>jZ hm T r a K σ h hc x w rel
theorem zN (hm:P.follows .mixedOrders=true) (T:tt.ok P) (h:ev P tt a (stepK P b K) σ):codx P (.seq a b) K σ:=by
 intro r cx N hc x w rel;have hc:=cOkF_seq hc;refine wpIn_seq (wpIn_mono (jZ hm T r a _ σ h hc.1 x w rel) fun e a' w' hp=>?_);obtain ⟨σ',r',k'⟩:=hp;cases e with
 | normal=>exact k' r cx N hc.2 a' w' r'
 | _=>exact ⟨σ',r',k'⟩
theorem vP (hm:P.follows .mixedOrders=true) (T:tt.ok P) (tgt:SL) (h1:ev P tt a (joinK tgt K) σ) (h2:codx P b K tgt):codx P (.seq a b) K σ:=by
 intro r cx N hc x w rel;have hc:=cOkF_seq hc;refine wpIn_seq (wpIn_mono (jZ hm T r a _ σ h1 hc.1 x w rel) fun e a' w' hp=>?_);obtain ⟨σ',r',k'⟩:=hp;cases e with
 | normal=>exact h2 r cx N hc.2 a' w' (k' cx N a' w' r')
 | _=>exact ⟨σ',r',k'⟩
end
theorem loop_genX {α:Type} {P:Program} {c:Code} {K:Exit->SL->Prop} {t:UL} {o:UM}
 (st:α->SL) (m:α->Nat) (Inv:α->Prop) (x0:α) (h0:Inv x0) (hw:Weak (SL.mk t o).st (st x0).st)
 (step: ∀(I:{x:α // Inv x}->SL),(∀x h,I ⟨x,h⟩=st x)-> ∀(x:α) (hi:Inv x),codx P c (jr I (fun x=>m x.1) ⟨x,hi⟩ K) (st x)):
 wK P c K ⟨t,o⟩:=by
 have h: ∀x:{x:α // Inv x},codx P c (jr (fun x:{x:α // Inv x}=>st x.1) (fun x=>m x.1) x K) (st x.1):=fun ⟨x,hi⟩=>step _ (fun _ _=>rfl) x hi;clear step
 revert hw
 generalize (fun x:{x:α // Inv x}=>m x.1)=m' at h;intro hw ro cx N hc a w rel;have hrel: ∀{a:Act} {w:World},(∃x:{x:α // Inv x},RelT cx N (st x.1).st a w)-> ∃x,m' x=least (fun n=> ∃x:{x:α // Inv x},m' x=n/\RelT cx N (st x.1).st a w)/\RelT cx N (st x.1).st a w:=by
  intro a w ⟨x,hx⟩;exact (q9 (p:=fun n=> ∃x:{x:α // Inv x},m' x=n/\RelT cx N (st x.1).st a w) ⟨x,rfl,hx⟩).1
 refine wpIn_loop (fun a w=> ∃x:{x:α // Inv x},RelT cx N (st x.1).st a w) (fun a w=>least (fun n=> ∃x:{x:α // Inv x},m' x=n/\RelT cx N (st x.1).st a w)) ⟨⟨x0,h0⟩,hw cx N a w rel⟩ fun a w hI=>?_;obtain ⟨x,hx1,hx2⟩:=hrel hI;refine wpIn_mono (h x ro cx N hc a w hx2) fun e a' w' hp=>?_;obtain ⟨σ',r',k'⟩:=hp;cases e with
 | normal=>
   obtain ⟨y,hy1,hy2⟩:=k';have hr:=hy2 cx N a' w' r';refine ⟨⟨y,hr⟩,?_⟩;have:=(q9 (p:=fun n=> ∃x:{x:α // Inv x},m' x=n/\RelT cx N (st x.1).st a' w') ⟨y,rfl,hr⟩).2 (m' y) ⟨y,rfl,hr⟩;rw [<-hx1];omega
 | _=>exact ⟨σ',r',k'⟩
theorem ACall.enterX {P : Program} {tt : Types} (T : tt.ok P) {f : FuncId} {fn : Func} {c : Code} {as : List A} {os os' : List (Nat × Ob)} {res : A} (hf : P.funcs[f]? = some fn) (hname : (fn.name == "runtime.NumGoroutine") = false) (hb : fn.body = some c)
 (N:Nat) (hNn:fn.ntmps=N) (hN:as.length<=N) (hc:cOk N c=true) (rs:List ResultVar) (hrs:fn.results.toList=rs) (h:codx P c (bodyK tt rs res os') ⟨argT 0 as,os⟩) (hmk:noMk os'=true):ACall P f as os res os' where
 fn:=⟨fn,hf,hname,Z4 hb⟩
 calls:=fun Xo β w vs rel hr=>by
  have rel0:=RelT.args (M:=fn.ntmps) rel hr hNn hN;refine calls_fw (n:=0) (callsIn_of_wp hf hb trivial (wpIn_mono (h none _ N (cOkF_of (r:=none) hc) _ w rel0) fun e a' w' hp=>?_));exact Mp
theorem enterX {P:Program} {tt:Types} (T:tt.ok P) {f:FuncId} {fn:Func} {c:Code} {as:List A} {os os':UM} {res:A} {N:Nat} {ra:Array ResultVar} (hf:P.funcs[f]? =some fn)
 (hNn : fn.ntmps = N) (hrs : fn.results = ra) (h : codx P c (bodyK tt ra.toList res os') ⟨argT 0 as, os⟩) (hname : (fn.name == "runtime.NumGoroutine") = false := by exact rfl) (hb : fn.body = some c := by exact rfl)
 (hN:as.length<=N:=by exact Nat.le_of_ble_eq_true rfl) (hc:cOk N c=true:=by kernel_rfl) (hmk:noMk os'=true:=by first | rfl | (simp [noMk];done)):ACall P f as os res os':=
 ACall.enterX T hf hname hb N hNn hN hc ra.toList (congrArg Array.toList hrs) h hmk
end
attribute [push_cast] Go.Am.stepK_normal Go.Am.stepK_ret Go.Am.stepK_exit Go.Am.joinK_normal Go.Am.joinK_ret Go.Am.joinK_exit
theorem Wi {p:Prop} (h:p:=by have:=h (n+1) (by simpa using hn);rwa [show n+1+b=n+(b+1) by omega] at this):p:=h
theorem KQ{p:Prop}(h:p:=by
 subst hr0;exact ⟨none,0,rfl,Ys _,fun _=>⟨rfl,rfl⟩,fun _ ha=>by cases ha⟩):p:=h
section
variable [T:Tab]
def idxG (sz o n:Nat) (i:Int) (ob:Option Ob):Option Eff:=match ob with
 | some (.gv _ cs)=>some ⟨(0<=i/\i<n)/\n=cs.length/\sz=1,.g o n (some i.toNat),[],[o]⟩
 | _=>none
theorem idx_g (te:TI) (h:UJ) (o n:Nat) (i:Int):idxS (some te) h (.g o n none) i=idxG te.size o n i (h o):=by
 simp only [idxS,qk,idxG];exact Kv
theorem idx_G (sz o n:Nat) (i:Int) (e:Nat) (cs:List A):idxG sz o n i (some (.gv e cs))=some ⟨(0<=i/\i<n)/\n=cs.length/\sz=1,.g o n (some i.toNat),[],[o]⟩:=rfl
def loadG (tt:Types) (t n i o:Nat) (ob:Option Ob):Option Eff:=match ob with
 | some (.gv _ cs)=>match wY tt t cs i with
   | some (p,a)=>some ⟨p/\n=cs.length,a,[],[o]⟩
   | none=>none
 | _=>none
theorem load_g (tt:Types) (t:Nat) (h:UJ) (o n i:Nat):vD tt t h (.g o n (some i))=loadG tt t n i o (h o):=by
 simp only [vD,loadG];exact Kv
attribute [push_cast] idx_g idx_G load_g loadG
theorem getA_at {D E:List A} {a:A} {i:Nat} (h:D.length=i):(D++a::E)[i]? =some a:=by subst h;simp
theorem setA_at {D E:List A} {a b:A} {i:Nat} (h:D.length=i):(D++a::E).set i b=D++b::E:=by subst h;simp
def x5 (b:Nat):List (List (List D))->List A
 | []=>[]
 | r::l=> .vec b r.length::x5 (b+1) l
def u7 (e w b:Nat):List (List (List D))->List (Nat×Ob)
 | []=>[]
 | r::l=>(b,.vec e w r 0)::u7 e w (b+1) l
theorem vt: ∀(b:Nat) (ls:List (List (List D))),(x5 b ls).length=ls.length
 | _,[]=>rfl
 | b,_::l=>by simp [x5,vt (b+1) l]
theorem kO: ∀(b:Nat) (ls:List (List (List D))) (n:Nat),(x5 b ls)[n]? =ls[n]?.map fun r=> .vec (n+b) r.length
 | _,[],n=>by simp [x5]
 | b,r::l,0=>by simp [x5]
 | b,r::l,n+1=>by simp only [x5,List.getElem?_cons_succ,kO (b+1) l n];rw [show n+(b+1)=n+1+b from Za]
theorem vecsA_set (b:Nat) (ls:List (List (List D))) (n:Nat) (r:UN):(x5 b ls).set n (.vec (n+b) r.length)=x5 b (ls.set n r):=by
 apply Uc;intro j;rw [kO,List.getElem?_set,List.getElem?_set,vt,kO];by_cases hj:n=j
 ·subst hj;by_cases hn:n<ls.length<;>simp [hn]
 ·simp [hj]
theorem vecsA_app: ∀(b:Nat) (ls:List (List (List D))) (r:UN),x5 b (ls++[r])=x5 b ls++[.vec (ls.length+b) r.length]
 | b,[],r=>by simp [x5]
 | b,x::l,r=>by simp only [YN,x5,vecsA_app (b+1) l r,Y5];rw [show l.length+(b+1)=l.length+1+b by omega]
theorem qz (e w:Nat): ∀(ls:List (List (List D))) (b k:Nat),lookO (u7 e w b ls) k=if b<=k then ls[k-b]?.map fun r=> .vec e w r 0 else none
 | [],b,k=>by simp [u7,lookO]
 | r::l,b,k=>by
   simp only [u7,lookO];rw [qz e w l (b+1) k];exact N3
theorem lookO_vecs_lt (e w:Nat) (ls:List (List (List D))) {b k:Nat} (h:k<b):lookO (u7 e w b ls) k=none:=by rw [qz,if_neg (by omega)]
theorem lookO_vecs_ge (e w:Nat) (ls:List (List (List D))) {b k:Nat} (h:b+ls.length<=k):lookO (u7 e w b ls) k=none:=by
 rw [qz]
 split
 ·rw [List.getElem?_eq_none Za];rfl
 ·rfl
theorem lookO_vecs_at (e w:Nat) {ls:List (List (List D))} {n:Nat} {r:UN} (b:Nat) (h:ls[n]? =some r):lookO (u7 e w b ls) (n+b)=some (.vec e w r 0):=by
 rw [qz,if_pos Za,show n+b-b=n from Za,h];rfl
theorem keepO_vecs {f:UJ} {dom:Nat->Bool} {e w:Nat}: ∀{ls:List (List (List D))} {b:Nat},(∀n r,ls[n]? =some r->f (n+b)=some (.vec e w r 0))->keepO f dom (u7 e w b ls)
 | [],b,_=>trivial
 | r::l,b,h=>by
   rw [u7];exact ⟨⟨by simpa using h 0 r rfl,rfl⟩,keepO_vecs fun n r hn=>by have:=h (n+1) r (by simpa using hn);rwa [show n+1+b=n+(b+1) by omega] at this⟩
theorem keepIn_vecs {dom:Nat->Bool} {e w:Nat}: ∀{ls:List (List (List D))} {b:Nat},(∀n,n<ls.length->hdd (n+b)=false\/dom (n+b)=true)->keepIn dom (u7 e w b ls)
 | [],b,_=>trivial
 | r::l,b,h=>by
   rw [u7];exact ⟨by simpa using h 0 (by simp),keepIn_vecs fun n hn=>Wi⟩
theorem kC {dom:Nat->Bool}: ∀{ls:List (List (List D))} {b:Nat},(∀n,n<ls.length->dom (n+b)=true)->closedL dom (x5 b ls)=true
 | [],b,_=>rfl
 | r::l,b,h=>by
   rw [x5,closedL,kC (ls:=l) (b:=b+1) fun n hn=>Wi,YT];simpa [A.closed] using h 0 Zd
theorem renL_vecs {r:Nat->Nat}: ∀{ls:List (List (List D))} {b:Nat},(∀n,n<ls.length->r (n+b)=n+b)->renL r (x5 b ls)=x5 b ls
 | [],_,_=>rfl
 | x::l,b,h=>by
   rw [x5,renL,renL_vecs (ls:=l) (b:=b+1) fun n hn=>Wi];have:=h 0 Zd;rw [YW] at this;rw [A.ren,this]
theorem renO_vecs {a c e w:Nat}: ∀{ls:List (List (List D))} {b:Nat},(∀n,n<ls.length->zT a c (n+b)=n+b)->renO a c (u7 e w b ls)=u7 e w b ls
 | [],_,_=>rfl
 | x::l,b,h=>by
   rw [u7,renO,renO_vecs (ls:=l) (b:=b+1) fun n hn=>Wi];have:=h 0 Zd;rw [YW] at this;rw [this];rfl
theorem renL_app (r:Nat->Nat): ∀as bs:List A,renL r (as++bs)=renL r as++renL r bs
 | [],bs=>rfl
 | a::as,bs=>by simp only [YN,renL,renL_app r as bs]
theorem Weak.nilG {t:UL} {o:UM} (k id e:Nat) (hk:lookT t k= .snil) (ho:lookO o id=none):Weak (SL.mk t o).st (SL.mk ((k,.g id 0 none)::t) ((id,.gv e [])::o)).st:=by
 intro cx N a w ⟨β,h1,h2,h3,h4⟩;obtain ⟨r1,L1⟩:=h1.nilX id (.gv e []) ho (fun E=> .inl ⟨rfl,rfl⟩);simp only [SL.st] at r1 L1 h2 ⊢;rw [wt] at r1 L1;refine ⟨_,r1,fun j=>?_,h3,MarksOk.le L1 h4⟩;show (lookT ((k,_)::t) j).rep _ _;simp only [lookT];by_cases hj:k=j
 ·subst hj;have:=h2 k;rw [hk] at this;simp only [A.rep] at this;rw [if_pos rfl];simp only [A.rep,zj];exact ⟨e,[],by simp [lookO],Zd,Z4 this,fun _=> .inl ⟨Zd,this⟩⟩
 ·rw [if_neg hj];exact U2 L1 _ _ (h2 j)
theorem Rel.gvOut {cx:Cx} {β:UK} {h:UJ} {w:World} (r:Rel cx β h w) (dom:Nat→Bool) (hc: ∀o ob,dom o=true→h o=some ob→ob.closed dom=true)
 (hent: ∀o,hdd o=true->(h o).isSome=true->dom o=true) {q n e e2 b0:Nat} {ls:List (List (List D))} (hq:h q=some (.gv e (x5 b0 ls))) (hd:dom q=false) (hn:n=ls.length)
 (hls: ∀j rows,ls[j]? =some rows->h (j+b0)=some (.vec e2 1 rows 0)/\dom (j+b0)=false) {v:Value}
 (hv:(A.g q n none).rep (zj cx.Xo β h w) v):
 (D.sl 1 ((ls.map (D.sl 1)).map fun x=>[x])).rep (zj cx.Xo (fun o=>if dom o then β o else none) (fun o=>if dom o then h o else none) w).R v:=by
 obtain ⟨_,S⟩:=r.drop dom hc (fun o g1 g2=>hent o (r.big o g1) g2);have hR: ∀o b,β o=some (some b)->dom o=false-> ∀i u,w.cell? ⟨b,i,none⟩=some u->(zj cx.Xo (fun o=>if dom o then β o else none) (fun o=>if dom o then h o else none) w).R b i u:=by
  intro o b hb hdo i u hu;refine ⟨r.out o b i hb,?_,hu⟩;rintro ⟨o',ob,h1,h2,h3⟩;by_cases hdo':dom o'=true
  ·simp only [hdo',if_true] at h1 h2;have:=r.inj o' o b h2 hb;rw [this,hdo] at hdo';cases hdo'
  ·simp [hdo'] at h1
 simp only [D.rep];rcases g_live hq (by rw [vt];exact hn) hv with ⟨hb,rfl⟩ | ⟨b,cap,hb,rfl,hcap,_,_⟩
 ·have hr0:ls=[]:=by
   rcases r.obj q _ _ hq hb with hd | ⟨_,_,_,_,hd,_⟩
   ·have:=congrArg List.length hd.2;rw [vt] at this;exact Yi this
   ·cases hd
  exact KQ
 ·rcases r.obj q _ _ hq hb with hd' | ⟨b',c,vs,tl,e1,g2,g3,g4,g5⟩
  ·cases hd'.1
  cases e1;subst hn;refine ⟨some ⟨b,0,none⟩,cap,Zd,Zc hcap,fun e=>(by cases e),fun a' ha=>?_⟩;cases ha;refine ⟨fun _=>rfl,kK (ls.map (D.sl 1)) 0 fun j x hx=>?_⟩;rw [List.getElem?_map] at hx;cases hlj:ls[j]? with
  | none=>rw [hlj] at hx;cases hx
  | some rows=>
    rw [hlj] at hx;cases hx;obtain ⟨k1,k2⟩:=hls j rows hlj;obtain ⟨u,hu1,hu2⟩:=uu _ _ j (.vec (j+b0) rows.length) g4 (by rw [kO,hlj];rfl);refine ⟨u,hR q b hb hd _ u ?_,?_⟩
    ·have:c.toList[j]? =some u:=by rw [g3,List.getElem?_append_left (List.getElem?_eq_some_iff.1 hu1).1];exact hu1
     simp only [World.cell?,g2,YW];simpa using this
    ·simp only [D.rep];rcases uo k1 rfl hu2 with ⟨hb2,rfl⟩ | ⟨b2,cap2,hb2,rfl,hcap2,_,_⟩
     ·have hr0:rows=[]:=by
       have:=r.obj _ _ _ k1 hb2;simp only [Ob.rep] at this;obtain ⟨_,_,hd | ⟨_,_,hd,_⟩⟩:=this
       ·exact hd.2
       ·cases hd
      exact KQ
     ·have:=r.obj _ _ _ k1 hb2;simp only [Ob.rep] at this;obtain ⟨_,_,hd | ⟨b3,c2,e1,f2,f3,_⟩⟩:=this
      ·cases hd.1
      cases e1;refine ⟨_,cap2,rfl,hcap2,fun e=>(by cases e),fun a' ha=>?_⟩;cases ha;refine ⟨fun _=>rfl,rowsAt_mono S.R (fun i u hu=>hR _ b2 hb2 k2 i u ?_) rows 1 0 f3⟩;simp only [World.cell?,f2];simpa using hu
theorem Weak.keepG {t:Nat->A} {l:UM} {σ:SL} (k:Nat) {q n e e2 b0:Nat} {ls:List (List (List D))} (hk:t k= .g q n none) (hq:lookO l q=some (.gv e (x5 b0 ls))) (hd:inO σ.o q=false) (hn:n=ls.length)
 (hls: ∀j rows,ls[j]? =some rows->lookO l (j+b0)=some (.vec e2 1 rows 0)/\inO σ.o (j+b0)=false)
 (ht:keepT t (inO σ.o) σ.t) (ho:keepO (lookO l) (inO σ.o) σ.o) (hin:keepIn (inO σ.o) l):Weak ⟨t,lookO l⟩ (SL.mk ((k,.d (.sl 1 ((ls.map (D.sl 1)).map fun x=>[x])))::σ.t) σ.o).st:=by
 intro cx N a w ⟨β,h1,h2,h3,h4⟩;have hcl: ∀o ob,inO σ.o o=true->lookO l o=some ob->ob.closed (inO σ.o)=true:=fun o ob hd hob=>by
  unfold inO at hd;obtain ⟨ob',hob'⟩:=YD.1 hd;obtain ⟨g1,g2⟩:=vZ σ.o ho o ob' hob';have hob2:lookO l o=some ob:=hob;rw [hob2] at g1;cases g1;exact g2
 obtain ⟨r1,S1⟩:=h1.drop (inO σ.o) hcl (fun o g1 g2=>xT l hin o (h1.big o g1) g2);have hv:=h2 k;rw [show (St.mk t (lookO l)).t k= .g q n none from hk] at hv;have hx:=h1.gvOut (inO σ.o) hcl (xT l hin) hq hd hn hls hv;have he:(fun o=>if inO σ.o o then lookO l o else none)=lookO σ.o:=JY;simp only [show (St.mk t (lookO l)).o=lookO l from rfl] at r1 S1 hx;rw [he] at r1 S1 hx;have h4':=MarksOk.drop (h:=lookO l) (dom:=inO σ.o) h4 (xT l hin);rw [he] at h4';refine ⟨_,r1,fun j=>?_,h3,h4'⟩;show (lookT ((k,_)::σ.t) j).rep _ _;simp only [lookT];by_cases hj:k=j
 ·subst hj;rw [if_pos rfl];exact hx
 ·rw [if_neg hj];rcases keepT_spec σ.t ht j with q | ⟨q,hc⟩
  ·rw [q];simp [A.rep]
  ·rw [q];exact A.rep_sub S1 _ _ hc (h2 j)
end
end Go.Am
