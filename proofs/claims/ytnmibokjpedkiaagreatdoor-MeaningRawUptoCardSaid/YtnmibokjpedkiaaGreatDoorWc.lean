/- Queries over made schemas answer as specified (part Wc) -/
import Derived.Test.YtnmibokjpedkiaaGreatDoorWb
set_option maxRecDepth 100000
set_option maxHeartbeats 4000000
set_option linter.all false
namespace Go.Proofs.YtnmibokjpedkiaaGreatDoor
open Go.Am
section
attribute [local simp, local push_cast] Wq yd zL aFk vT rTab rRow
def badV (c:Col) (v:Val):Bool:= !zJ v || ((v.kind !=0)&&(v.kind !=c.type))
def xj (t:Tbl) (r:Row):Int:=if (r.length:Int)≠t.columns.length then 9 else if (List.range r.length).all (fun j=> !badV (t.columns.getD j default) (r.getD j default)) then 0 else 4
def tabF (t:Tbl) (l:Tab2):Int:=if (l.length:Int)>200 then 8 else ferr (xj t) l
def uX (s:Sch) (i:Inst) (n:Nat):Int:=tabF (s.getD n default) (i.getD n default)
def vr (s:Sch) (i:Inst):Int:=
 if wz s≠0 then wz s else if (i.length:Int)≠s.length then 9 else ui (uX s i) s.length
structure SmallI (i:Inst):Prop where
 len:i.length<=1000
 tab: ∀l∈i,l.length<=1000
 row: ∀l∈i,∀r∈l,r.length<=1000
theorem eqN_of {a b:Nat} (h:((a:Int) !=(b:Int))=false): ¬(a:Int)≠b:=by have:=jA h;omega
theorem neN_of {a b:Nat} (h:((a:Int) !=(b:Int))=true):(a:Int)≠b:=by have:=gK h;omega
theorem c_fits (s:Sch) (inst:Inst) (hs:SmallS s) (hi:SmallI inst):ACall Tryz.prog 17 [aS s,z7 inst] [] (num (vr s inst)) []:=by
 refine zn mixed ttok Tryz.func17 Tryz.ntmps17 Tryz.results17 ?_;generalize hr:num (vr s inst)=R;have hl:=hs.len;have hli:=hi.len;refine Zn ?_;refine zf [[6]] [] (c_svalid s hs) ?_;refine Zg ?_;refine za (fun h0=>?_) fun h0=>?_
 ·have h0':wz s≠0:=Zc h0;exact zk trivial (by rw [<-hr,vr,if_pos h0'];rfl) Zb
 have h0': ¬wz s≠0:=Zc h0;refine za (fun h1=>?_) fun h1=>?_
 ·exact zk trivial (by rw [<-hr,vr,if_neg h0',if_pos (neN_of h1)];rfl) Zb
 have hlen:=jA h1;have hM:vr s inst=ui (uX s inst) s.length:=by rw [vr,if_neg h0',if_neg (eqN_of h1)]
 refine zp mixed ttok 27 [2,3,25,26] [2,3] Zv Zw s.length (fun n=> ∀i,i<n->uX s inst i=0) (fun _=>[]) (fun _=>[]) (fun i h=>absurd h (Yu _)) ?_ ?_
 ·exact Ya Zh Zh Zh
 intro I hI n hn hii;refine Zy ?_;refine za (fun h=>?_) fun h=>?_
 ·simp only [Yf] at h;have h':n<s.length:=Za;have hw:=zh h' Za;have hE:uX s inst n≠0->num (uX s inst n)=R:=fun hne=>by
   have:=kK h' hii hne;rw [<-hr,hM,this]
  have hzero:uX s inst n=0-> ∀i,i<n+1->uX s inst i=0:=fun hz i h2=>if h3:i=n then by rw [h3];exact hz else hii i Za
  have hgt:s.getD n default∈s:=zm h';have hgl:inst.getD n default∈inst:=zm Za;have hll:=hi.tab _ hgl;have hlr:=hi.row _ hgl;have hTc:=(hs.tab _ hgt).cols;unfold uX at hE hzero;generalize hT:s.getD n default=T at hE hTc hzero;generalize hL:inst.getD n default=L at hE hll hlr hzero;refine ⟨Zt,Za,?_⟩;refine za (fun h2=>?_) fun h2=>?_
  ·have hc:tabF T L=8:=if_pos (Yc h2);exact zk trivial (by rw [<-hE (Z0 hc),hc];rfl) Zb
  have hcT:tabF T L=ferr (xj T) L:=if_neg (Yb h2);rw [hcT] at hE hzero;refine ⟨Za,?_⟩;refine zp mixed ttok 45 [2,3,7,25,26,27,43,44] [2,3,7] Zv Zw L.length (fun k=> ∀i,i<k->xj T (L.getD i default)=0) (fun _=>[]) (fun _=>[]) (fun i h=>absurd h (Yu _)) ?_ ?_
  ·exact Ya Zh Zh Zh
  intro J hJ k hk hki;refine Zy ?_;refine za (fun g=>?_) fun g=>?_
  ·simp only [Yf] at g;have k':k<L.length:=Za;have hwk:=zh k' Za;have hrm:L.getD k default∈L:=zm k';have hrl:=hlr _ hrm;have hE2:xj T (L.getD k default)≠0->num (xj T (L.getD k default))=R:=fun hne=>by
    have:=xK (xj T) L k k' hki hne;rw [<-hE (by rw [this];exact hne),this]
   have hzero2:xj T (L.getD k default)=0-> ∀i,i<k+1->xj T (L.getD i default)=0:=fun hz i h2=>if h3:i=k then by rw [h3];exact hz else hki i Za
   generalize hW:L.getD k default=W at hE2 hzero2 hrl;refine ⟨Zt,?_⟩;refine za (fun h3=>?_) fun h3=>?_
   ·have hc:xj T W=9:=if_pos (neN_of h3);exact zk trivial (by rw [<-hE2 (Z0 hc),hc];rfl) Zb
   have hWl:=jA h3;have hcW:xj T W=if (List.range W.length).all (fun j=> !badV (T.columns.getD j default) (W.getD j default)) then 0 else 4:=if_neg (eqN_of h3)
   refine zp mixed ttok 57 [2,3,7,25,26,27,43,44,45,55,56] [2,3,7] Zv Zw W.length (fun j=> ∀i,i<j->(!badV (T.columns.getD i default) (W.getD i default))=true) (fun _=>[]) (fun _=>[]) (fun i h=>absurd h (Yu _)) ?_ ?_
   ·exact Ya Zh Zh Zh
   intro Q hQ j hj hji;refine Zy ?_;refine za (fun q=>?_) fun q=>?_
   ·simp only [Yf] at q;have j':j<W.length:=Za;have hwj:=zh j' Za;refine ⟨Zt,?_⟩;have hbad:badV (T.columns.getD j default) (W.getD j default)=true->num 4=R:=fun hb=>by
     have:xj T W=4:=by rw [hcW,ww (n:=j) j' (Z5 hb)];rfl
     rw [<-hE2 (Z0 this),this]
    have hgood:badV (T.columns.getD j default) (W.getD j default)=false-> ∀i,i<j+1->(!badV (T.columns.getD i default) (W.getD i default))=true:=fun hb i h2=>if h3:i=j then by rw [h3,hb];rfl else hji i Za
    refine zf [[0,0,0]] [] (ud (W.getD j default)) ?_;refine Zg ?_;refine za (fun v1=>?_) fun v1=>?_
    ·refine ⟨ze Zf,?_⟩;exact zk trivial (hbad (by rw [badV,v1,Yy])) Zb
    refine za (fun v2=>?_) fun v2=>?_
    ·refine ⟨Za,ze Zf,?_⟩;refine za (fun v3=>?_) fun v3=>?_
     ·exact zk trivial (hbad (by rw [badV,v2,v3];simp)) Zb
     ·exact zo hQ j rfl j' (hgood (by rw [badV,v1,v3];simp)) (Ze hwj) (Ze hwj) (Ze hwj) (Ze hwj)
    ·refine ⟨ze Zf,?_⟩;exact zo hQ j rfl j' (hgood (by rw [badV,v1,v2];simp)) (Ze hwj) (Ze hwj) (Ze hwj) (Ze hwj)
   ·simp only [Ye] at q;obtain rfl:j=W.length:=Za;have hz:xj T W=0:=by rw [hcW,all_range.2 hji];rfl
    exact zo hJ k rfl k' (hzero2 hz) (Ze hwk) (Ze hwk) (Ze hwk) (Ze hwk)
  ·simp only [Ye] at g;obtain rfl:k=L.length:=Za;exact zo hI n rfl h' (hzero (yJ (xj T) L hki)) (Ze hw) (Ze hw) (Ze hw) (Ze hw)
 ·simp only [Ye] at h;obtain rfl:n=s.length:=Za;exact zk trivial (ZK hr hM (ur hii)) Zb
end
section
attribute [local simp, local push_cast] Wq yd zL aFk vT
theorem kR (l:List Int) (v:Int) (hl:l.length≤1000000000):ACall Tryz.prog 237 [ints l,num v] [] (boo (l.all fun x=>x==v)) []:=by
 refine zn mixed ttok Tryz.func237 Tryz.ntmps237 Tryz.results237 ?_;generalize hr:boo (l.all fun x=>x==v)=R;refine Zn ?_;refine zp mixed ttok 5 [0,1] [] Zv Zw l.length (fun n=> ∀i,i<n->(l.getD i default==v)=true) (fun _=>[]) (fun _=>[]) (fun i h=>absurd h (Yu _)) ?_ ?_
 ·exact Ya Zh Zh Zh
 intro I hI n hn hi;refine Zy ?_;refine za (fun h=>?_) fun h=>?_
 ·simp only [Yf] at h;have h':n<l.length:=Za;have hw:=zh h' Za;refine ⟨Zt,?_⟩;refine za (fun g=>?_) fun g=>?_
  ·have:(l.all fun x=>x==v)=false:=by
    rw [List.all_eq_false];exact ⟨_,zm h',Zc g⟩
   exact zk trivial (Zq hr this) Zb
  ·have g':(l.getD n default==v)=true:=Zc g;exact zo hI n rfl h' (fun i h2=>if h3:i=n then by rw [h3];exact g' else hi i Za) (Ze hw) (Ze hw) (Ze hw) (Ze hw)
 ·simp only [Ye] at h;obtain rfl:n=l.length:=Za;have:(l.all fun x=>x==v)=true:=by
   rw [YT];intro x hx;obtain ⟨i,h1,rfl⟩:=u7 hx;exact hi i h1
  exact zk trivial (Zq hr this) Zb
def yp (op n:Int):Bool:=
 if op<=5 then n==0 else if (((op==11 || op==13) || op==21) || op==24) || op==25 then n==1
 else if op==26 then n==3 else if op==28 then decide (n≥2) else n==2
theorem c_rkids (op n:Int):ACall Tryz.prog 132 [num op,num n] [] (boo (yp op n)) []:=by
 refine zn mixed ttok Tryz.func132 Tryz.ntmps132 Tryz.results132 ?_;generalize hr:boo (yp op n)=R;refine Zn ?_;refine za (fun h1=>?_) fun h1=>?_
 ·exact zk trivial (by rw [<-hr,yp,if_pos (Yc h1)];rfl) Zb
 have hk:yp op n=if (((op==11 || op==13) || op==21) || op==24) || op==25 then n==1 else if op==26 then n==3 else if op==28 then decide (n≥2) else n==2:=if_neg (Yb h1)
 repeat' first
  | exact zk trivial (by rw [<-hr,hk];simp only [*,Yy,Y0,Y5,Yx,Yp,if_true,if_false,boo]) Zb
  | (refine za (fun _=>?_) fun _=>?_)
theorem op_cases {op:Int} (h:isOp op=true): ∃n:Nat,n<29/\1<=n/\op=n:=by
 simp only [isOp,Ys,Yf] at h;exact ⟨op.toNat,Za,Za,Za⟩
set_option synthInstance.maxSize 4000 in
set_option synthInstance.maxHeartbeats 400000 in
theorem kids_tab0: ∀n∈List.range 29,n=0\/(n=1\/n=2\/n=3\/n=4\/n=5)/\(opTab.getD n default).kids=0\/(n=11\/n=13\/n=21\/n=24\/n=25)/\(opTab.getD n default).kids=1\/
 n=26/\(opTab.getD n default).kids=3\/n=28/\(opTab.getD n default).kids=2\/
 (n=6\/n=7\/n=8\/n=9\/n=10\/n=12\/n=14\/n=15\/n=16\/n=17\/n=18\/n=19\/n=20\/n=22\/n=23\/n=27)/\(opTab.getD n default).kids=2:=Zi
theorem kids_tab (n:Nat) (h1:n<29) (h2:1<=n):(((n:Int)<=5 ↔ (opTab.getD n default).kids=0)/\(((((n:Int)=11\/(n:Int)=13)\/(n:Int)=21)\/(n:Int)=24)\/(n:Int)=25 ↔ (opTab.getD n default).kids=1)/\
 ((n:Int)=26 ↔ (opTab.getD n default).kids=3)/\((opTab.getD n default).kids=0\/(opTab.getD n default).kids=1\/(opTab.getD n default).kids=2\/(opTab.getD n default).kids=3)/\
 ((n:Int)=28->(opTab.getD n default).kids=2)):=by
 have:=kids_tab0 n (Zc h1);generalize (opTab.getD n default).kids=k at this;omega
theorem qe {e:Ex} (h:isOp e.op=true):yp e.op e.kids.length=yQ e:=by
 obtain ⟨n,h1,h2,h3⟩:=op_cases h;have hf:(yN e.op).kids=(opTab.getD n default).kids:=by rw [yN,h,if_pos rfl,opAt,h3,YH]
 obtain ⟨a1,a2,a3,a4,a5⟩:=kids_tab n h1 h2;rw [yQ,h,hf,Yj,yp,h3];generalize (opTab.getD n default).kids=k at a1 a2 a3 a4 a5;generalize e.kids.length=m;rw [Ud];simp only [Un,Ys,beq_iff_eq,Yf];by_cases b1:(n:Int)<=5
 ·rw [if_pos b1];simp only [beq_iff_eq];have:=a1.1 b1;omega
 ·rw [if_neg b1];by_cases b2:((((n:Int)=11\/(n:Int)=13)\/(n:Int)=21)\/(n:Int)=24)\/(n:Int)=25
  ·rw [if_pos b2];simp only [beq_iff_eq];have:=a2.1 b2;omega
  ·rw [if_neg b2];by_cases b3:(n:Int)=26
   ·rw [if_pos b3];simp only [beq_iff_eq];have:=a3.1 b3;omega
   ·rw [if_neg b3];have c1: ¬k=0:=fun e=>b1 (a1.2 e);have c2: ¬k=1:=fun e=>b2 (a2.2 e);have c3: ¬k=3:=fun e=>b3 (a3.2 e);by_cases b4:(n:Int)=28
    ·rw [if_pos b4];simp only [Yf];have:=a5 b4;omega
    ·rw [if_neg b4];simp only [beq_iff_eq];omega
theorem c_plain (e:Ex):ACall Tryz.prog 219 [aE e] [] (boo (isOp e.op&&yh e)) []:=by
 refine zn mixed ttok Tryz.func219 Tryz.ntmps219 Tryz.results219 ?_;generalize hr:boo (isOp e.op&&yh e)=R;have he:(ByteArray.mk #[]).toList=[]:=ZX;have he2:ByteArray.empty.toList=[]:=ZX;have hh:(([]:List UInt8)==[])=true:=rfl;have h00:((0:Int)==0)=true:=rfl;have hv1:zJ ⟨1,e.num,ByteArray.empty⟩=(decide (e.num≥ -1000000000000)&&decide (e.num<=1000000000000)):=by simp [zJ,he2]
 have hv2:zJ ⟨2,e.num,ByteArray.empty⟩=((e.num==0) || (e.num==1)):=by simp [zJ,he2]
 simp -implicitDefEqProofs only [argT,he,he2,hh,h00,↓zb,push_cast,simprocAttr,tt];refine za (fun k1=>?_) fun k1=>?_
 ·have hk:e.op=1:=Zc k1;have g1:decide (e.op≥1)=true:=Z0 hk;have g2:decide (e.op<=28)=true:=Z0 hk;have hM:(isOp e.op&&yh e)=((((((e.type==1 || e.type==2) || e.type==3)&&true)&&(e.num==0))&&(e.text.toList==[]))&&(e.col==0)):=by simp [yh,isOp,okF,noT,noN,noX,noC,hk]
  refine za (fun a1=>?_) fun a1=>?_
  ·have ha:((e.type==1 || e.type==2) || e.type==3)=false:=by simp at a1 ⊢;omega
   exact zk trivial (ZK hr hM ha) Zb
  refine za (fun a2=>?_) fun a2=>?_
  ·have ha:((e.type==1 || e.type==2) || e.type==3)=false:=by simp at a2 ⊢;omega
   exact zk trivial (ZK hr hM ha) Zb
  have ha:((e.type==1 || e.type==2) || e.type==3)=true:=by simp at a1 a2 ⊢;omega
  rw [ha] at hM;clear ha a1 a2 hk k1;rw [g1,yw,g2,yw]
  repeat' first | (refine za (fun _=>?_) fun _=>?_) | exact zk trivial (by rw [<-hr,hM];simp only [*,Yj,YS,Yk,YF,boo]) Zb
 refine za (fun k2=>?_) fun k2=>?_
 ·have hk:e.op=2:=Zc k2;have g1:decide (e.op≥1)=true:=Z0 hk;have g2:decide (e.op<=28)=true:=Z0 hk;have hM:(isOp e.op&&yh e)=(((((decide (e.num≥ -1000000000000)&&decide (e.num<=1000000000000))&&(e.type==0))&&true)&&(e.text.toList==[]))&&(e.col==0)):=by rw [<-hv1];simp [yh,isOp,okF,noT,noN,noX,noC,hk]
  refine za (fun a1=>?_) fun a1=>?_
  ·have ha:decide (e.num≥ -1000000000000)=false:=by simp at a1 ⊢;omega
   exact zk trivial (ZK hr hM ha) Zb
  refine za (fun a2=>?_) fun a2=>?_
  ·have ha:decide (e.num≤1000000000000)=false:=by simp at a2 ⊢;omega
   exact zk trivial (by rw [<-hr,hM,ha,YF];rfl) Zb
  have ha:decide (e.num≥ -1000000000000)=true:=by simp at a1 ⊢;omega
  have ha2:decide (e.num<=1000000000000)=true:=by simp at a2 ⊢;omega
  rw [ha,ha2] at hM;clear ha ha2 a1 a2 hk k1 k2 hv1 hv2;rw [g1,yw,g2,yw]
  repeat' first | (refine za (fun _=>?_) fun _=>?_) | exact zk trivial (by rw [<-hr,hM];simp only [*,Yj,YS,Yk,YF,boo]) Zb
 refine za (fun k3=>?_) fun k3=>?_
 ·have hk:e.op=3:=Zc k3;have g1:decide (e.op≥1)=true:=Z0 hk;have g2:decide (e.op<=28)=true:=Z0 hk;have hM:(isOp e.op&&yh e)=((((((e.num==0) || (e.num==1))&&(e.type==0))&&true)&&(e.text.toList==[]))&&(e.col==0)):=by rw [<-hv2];simp [yh,isOp,okF,noT,noN,noX,noC,hk]
  have hT: ∀ha:((e.num==0) || (e.num==1))=true,(isOp e.op&&yh e)=((((true&&(e.type==0))&&true)&&(e.text.toList==[]))&&(e.col==0)):=fun ha=>by rw [hM,ha]
  refine za (fun a1=>?_) fun a1=>?_
  ·refine za (fun a2=>?_) fun a2=>?_
   ·have ha:((e.num==0) || (e.num==1))=false:=by simp at a1 a2 ⊢;omega
    exact zk trivial (ZK hr hM ha) Zb
   ·replace hM:=hT (by simp at a2 ⊢;omega)
    clear hT a1 a2 hk k1 k2 k3 hv1 hv2;rw [g1,yw,g2,yw]
    repeat' first | (refine za (fun _=>?_) fun _=>?_) | exact zk trivial (by rw [<-hr,hM];simp only [*,Yj,YS,Yk,YF,boo]) Zb
  ·replace hM:=hT (by simp at a1 ⊢;omega)
   clear hT a1 hk k1 k2 k3 hv1 hv2;rw [g1,yw,g2,yw]
   repeat' first | (refine za (fun _=>?_) fun _=>?_) | exact zk trivial (by rw [<-hr,hM];simp only [*,Yj,YS,Yk,YF,boo]) Zb
 refine za (fun k4=>?_) fun k4=>?_
 ·have hk:e.op=4:=Zc k4;have g1:decide (e.op≥1)=true:=Z0 hk;have g2:decide (e.op<=28)=true:=Z0 hk;have hM:(isOp e.op&&yh e)=((((zJ ⟨3,0,e.text⟩&&(e.type==0))&&(e.num==0))&&true)&&(e.col==0)):=by simp [yh,isOp,okF,noT,noN,noX,noC,hk]
  refine zf [[0,0,0]] [] (kQ ⟨3,0,e.text⟩) ?_;simp -implicitDefEqProofs only [he,he2,hh,h00,↓zb,push_cast,simprocAttr,tt];refine za (fun a1=>?_) fun a1=>?_
  ·have ha:zJ ⟨3,0,e.text⟩=false:=Zc a1;exact zk trivial (ZK hr hM ha) Zb
  have ha:zJ ⟨3,0,e.text⟩=true:=Zc a1;rw [ha] at hM;clear ha a1 hk k1 k2 k3 k4 hv1 hv2;rw [g1,yw,g2,yw]
  repeat' first | (refine za (fun _=>?_) fun _=>?_) | exact zk trivial (by rw [<-hr,hM];simp only [*,Yj,YS,Yk,YF,boo]) Zb
 refine za (fun k5=>?_) fun k5=>?_
 ·have hk:e.op=5:=Zc k5;have g1:decide (e.op≥1)=true:=Z0 hk;have g2:decide (e.op<=28)=true:=Z0 hk;have hM:(isOp e.op&&yh e)=((((true&&(e.type==0))&&(e.num==0))&&(e.text.toList==[]))&&true):=by simp [yh,isOp,okF,noT,noN,noX,noC,hk]
  clear hk k1 k2 k3 k4 k5 hv1 hv2;rw [g1,yw,g2,yw]
  repeat' first | (refine za (fun _=>?_) fun _=>?_) | exact zk trivial (by rw [<-hr,hM];simp only [*,Yj,YS,Yk,YF,boo]) Zb
 have hk1: ¬e.op=1:=Zc k1;have hk2: ¬e.op=2:=Zc k2;have hk3: ¬e.op=3:=Zc k3;have hk4: ¬e.op=4:=Zc k4;have hk5: ¬e.op=5:=Zc k5;have hM:(isOp e.op&&yh e)=((((((decide (e.op≥1)&&decide (e.op<=28))&&true)&&(e.type==0))&&(e.num==0))&&(e.text.toList==[]))&&(e.col==0)):=by
  have:yh e=((((true&&(e.type==0))&&(e.num==0))&&(e.text.toList==[]))&&(e.col==0)):=by simp [yh,okF,noT,noN,noX,noC,hk1,hk2,hk3,hk4,hk5]
  rw [this,isOp];simp only [ge_iff_le,Yj,YS,Bool.and_assoc]
 clear hk1 hk2 hk3 hk4 hk5 k1 k2 k3 k4 k5 hv1 hv2
 repeat' first | (refine za (fun _=>?_) fun _=>?_) | exact zk trivial (by rw [<-hr,hM];simp only [*,Yj,YS,Yk,YF,boo]) Zb
def zS (op:Int):Bool:=((((op==6 || op==7) || op==8) || op==9) || op==10) || op==11
def zN (op:Int):Bool:=((op==22 || op==23) || op==24) || op==25
def yi (l:List Int) (v:Int):Bool:=l.all fun x=>x==v
def zy (ts:List Int) (e:Ex) (l:List Int):Int:=
 if e.op==1 then e.type else if e.op==2 then 1 else if e.op==3 then 2 else if e.op==4 then 3 else if e.op==5 then ts.getD e.col.toNat default
 else if zS e.op then (if yi l 1 then 1 else 0)
 else if e.op==12 then (if yi l 3 then 3 else 0)
 else if e.op==13 then (if yi l 3 then 1 else 0)
 else if e.op==21 then 2
 else if zN e.op then (if yi l 2 then 2 else 0)
 else if e.op==26 then (if (l.getD 0 default==2)&&(l.getD 1 default==l.getD 2 default) then l.getD 1 default else 0)
 else if e.op==27 then (if l.getD 0 default==l.getD 1 default then l.getD 0 default else 0)
 else (if yi l (l.getD 0 default) then 2 else 0)
theorem jY {b:Bool} {p q:Prop} (h:b=true) (x:p):vn b p q:=by subst h;exact yw _ _ ▸ x
theorem c_result (ts:List Int) (e:Ex) (l:List Int) (hl:l.length≤1000000000) (hc5:e.op=5→0≤e.col∧e.col<ts.length) (hc26:e.op=26→l.length=3) (hc27:e.op=27→l.length=2)
 (hE:isOp e.op=true->5<e.op->0<l.length) (ho:isOp e.op=true):ACall Tryz.prog 220 [ints ts,aE e,ints l] [] (num (zy ts e l)) []:=by
 refine zn mixed ttok Tryz.func220 Tryz.ntmps220 Tryz.results220 ?_;generalize hr:num (zy ts e l)=R;refine Zn ?_;have hop:=hE ho;refine za (fun h1=>?_) fun h1=>?_
 ·have hv:zy ts e l=e.type:=by simp only [zy,zS,zN,yi,h1,Yy,Y0,Y5,Yx,YA,Yj,Yk,Y7,Yp,if_true,if_false]
  exact zk trivial (Zq hr hv) Zb
 refine za (fun h2=>?_) fun h2=>?_
 ·have hv:zy ts e l=1:=by simp only [zy,zS,zN,yi,h1,h2,Yy,Y0,Y5,Yx,YA,Yj,Yk,Y7,Yp,if_true,if_false]
  exact zk trivial (Zq hr hv) Zb
 refine za (fun h3=>?_) fun h3=>?_
 ·have hv:zy ts e l=2:=by simp only [zy,zS,zN,yi,h1,h2,h3,Yy,Y0,Y5,Yx,YA,Yj,Yk,Y7,Yp,if_true,if_false]
  exact zk trivial (Zq hr hv) Zb
 refine za (fun h4=>?_) fun h4=>?_
 ·have hv:zy ts e l=3:=by simp only [zy,zS,zN,yi,h1,h2,h3,h4,Yy,Y0,Y5,Yx,YA,Yj,Yk,Y7,Yp,if_true,if_false]
  exact zk trivial (Zq hr hv) Zb
 refine za (fun h5=>?_) fun h5=>?_
 ·refine ⟨hc5 (Zc h5),?_⟩;have hv:zy ts e l=ts.getD e.col.toNat default:=by simp only [zy,zS,zN,yi,h1,h2,h3,h4,h5,Yy,Y0,Y5,Yx,YA,Yj,Yk,Y7,Yp,if_true,if_false]
  exact zk trivial (Zq hr hv) Zb
 refine za (fun h6=>?_) fun h6=>?_
 ·refine jY h6 ?_;refine zf [[1],[0]] [] (kR l 1 hl) ?_;refine Zg ?_;refine za (fun g=>?_) fun g=>?_
  ·have hv:zy ts e l=1:=by simp only [zy,zS,zN,yi,h1,h2,h3,h4,h5,h6,g,Yy,Y0,Y5,Yx,YA,Yj,Yk,Y7,Yp,if_true,if_false]
   exact zk trivial (Zq hr hv) Zb
  ·have hv:zy ts e l=0:=by simp only [zy,zS,zN,yi,h1,h2,h3,h4,h5,h6,g,Yy,Y0,Y5,Yx,YA,Yj,Yk,Y7,Yp,if_true,if_false]
   exact zk trivial (Zq hr hv) Zb
 refine za (fun h7=>?_) fun h7=>?_
 ·refine jY h7 ?_;refine zf [[1],[0]] [] (kR l 1 hl) ?_;refine Zg ?_;refine za (fun g=>?_) fun g=>?_
  ·have hv:zy ts e l=1:=by simp only [zy,zS,zN,yi,h1,h2,h3,h4,h5,h6,h7,g,Yy,Y0,Y5,Yx,YA,Yj,Yk,Y7,Yp,if_true,if_false]
   exact zk trivial (Zq hr hv) Zb
  ·have hv:zy ts e l=0:=by simp only [zy,zS,zN,yi,h1,h2,h3,h4,h5,h6,h7,g,Yy,Y0,Y5,Yx,YA,Yj,Yk,Y7,Yp,if_true,if_false]
   exact zk trivial (Zq hr hv) Zb
 refine za (fun h8=>?_) fun h8=>?_
 ·refine jY h8 ?_;refine zf [[1],[0]] [] (kR l 1 hl) ?_;refine Zg ?_;refine za (fun g=>?_) fun g=>?_
  ·have hv:zy ts e l=1:=by simp only [zy,zS,zN,yi,h1,h2,h3,h4,h5,h6,h7,h8,g,Yy,Y0,Y5,Yx,YA,Yj,Yk,Y7,Yp,if_true,if_false]
   exact zk trivial (Zq hr hv) Zb
  ·have hv:zy ts e l=0:=by simp only [zy,zS,zN,yi,h1,h2,h3,h4,h5,h6,h7,h8,g,Yy,Y0,Y5,Yx,YA,Yj,Yk,Y7,Yp,if_true,if_false]
   exact zk trivial (Zq hr hv) Zb
 refine za (fun h9=>?_) fun h9=>?_
 ·refine jY h9 ?_;refine zf [[1],[0]] [] (kR l 1 hl) ?_;refine Zg ?_;refine za (fun g=>?_) fun g=>?_
  ·have hv:zy ts e l=1:=by simp only [zy,zS,zN,yi,h1,h2,h3,h4,h5,h6,h7,h8,h9,g,Yy,Y0,Y5,Yx,YA,Yj,Yk,Y7,Yp,if_true,if_false]
   exact zk trivial (Zq hr hv) Zb
  ·have hv:zy ts e l=0:=by simp only [zy,zS,zN,yi,h1,h2,h3,h4,h5,h6,h7,h8,h9,g,Yy,Y0,Y5,Yx,YA,Yj,Yk,Y7,Yp,if_true,if_false]
   exact zk trivial (Zq hr hv) Zb
 refine za (fun h10=>?_) fun h10=>?_
 ·refine jY h10 ?_;refine zf [[1],[0]] [] (kR l 1 hl) ?_;refine Zg ?_;refine za (fun g=>?_) fun g=>?_
  ·have hv:zy ts e l=1:=by simp only [zy,zS,zN,yi,h1,h2,h3,h4,h5,h6,h7,h8,h9,h10,g,Yy,Y0,Y5,Yx,YA,Yj,Yk,Y7,Yp,if_true,if_false]
   exact zk trivial (Zq hr hv) Zb
  ·have hv:zy ts e l=0:=by simp only [zy,zS,zN,yi,h1,h2,h3,h4,h5,h6,h7,h8,h9,h10,g,Yy,Y0,Y5,Yx,YA,Yj,Yk,Y7,Yp,if_true,if_false]
   exact zk trivial (Zq hr hv) Zb
 refine za (fun h11=>?_) fun h11=>?_
 ·refine zf [[1],[0]] [] (kR l 1 hl) ?_;refine Zg ?_;refine za (fun g=>?_) fun g=>?_
  ·have hv:zy ts e l=1:=by simp only [zy,zS,zN,yi,h1,h2,h3,h4,h5,h6,h7,h8,h9,h10,h11,g,Yy,Y0,Y5,Yx,YA,Yj,Yk,Y7,Yp,if_true,if_false]
   exact zk trivial (Zq hr hv) Zb
  ·have hv:zy ts e l=0:=by simp only [zy,zS,zN,yi,h1,h2,h3,h4,h5,h6,h7,h8,h9,h10,h11,g,Yy,Y0,Y5,Yx,YA,Yj,Yk,Y7,Yp,if_true,if_false]
   exact zk trivial (Zq hr hv) Zb
 refine za (fun h12=>?_) fun h12=>?_
 ·refine zf [[1],[0]] [] (kR l 3 hl) ?_;refine Zg ?_;refine za (fun g=>?_) fun g=>?_
  ·have hv:zy ts e l=3:=by simp only [zy,zS,zN,yi,h1,h2,h3,h4,h5,h6,h7,h8,h9,h10,h11,h12,g,Yy,Y0,Y5,Yx,YA,Yj,Yk,Y7,Yp,if_true,if_false]
   exact zk trivial (Zq hr hv) Zb
  ·have hv:zy ts e l=0:=by simp only [zy,zS,zN,yi,h1,h2,h3,h4,h5,h6,h7,h8,h9,h10,h11,h12,g,Yy,Y0,Y5,Yx,YA,Yj,Yk,Y7,Yp,if_true,if_false]
   exact zk trivial (Zq hr hv) Zb
 refine za (fun h13=>?_) fun h13=>?_
 ·refine zf [[1],[0]] [] (kR l 3 hl) ?_;refine Zg ?_;refine za (fun g=>?_) fun g=>?_
  ·have hv:zy ts e l=1:=by simp only [zy,zS,zN,yi,h1,h2,h3,h4,h5,h6,h7,h8,h9,h10,h11,h12,h13,g,Yy,Y0,Y5,Yx,YA,Yj,Yk,Y7,Yp,if_true,if_false]
   exact zk trivial (Zq hr hv) Zb
  ·have hv:zy ts e l=0:=by simp only [zy,zS,zN,yi,h1,h2,h3,h4,h5,h6,h7,h8,h9,h10,h11,h12,h13,g,Yy,Y0,Y5,Yx,YA,Yj,Yk,Y7,Yp,if_true,if_false]
   exact zk trivial (Zq hr hv) Zb
 refine za (fun h21=>?_) fun h21=>?_
 ·have hv:zy ts e l=2:=by simp only [zy,zS,zN,yi,h1,h2,h3,h4,h5,h6,h7,h8,h9,h10,h11,h12,h13,h21,Yy,Y0,Y5,Yx,YA,Yj,Yk,Y7,Yp,if_true,if_false]
  exact zk trivial (Zq hr hv) Zb
 refine za (fun h22=>?_) fun h22=>?_
 ·refine jY h22 ?_;refine zf [[1],[0]] [] (kR l 2 hl) ?_;refine Zg ?_;refine za (fun g=>?_) fun g=>?_
  ·have hv:zy ts e l=2:=by simp only [zy,zS,zN,yi,h1,h2,h3,h4,h5,h6,h7,h8,h9,h10,h11,h12,h13,h21,h22,g,Yy,Y0,Y5,Yx,YA,Yj,Yk,Y7,Yp,if_true,if_false]
   exact zk trivial (Zq hr hv) Zb
  ·have hv:zy ts e l=0:=by simp only [zy,zS,zN,yi,h1,h2,h3,h4,h5,h6,h7,h8,h9,h10,h11,h12,h13,h21,h22,g,Yy,Y0,Y5,Yx,YA,Yj,Yk,Y7,Yp,if_true,if_false]
   exact zk trivial (Zq hr hv) Zb
 refine za (fun h23=>?_) fun h23=>?_
 ·refine jY h23 ?_;refine zf [[1],[0]] [] (kR l 2 hl) ?_;refine Zg ?_;refine za (fun g=>?_) fun g=>?_
  ·have hv:zy ts e l=2:=by simp only [zy,zS,zN,yi,h1,h2,h3,h4,h5,h6,h7,h8,h9,h10,h11,h12,h13,h21,h22,h23,g,Yy,Y0,Y5,Yx,YA,Yj,Yk,Y7,Yp,if_true,if_false]
   exact zk trivial (Zq hr hv) Zb
  ·have hv:zy ts e l=0:=by simp only [zy,zS,zN,yi,h1,h2,h3,h4,h5,h6,h7,h8,h9,h10,h11,h12,h13,h21,h22,h23,g,Yy,Y0,Y5,Yx,YA,Yj,Yk,Y7,Yp,if_true,if_false]
   exact zk trivial (Zq hr hv) Zb
 refine za (fun h24=>?_) fun h24=>?_
 ·refine jY h24 ?_;refine zf [[1],[0]] [] (kR l 2 hl) ?_;refine Zg ?_;refine za (fun g=>?_) fun g=>?_
  ·have hv:zy ts e l=2:=by simp only [zy,zS,zN,yi,h1,h2,h3,h4,h5,h6,h7,h8,h9,h10,h11,h12,h13,h21,h22,h23,h24,g,Yy,Y0,Y5,Yx,YA,Yj,Yk,Y7,Yp,if_true,if_false]
   exact zk trivial (Zq hr hv) Zb
  ·have hv:zy ts e l=0:=by simp only [zy,zS,zN,yi,h1,h2,h3,h4,h5,h6,h7,h8,h9,h10,h11,h12,h13,h21,h22,h23,h24,g,Yy,Y0,Y5,Yx,YA,Yj,Yk,Y7,Yp,if_true,if_false]
   exact zk trivial (Zq hr hv) Zb
 refine za (fun h25=>?_) fun h25=>?_
 ·refine zf [[1],[0]] [] (kR l 2 hl) ?_;refine Zg ?_;refine za (fun g=>?_) fun g=>?_
  ·have hv:zy ts e l=2:=by simp only [zy,zS,zN,yi,h1,h2,h3,h4,h5,h6,h7,h8,h9,h10,h11,h12,h13,h21,h22,h23,h24,h25,g,Yy,Y0,Y5,Yx,YA,Yj,Yk,Y7,Yp,if_true,if_false]
   exact zk trivial (Zq hr hv) Zb
  ·have hv:zy ts e l=0:=by simp only [zy,zS,zN,yi,h1,h2,h3,h4,h5,h6,h7,h8,h9,h10,h11,h12,h13,h21,h22,h23,h24,h25,g,Yy,Y0,Y5,Yx,YA,Yj,Yk,Y7,Yp,if_true,if_false]
   exact zk trivial (Zq hr hv) Zb
 refine za (fun h26=>?_) fun h26=>?_
 ·have hlen:l.length=3:=hc26 (Zc h26);refine ⟨Za,?_⟩;refine za (fun a1=>?_) fun a1=>?_
  ·refine ⟨Za,Za,ze Zf,?_⟩;refine za (fun a2=>?_) fun a2=>?_
   ·refine ⟨Za,?_⟩;have hv:zy ts e l=l.getD 1 default:=by simp only [zy,zS,zN,yi,h1,h2,h3,h4,h5,h6,h7,h8,h9,h10,h11,h12,h13,h21,h22,h23,h24,h25,h26,a1,a2,Yy,Y0,Y5,Yx,YA,Yj,Yk,Y7,Yp,if_true,if_false]
    exact zk trivial (Zq hr hv) Zb
   ·have hv:zy ts e l=0:=by simp only [zy,zS,zN,yi,h1,h2,h3,h4,h5,h6,h7,h8,h9,h10,h11,h12,h13,h21,h22,h23,h24,h25,h26,a1,a2,Yy,Y0,Y5,Yx,YA,Yj,Yk,Y7,Yp,if_true,if_false]
    exact zk trivial (Zq hr hv) Zb
  ·refine ⟨ze Zf,?_⟩;have hv:zy ts e l=0:=by simp only [zy,zS,zN,yi,h1,h2,h3,h4,h5,h6,h7,h8,h9,h10,h11,h12,h13,h21,h22,h23,h24,h25,h26,a1,Yy,Y0,Y5,Yx,YA,Yj,Yk,Y7,Yp,if_true,if_false]
   exact zk trivial (Zq hr hv) Zb
 refine za (fun h27=>?_) fun h27=>?_
 ·have hlen:l.length=2:=hc27 (Zc h27);refine ⟨Za,Za,ze Zf,?_⟩;refine za (fun a1=>?_) fun a1=>?_
  ·refine ⟨Za,?_⟩;have hv:zy ts e l=l.getD 0 default:=by simp only [zy,zS,zN,yi,h1,h2,h3,h4,h5,h6,h7,h8,h9,h10,h11,h12,h13,h21,h22,h23,h24,h25,h26,h27,a1,Yy,Y0,Y5,Yx,YA,Yj,Yk,Y7,Yp,if_true,if_false]
   exact zk trivial (Zq hr hv) Zb
  ·have hv:zy ts e l=0:=by simp only [zy,zS,zN,yi,h1,h2,h3,h4,h5,h6,h7,h8,h9,h10,h11,h12,h13,h21,h22,h23,h24,h25,h26,h27,a1,Yy,Y0,Y5,Yx,YA,Yj,Yk,Y7,Yp,if_true,if_false]
   exact zk trivial (Zq hr hv) Zb
 have hgt:5<e.op:=by
  simp only [YQ,ne_eq] at h1 h2 h3 h4 h5;simp only [isOp,Ys,Yf] at ho;omega
 have hlen:=hE ho hgt;refine ⟨Za,?_⟩;refine zf [[1],[0]] [] (kR l (l.getD 0 default) hl) ?_;refine Zg ?_;refine za (fun g=>?_) fun g=>?_
 ·have hv:zy ts e l=2:=by simp only [zy,zS,zN,yi,h1,h2,h3,h4,h5,h6,h7,h8,h9,h10,h11,h12,h13,h21,h22,h23,h24,h25,h26,h27,g,Yy,Y0,Y5,Yx,YA,Yj,Yk,Y7,Yp,if_true,if_false]
  exact zk trivial (Zq hr hv) Zb
 ·have hv:zy ts e l=0:=by simp only [zy,zS,zN,yi,h1,h2,h3,h4,h5,h6,h7,h8,h9,h10,h11,h12,h13,h21,h22,h23,h24,h25,h26,h27,g,Yy,Y0,Y5,Yx,YA,Yj,Yk,Y7,Yp,if_true,if_false]
  exact zk trivial (Zq hr hv) Zb
def ownR (ts:List Int) (e:Ex) (l:List Int):Int×Int:=
 if !(isOp e.op&&yh e) then (0,1)
 else if !yQ e then (0,9)
 else if (e.op==5&&(decide (e.col<0) || decide (e.col≥ts.length))) then (0,3)
 else if (decide (zy ts e l<1) || decide (zy ts e l>3)) then (0,4)
 else (zy ts e l,0)
def isT (k:Int):Prop:=1<=k/\k<=3
theorem own_tab0: ∀n∈List.range 29,
 n=0\/(n=1\/n=5)/\(opTab.getD n default).types=0\/n=2/\(opTab.getD n default).types=0/\(opTab.getD n default).own=1\/n=3/\(opTab.getD n default).types=0/\(opTab.getD n default).own=2\/
 n=4/\(opTab.getD n default).types=0/\(opTab.getD n default).own=3\/(6<=n/\n<=11)/\(opTab.getD n default).types=1/\(opTab.getD n default).own=1\/n=12/\(opTab.getD n default).types=2/\(opTab.getD n default).own=3\/
 n=13/\(opTab.getD n default).types=2/\(opTab.getD n default).own=1\/n=21/\(opTab.getD n default).types=5/\(opTab.getD n default).own=2\/(22<=n/\n<=25)/\(opTab.getD n default).types=3/\(opTab.getD n default).own=2\/
 n=26/\(opTab.getD n default).types=6/\(opTab.getD n default).own=0\/n=27/\(opTab.getD n default).types=4/\(opTab.getD n default).own=0\/((14<=n/\n<=20)\/n=28)/\(opTab.getD n default).types=4/\(opTab.getD n default).own=2:=Zi
theorem okF_type {e:Ex} (h:yh e=true) (h1:e.op=1):1<=e.type/\e.type<=3:=by
 simp [yh,okF,h1] at h;omega
theorem own_eq (ts:List Int) (e:Ex) (l:List Int) (hl:l.length=e.kids.length) (hk: ∀x∈l,isT x):ownM ts e l=ownR ts e l:=by
 unfold ownM ownR;by_cases ho':isOp e.op=false
 ·simp [ho']
 have ho:isOp e.op=true:=Zc ho';by_cases hc':yh e=false
 ·simp [hc']
 have hc:yh e=true:=Zc hc';by_cases hn':yQ e=false
 ·simp [hn',ho,hc]
 have hn:yQ e=true:=Zc hn';by_cases h3:(e.op==5&&(decide (e.col<0) || decide (e.col≥ts.length)))=true
 ·rw [ho,hc,hn,h3];rfl
 have h3':(e.op==5&&(decide (e.col<0) || decide (e.col≥ts.length)))=false:=Zc h3;rw [ho,hc,hn,h3'];simp only [Um,YA,Yp,if_false,Y7];have hcount:=jG hn;obtain ⟨n,n1,n2,n3⟩:=op_cases ho;have hf:yN e.op=opTab.getD n default:=by rw [yN,ho,if_pos rfl,opAt,n3,YH]
 have ht:=own_tab0 n (Zc n1);have hkt:=kids_tab0 n (Zc n1);rw [hf] at hcount ⊢;generalize hO:opTab.getD n default=o at ht hkt hcount;obtain ⟨w,kn,ty,ow⟩:=o;simp only at ht hkt hcount;unfold fitM zy;rcases ht with h | ⟨h,ht⟩ | ⟨h,ht,ht2⟩ | ⟨h,ht,ht2⟩ | ⟨h,ht,ht2⟩ | ⟨h,ht,ht2⟩ | ⟨h,ht,ht2⟩ | ⟨h,ht,ht2⟩ | ⟨h,ht,ht2⟩ | ⟨h,ht,ht2⟩ | ⟨h,ht,ht2⟩ | ⟨h,ht,ht2⟩ | ⟨h,ht,ht2⟩
 ·omega
 ·rcases h with h | h
  ·have he:e.op=1:=Za;have:=okF_type hc he;have h4: ¬e.type<1:=Za;have h5: ¬3<e.type:=Za;simp [he,ht,h4,h5]
  ·have he:e.op=5:=Za;simp only [he,ht];generalize ts.getD e.col.toNat default=v;simp [yW]
   split<;>split<;>(try rfl)<;>(exfalso;omega)
 ·have he:e.op=2:=Za;simp [he,ht,ht2]
 ·have he:e.op=3:=Za;simp [he,ht,ht2]
 ·have he:e.op=4:=Za;simp [he,ht,ht2]
 ·have hno:zS e.op=true:=by simp [zS];omega
  have e1: ¬e.op=1:=Za;have e2: ¬e.op=2:=Za;have e3: ¬e.op=3:=Za;have e4: ¬e.op=4:=Za;have e5: ¬e.op=5:=Za;by_cases ha:(l.all fun x=>x==1)=true
  ·simp [e1,e2,e3,e4,e5,hno,ht,ht2,ha,yi]
  ·have ha':(l.all fun x=>x==1)=false:=Zc ha;simp [e1,e2,e3,e4,e5,hno,ht,ht2,ha',yi]
 ·have he:e.op=12:=Za;by_cases ha:(l.all fun x=>x==3)=true
  ·simp [he,zS,ht,ht2,ha,yi]
  ·have ha':(l.all fun x=>x==3)=false:=Zc ha;simp [he,zS,ht,ht2,ha',yi]
 ·have he:e.op=13:=Za;by_cases ha:(l.all fun x=>x==3)=true
  ·simp [he,zS,ht,ht2,ha,yi]
  ·have ha':(l.all fun x=>x==3)=false:=Zc ha;simp [he,zS,ht,ht2,ha',yi]
 ·have he:e.op=21:=Za;simp [he,zS,ht,ht2]
 ·have hno:zS e.op=false:=by simp [zS];omega
  have htr:zN e.op=true:=by simp [zN];omega
  have e1: ¬e.op=1:=Za;have e2: ¬e.op=2:=Za;have e3: ¬e.op=3:=Za;have e4: ¬e.op=4:=Za;have e5: ¬e.op=5:=Za;have e12: ¬e.op=12:=Za;have e13: ¬e.op=13:=Za;have e21: ¬e.op=21:=Za;by_cases ha:(l.all fun x=>x==2)=true
  ·simp [e1,e2,e3,e4,e5,e12,e13,e21,hno,htr,ht,ht2,ha,yi]
  ·have ha':(l.all fun x=>x==2)=false:=Zc ha;simp [e1,e2,e3,e4,e5,e12,e13,e21,hno,htr,ht,ht2,ha',yi]
 ·have he:e.op=26:=Za;have hl3:l.length=3:=Za;obtain ⟨a,b,c,rfl⟩: ∃a b c,l=[a,b,c]:=by
   match l,hl3 with
   | [a,b,c],_=>exact ⟨a,b,c,rfl⟩
  have hb:isT b:=hk b Zd;have h4: ¬b<1:=by have:=hb.1;omega
  have h5: ¬3<b:=by have:=hb.2;omega
  simp only [he,ht,ht2];by_cases q1:a=2<;>by_cases q2:b=c<;>simp [zS,zN,q1,q2]<;>(have hb1:=hb.1;have hb2:=hb.2;omega)
 ·have he:e.op=27:=Za;have hl2:l.length=2:=Za;obtain ⟨a,b,rfl⟩: ∃a b,l=[a,b]:=by
   match l,hl2 with
   | [a,b],_=>exact ⟨a,b,rfl⟩
  have hb:isT a:=hk a Zd;have h4: ¬a<1:=by have:=hb.1;omega
  have h5: ¬3<a:=by have:=hb.2;omega
  simp only [he,ht,ht2];by_cases q2:a=b
  ·subst q2;simp [zS,zN,h4,h5]
  ·have q3: ¬b=a:=fun e=>q2 e.symm;simp [zS,zN,q2,q3]
 ·have hno:zS e.op=false:=by simp [zS];omega
  have htr:zN e.op=false:=by simp [zN];omega
  have e1: ¬e.op=1:=Za;have e2: ¬e.op=2:=Za;have e3: ¬e.op=3:=Za;have e4: ¬e.op=4:=Za;have e5: ¬e.op=5:=Za;have e12: ¬e.op=12:=Za;have e13: ¬e.op=13:=Za;have e21: ¬e.op=21:=Za;have e26: ¬e.op=26:=Za;have e27: ¬e.op=27:=Za;by_cases ha:(l.all fun x=>x==l.getD 0 default)=true
  ·simp only [yi,ha];simp [e1,e2,e3,e4,e5,e12,e13,e21,e26,e27,hno,htr,ht,ht2]
  ·have ha':(l.all fun x=>x==l.getD 0 default)=false:=Zc ha;simp only [yi,ha'];simp [e1,e2,e3,e4,e5,e12,e13,e21,e26,e27,hno,htr,ht,ht2]
theorem own_isT (ts:List Int) (e:Ex) (l:List Int) (h:(ownR ts e l).2=0):isT (ownR ts e l).1:=by
 unfold ownR at h ⊢
 split at h
 ·cases h
 ·split at h
  ·cases h
  ·split at h
   ·cases h
   ·split at h
    ·cases h
    ·rename_i h4;rw [if_neg (by assumption),if_neg (by assumption),if_neg (by assumption),if_neg (by assumption)];simp only [Un,Yf,not_or] at h4;exact ⟨Za,Za⟩
theorem typK_isT {ts:List Int} {e:Ex} {rs:List (Int×Int)} (h:(typK (ownR ts) e rs).2=0):isT (typK (ownR ts) e rs).1:=by
 unfold typK at h ⊢
 split
 ·rename_i h1;rw [if_pos h1] at h;exact own_isT _ _ _ h
 ·rename_i h1;rw [if_neg h1] at h;exact absurd h h1
theorem typ_isT {ts:List Int} {e:Ex} (h:(typG (ownR ts) e).2=0):isT (typG (ownR ts) e).1:=by
 rw [kS] at h ⊢;exact typK_isT h
theorem typ_eq (ts:List Int): ∀e:Ex,typG (ownM ts) e=typG (ownR ts) e:=ut (p:=fun e=>typG (ownM ts) e=typG (ownR ts) e) fun e ih=>by
 rw [kS,kS];have hm:e.kids.map (typG (ownM ts))=e.kids.map (typG (ownR ts)):=Uq fun k hk=>ih k hk;rw [hm,typK,typK]
 split
 ·rename_i h;refine own_eq ts e _ Zd fun x hx=>?_;simp only [Ul,Y4,Function.comp] at hx;obtain ⟨k,hk,rfl⟩:=hx;have:=wv h _ (Y4.2 ⟨k,hk,rfl⟩);exact typ_isT this
 ·rfl
theorem c_typed (ts:List Int) (hts:ts.length<=1000000000): ∀e:Ex,Ok12 e->ACall Tryz.prog 195 [ints ts,aE e] [] (zL (typG (ownR ts) e)) []:=
 ut (p:=fun e=>Ok12 e->ACall Tryz.prog 195 [ints ts,aE e] [] (zL (typG (ownR ts) e)) []) fun e ih ho=>by
 refine zn mixed ttok Tryz.func195 Tryz.ntmps195 Tryz.results195 ?_;generalize hr:zL (typG (ownR ts) e)=R;have hl:=ho.kids;refine Zn ?_;refine zp mixed ttok 7 [0,3] [3] Zv Zw e.kids.length (fun n=> ∀i,i<n->(typG (ownR ts) (e.kids.getD i default)).2=0) (fun n=>[(6,.vec 500 n)]) (fun n=>[(500,.vec 3 1 (zd rI (u4 (ownR ts) e n)) 0)]) (fun i h=>absurd h (Yu _)) ?_ ?_
 ·exact (Weak.nilL 6 500 3 1 rfl rfl).trans (Weak.keepL (by simp [cst,ends]) (by simp [cst,u4,ends]) (by simp [cst,ends]))
 intro I hI n hn hi;have hl2:=tysTo_length (ownR ts) e n hn;refine Zy ?_;refine za (fun h=>?_) fun h=>?_
 ·simp only [Yf] at h;have h':n<e.kids.length:=Za;have hw:=zh h' Za;have hs:=tysTo_succ (ownR ts) e n h';refine ⟨Zt,?_⟩;refine zf [[1],[0,0,0,0,0,6]] [] (ih _ (zm h') (ho.kid (zm h'))) ?_;refine ZU ?_;refine za (fun g=>?_) fun g=>?_
  ·have g':(typG (ownR ts) (e.kids.getD n default)).2≠0:=Zc g;have hf:ferr Prod.snd (e.kids.map (typG (ownR ts)))=(typG (ownR ts) (e.kids.getD n default)).2:=by rw [vt];exact xK _ _ n h' hi g'
   have hE:typG (ownR ts) e=(0,(typG (ownR ts) (e.kids.getD n default)).2):=by rw [kS (ownR ts) e,typK,hf,if_neg g']
   exact zK trivial (Zq hr hE) Zb
  ·have g':(typG (ownR ts) (e.kids.getD n default)).2=0:=Zc g;refine ⟨⟨hl2.symm,Z4 hl2⟩,?_⟩;exact zo hI n rfl h' (fun i h2=>if h3:i=n then by rw [h3];exact g' else hi i Za) (ZD hw hs hl2) (ZD hw hs hl2) (ZD hw hs hl2) (ZD hw hs hl2)
 simp only [Ye] at h;obtain rfl:n=e.kids.length:=Za;clear hI;have hf:ferr Prod.snd (e.kids.map (typG (ownR ts)))=0:=by rw [vt];exact yJ _ _ hi
 have hT:u4 (ownR ts) e e.kids.length=(e.kids.map (typG (ownR ts))).map Prod.fst:=by rw [u4,Yl,Ul];rfl
 have hM:typG (ownR ts) e=ownR ts e (u4 (ownR ts) e e.kids.length):=by rw [kS (ownR ts) e,typK,if_pos hf,hT]
 rw [hM] at hr;generalize u4 (ownR ts) e e.kids.length=l at hl2 hr ⊢;refine zf [[0,0,0,0,0,6]] [] (c_plain e) ?_;refine Zg ?_;refine za (fun h1=>?_) fun h1=>?_
 ·have hv:ownR ts e l=(0,1):=if_pos h1;exact zK trivial (Zq hr hv) Zb
 have ho2:isOp e.op=true/\yh e=true:=Zc h1;have hv1:ownR ts e l=if !yQ e then (0,9)
  else if (e.op==5&&(decide (e.col<0) || decide (e.col≥ts.length))) then (0,3)
  else if (decide (zy ts e l<1) || decide (zy ts e l>3)) then (0,4) else (zy ts e l,0):=if_neg (Z0 h1)
 have hkc:=qe ho2.1;refine ⟨hl2.symm,?_⟩;refine zf [[0],[0]] [] (c_rkids e.op e.kids.length) ?_;refine Zg ?_;rw [hkc];refine za (fun h2=>?_) fun h2=>?_
 ·have hv:ownR ts e l=(0,9):=by rw [hv1,if_pos h2]
  exact zK trivial (Zq hr hv) Zb
 have hcnt:yQ e=true:=Zc h2;have hv2:ownR ts e l=if (e.op==5&&(decide (e.col<0) || decide (e.col≥ts.length))) then (0,3)
  else if (decide (zy ts e l<1) || decide (zy ts e l>3)) then (0,4) else (zy ts e l,0):=by rw [hv1,if_neg (Z0 h2)]
 have hcount:=jG hcnt;obtain ⟨n,n1,n2,n3⟩:=op_cases ho2.1;have hf:yN e.op=opTab.getD n default:=by rw [yN,ho2.1,if_pos rfl,opAt,n3,YH]
 have hkt:=kids_tab0 n (Zc n1);rw [hf] at hcount;generalize hO:opTab.getD n default=o at hkt hcount;have c26:e.op=26->l.length=3:=Za;have c27:e.op=27->l.length=2:=Za;have cE:isOp e.op=true->5<e.op->0<l.length:=Za;refine za (fun h3=>?_) fun h3=>?_
 ·have h3':e.op=5:=Zc h3;refine za (fun h4=>?_) fun h4=>?_
  ·have hv:ownR ts e l=(0,3):=by rw [hv2,h3,h4];rfl
   exact zK trivial (Zq hr hv) Zb
  refine za (fun h5=>?_) fun h5=>?_
  ·have hv:ownR ts e l=(0,3):=by rw [hv2,h3,h4,h5];rfl
   exact zK trivial (Zq hr hv) Zb
  have hv3:ownR ts e l=if (decide (zy ts e l<1) || decide (zy ts e l>3)) then (0,4) else (zy ts e l,0):=by rw [hv2,h3,h4,h5];rfl
  have hcol:0<=e.col/\e.col<ts.length:=by simp only [Ye] at h4 h5;omega
  refine zf [[1],[0,0,0,0,0,6],[1]] [] (c_result ts e l Za (fun _=>hcol) c26 c27 cE ho2.1) ?_;refine Zg ?_;refine za (fun r1=>?_) fun r1=>?_
  ·have hv:ownR ts e l=(0,4):=by rw [hv3,r1];rfl
   exact zK trivial (Zq hr hv) Zb
  refine za (fun r2=>?_) fun r2=>?_
  ·have hv:ownR ts e l=(0,4):=by rw [hv3,r2,Y0];rfl
   exact zK trivial (Zq hr hv) Zb
  have hv:ownR ts e l=(zy ts e l,0):=by rw [hv3,r1,r2];rfl
  exact zK trivial (Zq hr hv) Zb
 have h3': ¬e.op=5:=Zc h3;have hv3:ownR ts e l=if (decide (zy ts e l<1) || decide (zy ts e l>3)) then (0,4) else (zy ts e l,0):=by rw [hv2,h3];rfl
 refine zf [[1],[0,0,0,0,0,6],[1]] [] (c_result ts e l Za (fun h=>absurd h h3') c26 c27 cE ho2.1) ?_;refine Zg ?_;refine za (fun r1=>?_) fun r1=>?_
 ·have hv:ownR ts e l=(0,4):=by rw [hv3,r1];rfl
  exact zK trivial (Zq hr hv) Zb
 refine za (fun r2=>?_) fun r2=>?_
 ·have hv:ownR ts e l=(0,4):=by rw [hv3,r2,Y0];rfl
  exact zK trivial (Zq hr hv) Zb
 have hv:ownR ts e l=(zy ts e l,0):=by rw [hv3,r1,r2];rfl
 exact zK trivial (Zq hr hv) Zb
theorem c_rtype (ts:List Int) (hts:ts.length<=1000000000) (e:Ex) (ho:Ok12 e):ACall Tryz.prog 158 [ints ts,aE e] [] (zL (zU (ownM ts) e)) []:=by
 refine zn mixed ttok Tryz.func158 Tryz.ntmps158 Tryz.results158 ?_;generalize hr:zL (zU (ownM ts) e)=R;refine Zn ?_;refine zf [[0,0,0,0,0,6]] [] (qN e ho) ?_;refine Zg ?_;refine za (fun h=>?_) fun h=>?_
 ·have hv:zU (ownM ts) e=(0,8):=if_pos (Yc h);exact zK trivial (Zq hr hv) Zb
 have h': ¬w8 e>200:=Yb h;refine zf [[0,0,0,0,0,6]] [] (c_rdepth e ho) ?_;refine Zg ?_;refine za (fun g=>?_) fun g=>?_
 ·have hv:zU (ownM ts) e=(0,13):=by rw [zU,if_neg h',if_pos (Yc g)]
  exact zK trivial (Zq hr hv) Zb
 have g': ¬wn e>24:=Yb g;refine zf [[1],[0,0,0,0,0,6]] [] (c_typed ts hts e ho) ?_;have hv:zU (ownM ts) e=typG (ownR ts) e:=by rw [zU,if_neg h',if_neg g',typ_eq]
 refine ZU ?_;exact zK trivial (Zq hr hv) Zb
def rS (w:ByteArray):List D:=[.lit (.string w)]
attribute [local simp, local push_cast] rS
theorem c_reserved:ACall Tryz.prog 155 [] [] (.d (.sl 1 (zd rS words))) []:=by
 refine zn mixed ttok Tryz.func155 Tryz.ntmps155 Tryz.results155 ?_;generalize hr:A.d (.sl 1 (zd rS words))=R;refine Zn ?_;refine zu [1] rfl Zd Zk ?_ Zl Zb Zb;exact hr
def goodR (s:ByteArray):Bool:=(uf s).all fun c=> !badM c
def uU (s:ByteArray):Bool:=(((decide (1<=s.size)&&decide (s.size<=16))&&letM ((s.data.getD 0 0).toNat:Nat))&&goodR s)&& !(words.any fun w=>w.toList==s.toList)
theorem c_rname (s:ByteArray):ACall Tryz.prog 88 [str s] [] (boo (uU s)) []:=by
 refine zn mixed ttok Tryz.func88 Tryz.ntmps88 Tryz.results88 ?_;generalize hr:boo (uU s)=R;have hr0:=hr;refine Zn ?_;refine za (fun h1=>?_) fun h1=>?_
 ·have:uU s=false:=by rw [uU,YO (Zp h1)];rfl
  exact zk trivial (Zq hr this) Zb
 have h1':1<=s.size:=Zo h1;refine za (fun h2=>?_) fun h2=>?_
 ·have:uU s=false:=by rw [uU,YO (p:=s.size≤16) (Zp h2),YF];rfl
  exact zk trivial (Zq hr this) Zb
 have h2':s.size<=16:=Zo h2;refine ⟨Za,?_⟩;refine za (fun h3=>?_) fun h3=>?_
 ·have:uU s=false:=by rw [uU,letM,YO (p:=((s.data.getD 0 0).toNat:Int)≥97) (Zp h3),Yk,YF];rfl
  exact zk trivial (Zq hr this) Zb
 refine ⟨Za,?_⟩;refine za (fun h4=>?_) fun h4=>?_
 ·have:uU s=false:=by rw [uU,letM,YO (p:=((s.data.getD 0 0).toNat:Int)≤122) (Zp h4),YF,YF];rfl
  exact zk trivial (Zq hr this) Zb
 have hM:uU s=(goodR s&& !(words.any fun w=>w.toList==s.toList)):=by
  rw [uU,letM,YN h1',YN h2',YN (p:=((s.data.getD 0 0).toNat:Int)≥97) (Zo h3),YN (p:=((s.data.getD 0 0).toNat:Int)<=122) (Zo h4)];rfl
 clear h1 h2 h3 h4;refine zp mixed ttok 3 [0] [] Zv Zw s.size (fun n=>((uf s).drop n).all (fun c=> !badM c)=goodR s) (fun _=>[]) (fun _=>[]) rfl ?_ ?_
 ·exact Ya Zh Zh Zh
 intro I hI n hn hi;refine Zy ?_;refine za (fun k=>?_) fun k=>?_
 ·simp only [Yf] at k;have k':n<s.size:=Za;have hw:=zh k' Za;rw [zx _ n (by rw [u0];exact k'),Us,bytesI_getD s n k'] at hi;have bad:badM ((s.data.getD n 0).toNat:Nat)=true->uU s=false:=fun h=>by rw [hM,<-hi,h];rfl
  have good:badM ((s.data.getD n 0).toNat:Nat)=false->((uf s).drop (n+1)).all (fun c=> !badM c)=goodR s:=fun h=>Zq hi h;clear hM hr;have bad':badM ((s.data.getD n 0).toNat:Nat)=true->boo false=R:=fun h=>by rw [<-hr0,bad h]
  clear bad hr0;generalize (((s.data.getD n 0).toNat:Nat):Int)=c at bad' good ⊢;refine ⟨Zt,?_⟩
  repeat' first
   | refine za (fun _=>?_) fun _=>?_
   | exact zk trivial (bad' (by simp only [badM,letM,Ys,Un,Up,U2,Bool.or_eq_false_iff,Uj,Yf,Ye,bne_iff_ne,bne_eq_false_iff_eq,ne_eq] at *;omega)) Zb
   | exact zo hI n rfl k' (good (by simp only [badM,letM,Ys,Un,Up,U2,Bool.or_eq_false_iff,Uj,Yf,Ye,bne_iff_ne,bne_eq_false_iff_eq,ne_eq] at *;omega)) (Ze hw) (Ze hw) (Ze hw) (Ze hw)
   | refine ⟨Zt,?_⟩
 simp only [Ye] at k;obtain rfl:n=s.size:=Za;rw [Y9 (by rw [u0];omega)] at hi;have hM2:uU s= !(words.any fun w=>w.toList==s.toList):=by rw [hM,<-hi];rfl
 clear hM hI hi hn k I;refine zf [] [] (c_reserved) ?_;refine Zg ?_;generalize hwd:words=W at hM2;have hWl:W.length=52:=ZF hwd;clear hwd;refine zp mixed ttok 5 [0,4] [] Zv Zw W.length (fun n=> ∀i,i<n->((W.getD i default).toList==s.toList)=false) (fun _=>[]) (fun _=>[]) (fun i h=>absurd h (Yu _)) ?_ ?_
 ·exact Ya Zh Zh Zh
 intro I hI n hn hi;refine Zy ?_;refine za (fun k=>?_) fun k=>?_
 ·simp only [Yf] at k;have k':n<W.length:=Za;have hw:=zh k' Za;refine ⟨Zt,?_⟩;refine za (fun g=>?_) fun g=>?_
  ·have:(W.any fun w=>w.toList==s.toList)=true:=U4.2 ⟨_,zm k',g⟩;exact zk trivial (ZK hr0 hM2 this) Zb
  ·exact zo hI n rfl k' (fun i h2=>if h3:i=n then by rw [h3];exact g else hi i Za) (Ze hw) (Ze hw) (Ze hw) (Ze hw)
 simp only [Ye] at k;obtain rfl:n=W.length:=Za;have:(W.any fun w=>w.toList==s.toList)=false:=by
  rw [List.any_eq_false];intro x hx;obtain ⟨i,h1,rfl⟩:=u7 hx;rw [hi i h1];decide
 exact zk trivial (ZK hr0 hM2 this) Zb
theorem contains_iff (L p:List UInt8):Lib.contains L p=true ↔ ∃a b,L=a++(p++b):=by
 unfold Lib.contains;rw [Yf];rcases Lib.index_spec L p with ⟨h1,h2⟩ | ⟨i,h1,h2,h3,_⟩
 ·constructor
  ·intro h;omega
  ·rintro ⟨a,b,rfl⟩;have:=h2 a.length Zd;simp only [Lib.occAt,List.drop_left] at this;rw [List.isPrefixOf_iff_prefix.2 (List.prefix_append p b)] at this;cases this
 ·constructor
  ·intro _;simp only [Lib.occAt] at h3;have h4:=List.isPrefixOf_iff_prefix.1 h3;obtain ⟨b,hb⟩:=h4;exact ⟨L.take i,b,by rw [hb,Yn]⟩
  ·intro _;omega
theorem cut32: ∀(w s:List UInt8) (x y:List UInt8),(32:UInt8) ∉ w->(32:UInt8) ∉ s->w++32::x=s++32::y->w=s
 | [],[],_,_,_,_,_=>rfl
 | [],c::s,_,_,_,hs,h=>by simp at h;exact absurd (ZM (h.1)) hs
 | c::w,[],_,_,hw,_,h=>by simp at h;exact absurd (ZM (h.1)) hw
 | c::w,d::s,x,y,hw,hs,h=>by
   simp only [YL,List.cons.injEq] at h;rw [h.1,cut32 w s x y (fun hm=>hw (Zu hm)) (fun hm=>hs (Zu hm)) h.2]
theorem jump32: ∀(w a x y:List UInt8),(32:UInt8) ∉ w->w++32::x=a++32::y-> ∃c,a=w++c/\32::x=c++32::y
 | [],a,x,y,_,h=>⟨a,rfl,h⟩
 | c::w,[],x,y,hw,h=>by simp at h;exact absurd (ZM (h.1)) hw
 | c::w,d::a,x,y,hw,h=>by
   simp only [YL,List.cons.injEq] at h;obtain ⟨c',h1,h2⟩:=jump32 w a x y (fun hm=>hw (Zu hm)) h.2;exact ⟨c',by rw [h.1,h1];rfl,h2⟩
def joinW:List (List UInt8)->List UInt8
 | []=>[]
 | w::ws=>w++32::joinW ws
theorem in_join (s:List UInt8) (hs:(32:UInt8) ∉ s): ∀ws:List (List UInt8),(∀w∈ws,(32:UInt8) ∉ w)→((∃a b,32::joinW ws=a++((32::(s++[32]))++b)) ↔ s∈ws)
 | [],_=>by
   constructor
   ·rintro ⟨a,b,h⟩;have:=congrArg List.length h;simp [joinW] at this;omega
   ·intro h;simp at h
 | w::ws,hw=>by
   have hw0:(32:UInt8) ∉ w:=hw w Zd;have ih:=in_join s hs ws (fun v hv=>hw v (Zu hv));constructor
   ·rintro ⟨a,b,h⟩;cases a with
    | nil=>
      simp only [joinW,Ue,YL,List.cons.injEq,true_and,Yo] at h;have:=cut32 w s _ _ hw0 hs h;simp [this]
    | cons x a=>
      simp only [joinW,YL,List.cons.injEq] at h;obtain ⟨c,h1,h2⟩:=jump32 w a _ _ hw0 h.2;exact U8 _ (ih.1 ⟨c,b,Z5 h2⟩)
   ·intro h;rcases YJ.1 h with rfl | h
    ·exact ⟨[],joinW ws,by simp [joinW]⟩
    ·obtain ⟨a,b,h2⟩:=ih.2 h;exact ⟨32::(w++a),b,by rw [joinW,h2];simp⟩
theorem resv_join:resv.data.toList=32::joinW (words.map (·.data.toList)):=Zi
theorem words_32: ∀w∈words.map (·.data.toList),(32:UInt8) ∉ w:=Zi
theorem hasW_eq (s:ByteArray) (hg:goodR s=true):hasW s=words.any fun w=>w.toList==s.toList:=by
 have h32:(32:UInt8) ∉ s.data.toList:=by
  intro hm;have:=YT.1 hg (((32:UInt8).toNat:Nat):Int) (Y4.2 ⟨32,hm,rfl⟩)
  revert this;decide
 rw [Ud,hasW,contains_iff,resv_join];have hd:(⟨#[32]⟩++s++⟨#[32]⟩:ByteArray).data.toList=32::(s.data.toList++[32]):=by
  simp [ByteArray.data_append]
 rw [hd];refine (in_join s.data.toList h32 _ words_32).trans ?_;simp only [Y4,U4,beq_iff_eq,YM]
theorem name_eq (s:ByteArray):uU s=uV s:=by
 have h0:s.data[0]?.getD 0=s.data.getD 0 0:=by rw [YR]
 have h1:(!(s.toList==[] || decide (s.size>16)))=(decide (1<=s.size)&&decide (s.size<=16)):=by
  have:(s.toList==[])=decide (s.size=0):=by
   rw [Ud,YM];simp only [beq_iff_eq,Yf];rw [<-List.length_eq_zero_iff,Ug];rfl
  rw [this,Ud];simp only [Up,Bool.or_eq_false_iff,Ys,Ye,Yf];omega
 unfold uU uV;rw [h0,h1,show ((uf s).all fun c=> !badM c)=goodR s from rfl];by_cases hg:goodR s=true
 ·rw [hasW_eq s hg,hg,YS,YS]
 ·have:goodR s=false:=Zc hg;rw [this];simp
theorem c_rname2 (s:ByteArray):ACall Tryz.prog 88 [str s] [] (boo (uV s)) []:=by rw [<-name_eq];exact c_rname s
end
section
attribute [local simp, local push_cast] Wq yd zL aFk vT
theorem okKey_false {c:Nat} {l:List Int} {n:Nat} (h:n<l.length) (hn:okAt c l n=false):yZ c l=false:=by rw [yZ,ww h hn];rfl
theorem c_listed (t:Tbl) (l:List Int) (hl:l.length≤1000000000):ACall Tryz.prog 157 [aT t,ints l] [] (boo (yZ t.columns.length l)) []:=by
 refine zn mixed ttok Tryz.func157 Tryz.ntmps157 Tryz.results157 ?_;generalize hr:boo (yZ t.columns.length l)=R;refine Zn ?_;refine zp mixed ttok 5 [1,2] [2] Zv Zw l.length (fun n=> ∀i,i<n->okAt t.columns.length l i=true) (fun _=>[]) (fun _=>[]) (fun i h=>absurd h (Yu _)) ?_ ?_
 ·exact Ya Zh Zh Zh
 intro I hI n hn hi;refine Zy ?_;refine za (fun h=>?_) fun h=>?_
 ·simp only [Yf] at h;have h':n<l.length:=Za;have hw:=zh h' Za;have hbad:okAt t.columns.length l n=false->boo false=R:=fun hb=>by rw [<-hr,okKey_false h' hb]
  refine ⟨Zt,?_⟩;refine za (fun g1=>?_) fun g1=>?_
  ·refine ⟨ze Zf,?_⟩;exact zk trivial (hbad (by rw [okAt,YO (Zp g1)];rfl)) Zb
  refine ⟨Zt,ze Zf,?_⟩;refine za (fun g2=>?_) fun g2=>?_
  ·exact zk trivial (hbad (by rw [okAt,YO (p:=l.getD n default<t.columns.length) (Zp g2),YF];rfl)) Zb
  have hin:(decide (0<=l.getD n default)&&decide (l.getD n default<t.columns.length))=true:=by
   have:=Yb g1;have:=Yb g2;simp only [Ys,Yf];omega
  refine zp mixed ttok 6 [1,2,5] [2] Zv Zw n (fun k=> ∀i,i<k->l.getD i default≠l.getD n default) (fun _=>[]) (fun _=>[]) (fun i h=>absurd h (Yu _)) ?_ ?_
  ·exact Ya Zh Zh Zh
  intro J hJ k hk hki;refine Zy ?_;refine za (fun q=>?_) fun q=>?_
  ·simp only [Yf] at q;have q':k<n:=Za;have hwk:=zh q' Za;refine ⟨Zt,Zt,ze Zf,?_⟩;refine za (fun e=>?_) fun e=>?_
   ·have he:l.getD k default=l.getD n default:=Zc e;exact zk trivial (hbad (by
     have:(l.take n).contains (l.getD n default)=true:=by
      rw [<-he,List.contains_iff_mem];have hk2:k<(l.take n).length:=Zs;have:=List.getElem_mem hk2;rw [List.getElem_take] at this;rwa [Yg,List.getElem?_eq_getElem Za]
     rw [okAt,this,Um,YF])) Zb
   ·have he:l.getD k default≠l.getD n default:=Zc e;exact zo hJ k rfl q' (fun i h2=>if h3:i=k then by rw [h3];exact he else hki i Za) (Ze hwk) (Ze hwk) (Ze hwk) (Ze hwk)
  ·simp only [Ye] at q;obtain rfl:k=n:=Za;have hok:okAt t.columns.length l k=true:=by
    rw [okAt,hin,Yj,Up,<-Bool.not_eq_true,List.contains_iff_mem];intro hm;obtain ⟨i,hi3,he⟩:=Ur hm;have hi4:i<k:=by simp at hi3;omega
    rw [List.getElem_take] at he;refine hki i hi4 ?_;rw [<-he,Yg,List.getElem?_eq_getElem Za];rfl
   exact zo hI k rfl h' (fun i h2=>if h3:i=k then by rw [h3];exact hok else hi i Za) (Ze hw) (Ze hw) (Ze hw) (Ze hw)
 ·simp only [Ye] at h;obtain rfl:n=l.length:=Za;have:yZ t.columns.length l=decide ((l.length:Int)>0):=by
   rw [yZ,all_range.2 hi,Yj];cases l<;>simp
  exact zk trivial (Zq hr this) Zb
theorem c_target (s:Sch) (i j:Nat) (hs:s.length<=1000) (hi:i<s.length) (hj:j<(s.getD i default).foreigns.length):ACall Tryz.prog 90 [aS s,num i,num j] [] (yd (byT s ((s.getD i default).foreigns.getD j default).table)) []:=by
 refine zn mixed ttok Tryz.func90 Tryz.ntmps90 Tryz.results90 ?_;generalize hr:yd (byT s ((s.getD i default).foreigns.getD j default).table)=R;refine Zn ?_;refine za (fun h=>absurd (Yc h) Za) fun _=>?_;refine za (fun h=>absurd (Yc h) Za) fun _=>?_;refine za (fun h=>absurd (Yc h) Za) fun _=>?_;refine ⟨Za,?_⟩;refine za (fun h=>absurd (Yc h) Za) fun _=>?_;refine ⟨Za,Za,?_⟩;refine zf [[6],[0]] [] (c_rfind s ((s.getD i default).foreigns.getD j default).table Za) ?_;refine Zg ?_;refine ⟨ze Zf,?_⟩;exact zK trivial (ZF hr) Zb
theorem fidx_self {α:Type} [Inhabited α] (p:α->Bool): ∀(l:List α) (i:Nat),i<l.length->p (l.getD i default)=true->0<=fidx p l/\fidx p l<=i
 | [],i,h,_=>by simp at h
 | x::l,0,_,hp=>by simp at hp;simp [fidx,hp]
 | x::l,i+1,h,hp=>by
   have:=fidx_self p l i (Zc h) (Zc hp);simp only [fidx]
   split
   ·omega
   ·rw [if_neg Za];omega
theorem byC_self (l:List Col) (i:Nat) (h:i<l.length):(uT (byC l (l.getD i default).name)<i) ↔ uT (byC l (l.getD i default).name)≠i:=by
 have:0<=byC l (l.getD i default).name/\byC l (l.getD i default).name<=i:=fidx_self (fun t:Col=>t.name.toList==(l.getD i default).name.toList) l i h Zd;unfold uT;rw [if_neg Za];omega
theorem byT_self (l:Sch) (i:Nat) (h:i<l.length):(uT (byT l (l.getD i default).name)<i) ↔ uT (byT l (l.getD i default).name)≠i:=by
 have:0<=byT l (l.getD i default).name/\byT l (l.getD i default).name<=i:=fidx_self (fun t:Tbl=>t.name.toList==(l.getD i default).name.toList) l i h Zd;unfold uT;rw [if_neg Za];omega
theorem c_rtable (t:Tbl) (ht:SmallT t):ACall Tryz.prog 89 [aT t] [] (num (xz t)) []:=by
 refine zn mixed ttok Tryz.func89 Tryz.ntmps89 Tryz.results89 ?_;generalize hr:num (xz t)=R;refine Zn ?_;have hcl:=ht.cols;have hkl:=ht.chk;have hpl:=ht.prim;have hul:=ht.uniq;have hfl:=ht.fors;have hbig:bigT t=true->retx (some (True,A.d (D.lit (Value.int .i64 8)))) ⟨[],[(1,vT t)]⟩ R []:=fun hb=>zk trivial (by rw [<-hr,xz,if_pos hb];rfl) Zb;simp only [vT] at hbig;refine za (fun h1=>?_) fun h1=>?_
 ·exact hbig (by rw [bigT,h1];simp only [Yy])
 refine za (fun h2=>?_) fun h2=>?_
 ·exact hbig (by rw [bigT,h2];simp only [Y0,Yy])
 refine za (fun h3=>?_) fun h3=>?_
 ·exact hbig (by rw [bigT,h3];simp only [Y0,Yy])
 refine za (fun h4=>?_) fun h4=>?_
 ·exact hbig (by rw [bigT,h4];simp only [Y0])
 clear hbig;have hb: ¬bigT t=true:=by rw [bigT,h1,h2,h3,h4];decide
 refine za (fun h5=>?_) fun h5=>?_
 ·have h5':t.columns.length=0:=Zc h5;exact zk trivial (by rw [<-hr,xz,if_neg hb,if_pos h5'];rfl) Zb
 have h5': ¬t.columns.length=0:=Zc h5;have hM:xz t=if ui (xd t) t.columns.length≠0 then ui (xd t) t.columns.length
  else if xJ t≠0 then xJ t else ferr (xA t) t.checks:=by rw [xz,if_neg hb,if_neg h5']
 clear h1 h2 h3 h4 h5;refine zp mixed ttok 3 [1] [1] Zv Zw t.columns.length (fun n=> ∀i,i<n->xd t i=0) (fun _=>[]) (fun _=>[]) (fun i h=>absurd h (Yu _)) ?_ ?_
 ·exact Ya Zh Zh Zh
 intro I hI n hn hi;refine Zy ?_;refine za (fun h=>?_) fun h=>?_
 ·simp only [Yf] at h;have h':n<t.columns.length:=Za;have hw:=zh h' Za;have hE:xd t n≠0->num (xd t n)=R:=fun hne=>by
   have:=kK h' hi hne;rw [<-hr,hM,this,if_pos hne]
  refine ⟨Zt,?_⟩;refine zf [[0]] [] (c_rname2 (t.columns.getD n default).name) ?_;refine Zg ?_;refine za (fun g1=>?_) fun g1=>?_
  ·have hc:xd t n=3:=if_pos g1;exact zk trivial (by rw [<-hE (Z0 hc),hc];rfl) Zb
  refine zf [[0,3,1,1,2,6],[0]] [] (c_rcolumn t (t.columns.getD n default).name Za) ?_;refine Zg ?_;refine za (fun g2=>?_) fun g2=>?_
  ·have g2':uT (byC t.columns (t.columns.getD n default).name)≠n:=by simpa [uT] using g2
   have hc:xd t n=5:=by rw [xd,if_neg (Z0 g1),if_pos ((byC_self t.columns n h').2 g2')]
   exact zk trivial (by rw [<-hE (Z0 hc),hc];rfl) Zb
  have g2': ¬uT (byC t.columns (t.columns.getD n default).name)≠n:=by simpa [uT] using g2
  have hcB:xd t n=if ug (t.columns.getD n default).type then 4 else 0:=by
   rw [xd,if_neg (Z0 g1),if_neg (fun q=>g2' ((byC_self t.columns n h').1 q))]
  have hbt:ug (t.columns.getD n default).type=(decide ((t.columns.getD n default).type<1) || decide ((t.columns.getD n default).type>3)):=by
   rw [Ud];simp only [ug,Ys,Un,bne_iff_ne,ne_eq,Yf];omega
  have hinv:ug (t.columns.getD n default).type=false-> ∀i,i<n+1->xd t i=0:=fun hb i h2=>if h3:i=n then by rw [h3,hcB,hb];rfl else hi i Za
  refine za (fun g3=>?_) fun g3=>?_
  ·have hc:xd t n=4:=by rw [hcB,hbt,g3];rfl
   exact zk trivial (by rw [<-hE (Z0 hc),hc];rfl) Zb
  refine za (fun g4=>?_) fun g4=>?_
  ·have hc:xd t n=4:=by rw [hcB,hbt,g4,Y0];rfl
   exact zk trivial (by rw [<-hE (Z0 hc),hc];rfl) Zb
  exact zo hI n rfl h' (hinv (by rw [hbt,g3,g4];rfl)) (Ze hw) (Ze hw) (Ze hw) (Ze hw)
 simp only [Ye] at h;obtain rfl:n=t.columns.length:=Za;clear hI;have hM2:xz t=if xJ t≠0 then xJ t else ferr (xA t) t.checks:=by rw [hM,ur hi,if_neg (by decide)]
 clear hM h hi hn I;refine zf [[0,3,1,1,2,6],[1]] [] (c_listed t t.primary Za) ?_;refine Zg ?_;refine za (fun p1=>?_) fun p1=>?_
 ·have p1':yZ t.columns.length t.primary=false:=Zc p1;have hk:xJ t=6:=by rw [xJ,p1'];rfl
  exact zk trivial (ZK hr hM2 hk) Zb
 have p1':yZ t.columns.length t.primary=true:=Zc p1;have hin:=okKey_in p1';refine zp mixed ttok 7 [1] [1] Zv Zw t.primary.length (fun n=> ∀i,i<n->uJ t (t.primary.getD i default)=false) (fun _=>[]) (fun _=>[]) (fun i h=>absurd h (Yu _)) ?_ ?_
 ·exact Ya Zh Zh Zh
 intro I hI n hn hi;refine Zy ?_;refine za (fun h=>?_) fun h=>?_
 ·simp only [Yf] at h;have h':n<t.primary.length:=Za;have hw:=zh h' Za;have hic:=hin _ (zm h');obtain ⟨hc0,hc1⟩:=hic;refine ⟨Zt,⟨hc0,hc1⟩,ze Zf,?_⟩;refine za (fun g=>?_) fun g=>?_
  ·have hk:xJ t=4:=by
    have:t.primary.any (uJ t)=true:=U4.2 ⟨_,zm h',g⟩;rw [xJ,p1',this];rfl
   exact zk trivial (ZK hr hM2 hk) Zb
  ·exact zo hI n rfl h' (fun i h2=>if h3:i=n then by rw [h3];exact g else hi i Za) (Ze hw) (Ze hw) (Ze hw) (Ze hw)
 simp only [Ye] at h;obtain rfl:n=t.primary.length:=Za;clear hI;have hany:t.primary.any (uJ t)=false:=by
  rw [List.any_eq_false];intro x hx;obtain ⟨i,h1,rfl⟩:=u7 hx;rw [hi i h1];decide
 have hkM:xJ t=if (yz t).all (yZ t.columns.length) then 0 else 6:=by rw [xJ,p1',hany];rfl
 have hbad:(∃l∈yz t,yZ t.columns.length l=false)->num 6=R:=fun ⟨l,hl,hk⟩=>by
  have:(yz t).all (yZ t.columns.length)=false:=List.all_eq_false.2 ⟨l,hl,Z0 hk⟩;rw [<-hr,hM2,hkM,this];rfl
 clear hi hn h I;refine zp mixed ttok 8 [1] [1] Zv Zw t.uniques.length (fun n=> ∀i,i<n->yZ t.columns.length (t.uniques.getD i default)=true) (fun _=>[]) (fun _=>[]) (fun i h=>absurd h (Yu _)) ?_ ?_
 ·exact Ya Zh Zh Zh
 intro I hI n hn hi;refine Zy ?_;refine za (fun h=>?_) fun h=>?_
 ·simp only [Yf] at h;have h':n<t.uniques.length:=Za;have hw:=zh h' Za;have hlu:=ht.uniqs _ (zm h');refine ⟨Zt,?_⟩;refine zf [[0,3,1,1,2,6],[1]] [] (c_listed t (t.uniques.getD n default) Za) ?_;refine Zg ?_;refine ⟨ze Zf,?_⟩;refine za (fun g=>?_) fun g=>?_
  ·have g':yZ t.columns.length (t.uniques.getD n default)=false:=Zc g;exact zk trivial (hbad ⟨_,Yz.2 (.inl (zm h')),g'⟩) Zb
  ·have g':yZ t.columns.length (t.uniques.getD n default)=true:=Zc g;exact zo hI n rfl h' (fun i h2=>if h3:i=n then by rw [h3];exact g' else hi i Za) (Ze hw) (Ze hw) (Ze hw) (Ze hw)
 simp only [Ye] at h;obtain rfl:n=t.uniques.length:=Za;clear hI;have hU:=hi;clear hi hn h I;refine zp mixed ttok 9 [1] [1] Zv Zw t.foreigns.length (fun n=> ∀i,i<n->yZ t.columns.length (t.foreigns.getD i default).columns=true) (fun _=>[]) (fun _=>[]) (fun i h=>absurd h (Yu _)) ?_ ?_
 ·exact Ya Zh Zh Zh
 intro I hI n hn hi;refine Zy ?_;refine za (fun h=>?_) fun h=>?_
 ·simp only [Yf] at h;have h':n<t.foreigns.length:=Za;have hw:=zh h' Za;have hlu:=ht.forss _ (zm h');refine ⟨Zt,?_⟩;refine zf [[0,3,1,1,2,6],[1]] [] (c_listed t (t.foreigns.getD n default).columns Za) ?_;refine Zg ?_;refine ⟨ze Zf,?_⟩;refine za (fun g=>?_) fun g=>?_
  ·have g':yZ t.columns.length (t.foreigns.getD n default).columns=false:=Zc g;exact zk trivial (hbad ⟨_,Yz.2 (.inr (Y4.2 ⟨_,zm h',rfl⟩)),g'⟩) Zb
  ·have g':yZ t.columns.length (t.foreigns.getD n default).columns=true:=Zc g;exact zo hI n rfl h' (fun i h2=>if h3:i=n then by rw [h3];exact g' else hi i Za) (Ze hw) (Ze hw) (Ze hw) (Ze hw)
 simp only [Ye] at h;obtain rfl:n=t.foreigns.length:=Za;clear hI;have hk0:xJ t=0:=by
  have:(yz t).all (yZ t.columns.length)=true:=by
   rw [YT];intro l hl;rcases Yz.1 hl with hl | hl
   ·obtain ⟨i,h1,rfl⟩:=u7 hl;exact hU i h1
   ·obtain ⟨f,hf,rfl⟩:=Y4.1 hl;obtain ⟨i,h1,rfl⟩:=u7 hf;exact hi i h1
  rw [hkM,this];rfl
 rw [hk0,if_neg Zi] at hM2;clear hi hn h I hbad hkM hU;refine zp mixed ttok 10 [1] [1] Zv Zw t.checks.length (fun n=> ∀i,i<n->xA t (t.checks.getD i default)=0) (fun _=>[]) (fun _=>[]) (fun i h=>absurd h (Yu _)) ?_ ?_
 ·exact Ya Zh Zh Zh
 intro I hI n hn hi;refine Zy ?_;refine za (fun h=>?_) fun h=>?_
 ·simp only [Yf] at h;have h':n<t.checks.length:=Za;have hw:=zh h' Za;have hE:xA t (t.checks.getD n default)≠0->num (xA t (t.checks.getD n default))=R:=fun hne=>by
   have:=xK (xA t) t.checks n h' hi hne;rw [<-hr,hM2,this]
  have hl:(yj t).length<=1000000000:=by rw [yj,Y2];omega
  refine zf [[0,3,1,1,2,6]] [] (uF t Za) ?_;refine Zg ?_;refine ⟨Zt,?_⟩;refine zf [[1],[0,0,0,0,0,6]] [] (c_rtype (yj t) hl (t.checks.getD n default) (ht.chks _ (zm h'))) ?_;refine ZU ?_;refine ⟨ze Zf,?_⟩;refine za (fun g1=>?_) fun g1=>?_
  ·have g1':(zU (ownM (yj t)) (t.checks.getD n default)).2≠0:=Zc g1;have hc:xA t (t.checks.getD n default)=(zU (ownM (yj t)) (t.checks.getD n default)).2:=if_pos g1';exact zk trivial (by rw [<-hE (by rw [hc];exact g1'),hc];rfl) Zb
  have g1': ¬(zU (ownM (yj t)) (t.checks.getD n default)).2≠0:=Zc g1;refine za (fun g2=>?_) fun g2=>?_
  ·have g2':(zU (ownM (yj t)) (t.checks.getD n default)).1≠2:=Zc g2;have hc:xA t (t.checks.getD n default)=4:=by rw [xA,if_neg g1',if_pos g2']
   exact zk trivial (by rw [<-hE (Z0 hc),hc];rfl) Zb
  have g2': ¬(zU (ownM (yj t)) (t.checks.getD n default)).1≠2:=Zc g2;have hc:xA t (t.checks.getD n default)=0:=by rw [xA,if_neg g1',if_neg g2']
  exact zo hI n rfl h' (fun i h2=>if h3:i=n then by rw [h3];exact hc else hi i Za) (Ze hw) (Ze hw) (Ze hw) (Ze hw)
 simp only [Ye] at h;obtain rfl:n=t.checks.length:=Za;exact zk trivial (ZK hr hM2 (yJ _ _ hi)) Zb
def rB (b:Bool):List D:=[.lit (.bool b)]
attribute [local simp, local push_cast] rB
def qo (s:Sch) (p:List Int):List Bool:=(List.range s.length).map fun i:Nat=>p.contains (i:Int)
theorem doneL_length (s:Sch) (p:List Int):(qo s p).length=s.length:=by simp [qo]
theorem doneL_get (s:Sch) (p:List Int) (i:Nat) (h:i<s.length):(qo s p).getD i default=p.contains (i:Int):=by
 rw [qo,Yg,List.getElem?_map,List.getElem?_range h];rfl
theorem doneL_nil (s:Sch):qo s []=List.replicate s.length false:=by
 apply Uc;intro i;simp only [qo,List.getElem?_map,List.getElem?_replicate];by_cases h:i<s.length
 ·rw [List.getElem?_range h,if_pos h];rfl
 ·rw [List.getElem?_eq_none Zs,if_neg h];rfl
theorem doneL_set (s:Sch) (p:List Int) (k:Int) (h0:0<=k) (h1:k<s.length):(qo s p).set k.toNat true=qo s (p++[k]):=by
 apply Uc;intro i;rw [List.getElem?_set,doneL_length];by_cases hi:i<s.length
 ·simp only [qo,List.getElem?_map];rw [List.getElem?_range hi];by_cases hk:k.toNat=i
  ·rw [if_pos hk,if_pos Za];have:k=(i:Int):=Za;simp [this]
  ·rw [if_neg hk];have: ¬(i:Int)=k:=Za;simp [this]
 ·rw [if_neg Za];simp only [qo,List.getElem?_map];rw [List.getElem?_eq_none Zs];rfl
def cst0 (kt:UD) (ts:Nat->List (Nat×A)) (os:Nat->List (Nat×Ob)) (n:Nat):SL:=⟨ts n++kt,os n⟩
theorem loop_count0 {P:Program} {tt:Types} (hm:P.follows .mixedOrders=true) (T':tt.ok P) {c:Code} {K:Exit->SL->Prop} {t:UD} {o:UE} {kt:UD}
 (keep:List Nat) (hk:zA t keep=kt) (N:Nat) (Inv:Nat->Prop) (ts:Nat->List (Nat×A)) (os:Nat->List (Nat×Ob)) (h0:Inv 0)
 (hw:Weak (SL.mk t o).st (cst0 kt ts os 0).st)
 (step: ∀(I:{n:Nat // n<=N/\Inv n}->SL),(∀x,I x=cst0 kt ts os x.1)-> ∀(n:Nat) (hn:n<=N) (hi:Inv n),ev P tt c (uW I (fun x=>N-x.1) ⟨n,hn,hi⟩ K) (cst0 kt ts os n)):
 wp P c K ⟨t,o⟩:=
 j5 hm T' (fun x:{n:Nat // n<=N/\Inv n}=>cst0 kt ts os x.1) (fun x=>N-x.1) ⟨0,Yq _,h0⟩ hw fun ⟨n,hn,hi⟩=>step _ (fun _=>rfl) n hn hi
theorem cnt_again0 {N:Nat} {Inv:Nat->Prop} {I:{n:Nat // n<=N/\Inv n}->SL} {kt:UD} {ts:Nat->List (Nat×A)} {os:Nat->List (Nat×Ob)} (hI: ∀x,I x=cst0 kt ts os x.1)
 (n:Nat) {x:{n:Nat // n<=N/\Inv n}} (hx:x.1=n) {K:Exit->SL->Prop} {t:UD} {o:UE} (h1:n<N) (h2:Inv (n+1))
 (hw:Weak (SL.mk t o).st (cst0 kt ts os (n+1)).st):uW I (fun x=>N-x.1) x K .normal ⟨t,o⟩:=by
 refine ⟨⟨n+1,h1,h2⟩,Zj,?_⟩;rw [hI];exact hw
def vv (s:Sch) (p:List Int):Nat->Int
 | 0=> -1
 | j+1=>if ub s p j then j else -1
theorem vv_pick {s:Sch} {p:List Int} {j:Nat} (hj:j<=s.length) (hji: ∀i,i+1<j->ub s p i=false) (h:j=s.length\/ ¬vv s p j<0):vv s p j=xn s p:=by
 have hg: ∀i,i<s.length->(List.range s.length).getD i default=i:=fun i hi=>jz hi;cases j with
 | zero=>
   rcases h with h | h
   ·have:xn s p= -1:=by rw [xn,←h];rfl
    rw [this];rfl
   ·exact absurd (show (-1:Int)<0 from Zi) h
 | succ j=>
   by_cases hf:ub s p j=true
   ·have h1:vv s p (j+1)=j:=if_pos hf;rw [h1,xn];symm;refine vj (ub s p) (List.range s.length) j Zs (fun i hi=>?_) ?_
    ·rw [hg i Za];exact hji i Za
    ·rw [hg j Za];exact hf
   ·have hf':ub s p j=false:=Zc hf;have h1:vv s p (j+1)= -1:=if_neg hf;rw [h1] at h ⊢;have hj2:j+1=s.length:=h.resolve_right Zi;rw [xn];symm;refine x6 (ub s p) (List.range s.length) fun i hi=>?_;rw [List.length_range] at hi;rw [hg i hi];by_cases hij:i=j
    ·rw [hij];exact hf'
    ·exact hji i Za
def frK (s:Sch) (p:List Int) (j k:Nat):Bool:=(!p.contains (j:Int))&&((fks s j).take k).all fun f=>p.contains (byT s f.table)
theorem frK_zero (s:Sch) (p:List Int) (j:Nat):frK s p j 0= !p.contains (j:Int):=by rw [frK];simp
theorem frK_succ (s:Sch) (p:List Int) (j k:Nat) (h:k<(fks s j).length):frK s p j (k+1)=(frK s p j k&&p.contains (byT s ((fks s j).getD k default).table)):=by
 rw [frK,frK,zw _ _ h,List.all_append];simp [Bool.and_assoc]
theorem frK_all (s:Sch) (p:List Int) (j:Nat):frK s p j (fks s j).length=ub s p j:=by rw [frK,Yl];rfl
theorem setB_rows (l:List Bool) (k:Nat) (h:k<l.length):(zd rB l).set k (D.lit (Value.bool true)::List.drop 1 ((zd rB l).getD k []))=zd rB (l.set k true):=by
 have h1:(zd rB l).getD k []=rB (l.getD k default):=by
  simp only [zd,Yg,List.getElem?_map,List.getElem?_eq_getElem h];rfl
 rw [h1];show (zd rB l).set k (rB true)=_;rw [zd,zd,List.map_set]
theorem Zx {p q P0:Prop} (zf_:P0) (h:q) (e:P0->p=q:=by intro zf_;conv=>lhs;simp -implicitDefEqProofs only [zf_,↓zb,push_cast,simprocAttr,tt]):p:=(e zf_).mpr h
theorem X0 {p:Prop} (h:p:=by simp [cst0,ends]):p:=h
theorem XS {p:Prop} (h:p:=by simp only [zA,ends,ite_true,ite_false,reduceIte,Nat.reduceEqDiff,Nat.reduceLeDiff,Nat.reduceLT,Nat.reduceAdd,reduceCtorEq,num,boo,str,ints,aV,aTab,z7,aS,aT,aC,yd,zL,aFk,vT,rB];rfl):p:=h
theorem c_rorder (s:Sch) (hs:s.length≤6) (hf: ∀t∈s,t.foreigns.length≤1000) (hall: ∀t∈s,∀f∈t.foreigns,0≤byT s f.table):
 ACall Tryz.prog 91 [aS s] [] (.tup [ints (kY s),num (vZ s)]) []:=by
 refine zn mixed ttok Tryz.func91 Tryz.ntmps91 Tryz.results91 ?_;generalize hr:A.tup [ints (kY s),num (vZ s)]=R;refine Zn ?_;refine zp mixed ttok 4 [1] [1] Zv Zw s.length (fun _=>True) (fun _=>[]) (fun _=>[]) trivial ?_ ?_
 ·exact Ya Zh Zh Zh
 intro I hI n hn hi;refine Zy ?_;refine za (fun h=>?_) fun h=>?_
 ·simp only [Yf] at h;have h':n<s.length:=Za;have hw:=zh h' Za;have hlF:=hf _ (zm h');have hallF:=hall _ (zm h');refine zp mixed ttok 5 [1,4] [1] Zv Zw (s.getD n default).foreigns.length (fun _=>True) (fun _=>[]) (fun _=>[]) trivial ?_ ?_
  ·exact Ya Zh Zh Zh
  intro J hJ k hk _;refine Zy ?_;refine ⟨Zt,?_⟩;refine za (fun g=>?_) fun g=>?_
  ·simp only [Yf] at g;have k':k<(s.getD n default).foreigns.length:=Za;have hwk:=zh k' Za;refine zf [[6],[0],[0]] [] (c_target s n k Za h' k') ?_;refine Zg ?_;have hge:=hallF _ (zm k');refine za (fun h=>absurd h (Z0 (YN hge))) fun _=>?_;exact zo hJ k rfl k' trivial (Ze hwk) (Ze hwk) (Ze hwk) (Ze hwk)
  ·exact zo hI n rfl h' trivial (Ze hw) (Ze hw) (Ze hw) (Ze hw)
 clear hI hi hn I;clear h;refine ⟨⟨Za,Za,Za⟩,?_⟩;have hrep:List.replicate s.length [D.lit (Value.bool false)]=zd rB (qo s []):=by rw [doneL_nil,zd,List.map_replicate];rfl
 rw [hrep];refine loop_count0 mixed ttok [1,8] XS s.length (fun n=> ∀i,i<n->0<=xn s (yD s i)) (fun n=>[(9,.vec 500 n)])
  (fun n=>[(46,.vec 4 1 (zd rB (qo s (yD s n))) 0),(500,.vec 3 1 (zd rI (yD s n)) 0),(1,.var [.d (.sl 6 (zd rT s))])]) (fun i h=>absurd h (Yu _)) ?_ ?_
 ·exact (YV 9 500 3 1 rfl rfl).trans (Ya X0 (by simp [cst0,yD,ends]) X0)
 intro I hI n hn hi;have hpl:=kX s n;generalize hp:yD s n=p at hpl;have hdl:=doneL_length s p;simp -implicitDefEqProofs only [cst0,hp,↓zb,push_cast,simprocAttr,tt];refine ⟨hpl.symm,?_⟩;refine za (fun h=>?_) fun h=>?_
 ·simp only [Yf] at h;have h':n<s.length:=Za;refine zp mixed ttok 11 [1,8,9] [46,500,1] XS (by simp only [zC,zq,ends,ite_true,ite_false,reduceIte,Nat.reduceEqDiff,Nat.reduceLeDiff,Nat.reduceLT,Nat.reduceAdd,reduceCtorEq,num,boo,str,ints,aV,aTab,z7,aS,aT,aC,yd,zL,aFk,vT,rB];rfl) s.length (fun j=> ∀i,i+1<j->ub s p i=false)
   (fun j=>[(10,.d (.lit (.int .i64 (vv s p j))))]) (fun _=>[]) (fun i h=>absurd h Za) ?_ ?_
  ·exact Ya (by simp [cst,vv,ends]) Zh Zh
  intro J hJ j hj hji;refine Zy ?_;have hFe:(s.getD j default).foreigns=fks s j:=rfl;refine za (fun q1=>?_) fun q1=>?_
  ·simp only [Yf] at q1;have j':j<s.length:=Za;have hwj:=zh j' Za;refine za (fun q2=>?_) fun q2=>?_
   ·have q2':vv s p j<0:=Yc q2;have hji2: ∀i,i+1<j+1->ub s p i=false:=fun i h2=>by
     by_cases h3:i+1=j
     ·subst h3;simp only [vv] at q2'
      split at q2'
      ·omega
      ·rename_i hh;simpa using hh
     ·exact hji i Za
    refine ⟨⟨Za,hdl.symm⟩,Za,hdl.symm,?_⟩;have hlF:=hf _ (zm j');have hallF:=hall _ (zm j');have hd0:=doneL_get s p j j';rw [hd0,<-frK_zero s p j];rw [hFe] at hlF hallF;refine zp mixed ttok 13 [1,8,9,10,11] [46,500,1] Zv Zw (fks s j).length (fun _=>True) (fun k=>[(12,.d (.lit (.bool (frK s p j k))))]) (fun _=>[]) trivial ?_ ?_
    ·exact Ya Zh Zh Zh
    intro Q hQ k hk _;simp -implicitDefEqProofs only [cst,hFe,↓zb,push_cast,simprocAttr,tt];refine ⟨Zt,?_⟩;refine za (fun g=>?_) fun g=>?_
    ·simp only [Yf] at g;have k':k<(fks s j).length:=Za;have hwk:=zh k' Za;have hge:=hallF _ (zm k');have hlt:byT s ((fks s j).getD k default).table<s.length:=wh _ _;refine zf [[6],[0],[0]] [] (c_target s j k Za j' k') ?_;refine Zx hFe ?_;have hd1:=doneL_get s p (byT s ((fks s j).getD k default).table).toNat Za;rw [Int.toNat_of_nonneg hge] at hd1;simp only [if_neg (show¬0>byT s ((fks s j).getD k default).table from Za)];have hsk:=frK_succ s p j k k';refine za (fun f1=>?_) fun f1=>?_
     ·refine ⟨⟨⟨hge,hlt⟩,hdl.symm⟩,Za,hdl.symm,?_⟩;rw [hd1];exact zo hQ k rfl k' trivial (by simp [hwk,hsk,f1,ends]) (by simp [hwk,hsk,f1,ends]) (by simp [hwk,hsk,f1,ends]) (by simp [hwk,hsk,f1,ends])
     ·exact zo hQ k rfl k' trivial (by simp [hwk,hsk,f1,ends]) (by simp [hwk,hsk,f1,ends]) (by simp [hwk,hsk,f1,ends]) (by simp [hwk,hsk,f1,ends])
    ·simp only [Ye] at g;obtain rfl:k=(fks s j).length:=Za;rw [frK_all];refine za (fun f1=>?_) fun f1=>?_
     ·have hvs:vv s p (j+1)=j:=if_pos f1;exact zo hJ j rfl j' hji2 (Z3 hwj hvs) (Z3 hwj hvs) (Z3 hwj hvs) (Z3 hwj hvs)
     ·have hvs:vv s p (j+1)=vv s p j:=by
       have h1:vv s p (j+1)= -1:=by simp only [vv,f1];rfl
       rw [h1];cases j with
       | zero=>rfl
       | succ i=>simp only [vv] at q2' ⊢;split at q2'<;>first | omega | (rename_i hh;rw [if_neg hh])
      exact zo hJ j rfl j' hji2 (Z3 hwj hvs) (Z3 hwj hvs) (Z3 hwj hvs) (Z3 hwj hvs)
   ·have hv:=vv_pick hj hji (.inr (Yb q2));have hE:xn s p<0->A.tup [ints [],num 7]=R:=fun hneg=>by
     have hno:kZ s=false:=ww h' (by rw [hp];exact YO Za);rw [<-hr,kY,vZ,hno];rfl
    rw [hv];refine za (fun hneg=>?_) fun hneg=>?_
    ·have hR:=hE (Yc hneg);subst hR;refine zt [[1],[0]] rfl Zd Zk ?_ Zl Zb Zb;rfl
    have hge:0<=xn s p:=Zo hneg;have hlt:xn s p<s.length:=by have:=wh (ub s p) (List.range s.length);rw [List.length_range] at this;exact this
    have hinv: ∀i,i<n+1->0<=xn s (yD s i):=fun i h2=>if h3:i=n then by rw [h3,hp];exact hge else hi i Za
    have hpk:yD s (n+1)=p++[xn s p]:=by rw [yD,hp]
    have hds:=doneL_set s p (xn s p) hge hlt;refine ⟨⟨⟨hge,hlt⟩,hdl.symm⟩,⟨hdl.symm,Za,Za⟩,⟨hpl.symm,Za⟩,?_⟩;rw [setB_rows _ _ Za,hds,<-hpk];exact cnt_again0 hI n rfl h' hinv (Ya (by simp [cst0,hpl,ends]) X0 X0)
  ·have hv:=vv_pick hj hji (.inl (Zo q1));have hE:xn s p<0->A.tup [ints [],num 7]=R:=fun hneg=>by
    have hno:kZ s=false:=ww h' (by rw [hp];exact YO Za);rw [<-hr,kY,vZ,hno];rfl
   rw [hv];refine za (fun hneg=>?_) fun hneg=>?_
   ·have hR:=hE (Yc hneg);subst hR;refine zt [[1],[0]] rfl Zd Zk ?_ Zl Zb Zb;rfl
   have hge:0<=xn s p:=Zo hneg;have hlt:xn s p<s.length:=by have:=wh (ub s p) (List.range s.length);rw [List.length_range] at this;exact this
   have hinv: ∀i,i<n+1->0<=xn s (yD s i):=fun i h2=>if h3:i=n then by rw [h3,hp];exact hge else hi i Za
   have hpk:yD s (n+1)=p++[xn s p]:=by rw [yD,hp]
   have hds:=doneL_set s p (xn s p) hge hlt;refine ⟨⟨⟨hge,hlt⟩,hdl.symm⟩,⟨hdl.symm,Za,Za⟩,⟨hpl.symm,Za⟩,?_⟩;rw [setB_rows _ _ Za,hds,<-hpk];exact cnt_again0 hI n rfl h' hinv (Ya (by simp [cst0,hpl,ends]) X0 X0)
 ·simp only [Ye] at h;obtain rfl:n=s.length:=Za;have hok:kZ s=true:=all_range.2 fun i hi2=>YN (hi i hi2);have hR:A.tup [ints p,num 0]=R:=by rw [<-hr,kY,vZ,hok,<-hp];rfl
  subst hR;refine zt [[1],[0]] rfl Zd Zk ?_ Zl Zb Zb;rfl
end
section
attribute [local simp, local push_cast] Wq yd zL aFk vT
theorem c_rsvalid (s:Sch) (hs:SmallS s):ACall Tryz.prog 46 [aS s] [] (num (wz s)) []:=by
 refine zn mixed ttok Tryz.func46 Tryz.ntmps46 Tryz.results46 ?_;generalize hr:num (wz s)=R;have hl:=hs.len;refine Zn ?_;refine za (fun h0=>?_) fun h0=>?_
 ·exact zk trivial (by rw [<-hr,wz,if_pos (Yc h0)];rfl) Zb
 have h0': ¬(s.length:Int)>6:=Yb h0;have hM:wz s=if ui (yT s) s.length≠0 then ui (yT s) s.length
  else if ferr (xk s) s≠0 then ferr (xk s) s else vZ s:=by rw [wz,if_neg h0']
 refine zp mixed ttok 3 [1] [1] Zv Zw s.length (fun n=> ∀i,i<n->yT s i=0) (fun _=>[]) (fun _=>[]) (fun i h=>absurd h (Yu _)) ?_ ?_
 ·exact Ya Zh Zh Zh
 intro I hI n hn hi;refine Zy ?_;refine za (fun h=>?_) fun h=>?_
 ·simp only [Yf] at h;have h':n<s.length:=Za;have hw:=zh h' Za;have hE:yT s n≠0->num (yT s n)=R:=fun hne=>by
   have:=kK h' hi hne;rw [<-hr,hM,this,if_pos hne]
  have hg:s.getD n default∈s:=zm h';refine ⟨Zt,?_⟩;refine zf [[0]] [] (c_rname2 (s.getD n default).name) ?_;refine Zg ?_;refine za (fun g1=>?_) fun g1=>?_
  ·have hc:yT s n=3:=if_pos g1;exact zk trivial (by rw [<-hE (Z0 hc),hc];rfl) Zb
  refine ⟨Zt,?_⟩;refine zf [[6],[0]] [] (c_rfind s (s.getD n default).name Za) ?_;refine Zg ?_;refine ⟨ze Zf,?_⟩;refine za (fun g2=>?_) fun g2=>?_
  ·have g2':uT (byT s (s.getD n default).name)≠n:=by simpa [uT] using g2
   have hc:yT s n=5:=by rw [yT,if_neg (Z0 g1),if_pos ((byT_self s n h').2 g2')]
   exact zk trivial (by rw [<-hE (Z0 hc),hc];rfl) Zb
  have g2': ¬uT (byT s (s.getD n default).name)≠n:=by simpa [uT] using g2
  have hcB:yT s n=xz (s.getD n default):=by rw [yT,if_neg (Z0 g1),if_neg (fun q=>g2' ((byT_self s n h').1 q))]
  refine ⟨Zt,?_⟩;refine zf [[0,3,1,1,2,6]] [] (c_rtable (s.getD n default) (hs.tab _ hg)) ?_;refine Zg ?_;refine za (fun g3=>?_) fun g3=>?_
  ·have g3':yT s n≠0:=by rw [hcB];simpa using g3
   exact zk trivial (Zq (hE g3') hcB) Zb
  ·have g3':yT s n=0:=by rw [hcB];simpa using g3
   exact zo hI n rfl h' (fun i h2=>if h3:i=n then by rw [h3];exact g3' else hi i Za) (Ze hw) (Ze hw) (Ze hw) (Ze hw)
 simp only [Ye] at h;obtain rfl:n=s.length:=Za;have hM2:wz s=if ferr (xk s) s≠0 then ferr (xk s) s else vZ s:=by rw [hM,ur hi,if_neg (by decide)]
 have htab: ∀t∈s,xz t=0:=fun t ht=>by
  obtain ⟨i,h1,h2⟩:=u7 ht;rw [<-h2];exact tabErr_table (hi i h1)
 clear hI hM h hi hn I;refine zp mixed ttok 7 [1] [1] Zv Zw s.length (fun n=> ∀i,i<n->xk s (s.getD i default)=0) (fun _=>[]) (fun _=>[]) (fun i h=>absurd h (Yu _)) ?_ ?_
 ·exact Ya Zh Zh Zh
 intro I hI n hn hi;refine Zy ?_;refine za (fun h=>?_) fun h=>?_
 ·simp only [Yf] at h;have h':n<s.length:=Za;have hw:=zh h' Za;have hg:s.getD n default∈s:=zm h';have hE:xk s (s.getD n default)≠0->num (xk s (s.getD n default))=R:=fun hne=>by
   have:=xK (xk s) s n h' hi hne;rw [<-hr,hM2,this,if_pos hne]
  have hT:=hs.tab _ hg;have hTf:=hT.fors;have hfs:=table_fors (htab _ hg);refine zp mixed ttok 8 [1,7] [1] Zv Zw (s.getD n default).foreigns.length (fun k=> ∀i,i<k->refM s (s.getD n default) ((s.getD n default).foreigns.getD i default)=0) (fun _=>[]) (fun _=>[]) (fun i h=>absurd h (Yu _)) ?_ ?_
  ·exact Ya Zh Zh Zh
  intro J hJ k hk hki;refine Zy ?_;refine ⟨Zt,?_⟩;refine za (fun g=>?_) fun g=>?_
  ·simp only [Yf] at g;have k':k<(s.getD n default).foreigns.length:=Za;have hwk:=zh k' Za;have hfm:=zm k';refine zf [[6],[0],[0]] [] (c_target s n k hl h' k') ?_;refine Zg ?_;have hE2:refM s (s.getD n default) ((s.getD n default).foreigns.getD k default)≠0->num (refM s (s.getD n default) ((s.getD n default).foreigns.getD k default))=R:=fun hne=>by
    have hc:xk s (s.getD n default)=refM s (s.getD n default) ((s.getD n default).foreigns.getD k default):=xK (refM s (s.getD n default)) (s.getD n default).foreigns k k' hki hne;rw [<-hc];exact hE (by rw [hc];exact hne)
   have hz2:refM s (s.getD n default) ((s.getD n default).foreigns.getD k default)=0-> ∀i,i<k+1->refM s (s.getD n default) ((s.getD n default).foreigns.getD i default)=0:=fun hz i h2=>if h3:i=k then by rw [h3];exact hz else hki i Za
   have hcols:=hfs _ hfm;have hlc:=hT.forss _ hfm;generalize hf:(s.getD n default).foreigns.getD k default=f at hE2 hz2 hcols hlc;refine za (fun g1=>?_) fun g1=>?_
   ·have g1':byT s f.table<0:=Zc g1;have hc:refM s (s.getD n default) f=11:=if_pos g1';exact zk trivial (by rw [<-hE2 (Z0 hc),hc];rfl) Zb
   have g1': ¬byT s f.table<0:=Zc g1;have hlt:byT s f.table<s.length:=wh _ _;have hcB:refM s (s.getD n default) f=if uM (s.getD n default) (s.getD (byT s f.table).toNat default) f.columns (s.getD (byT s f.table).toNat default).primary then 0 else 6:=if_neg g1'
   have hUm:s.getD (byT s f.table).toNat default∈s:=zm Za;have hprim:=table_prim (htab _ hUm);simp only [if_neg (show¬0>byT s f.table from Za)];generalize byT s f.table=bt at g1' hlt hcB hprim ⊢;generalize hU:s.getD bt.toNat default=U at hcB hprim;refine ⟨Za,Za,⟨Za,hlt⟩,ze Zf,?_⟩;refine za (fun g2=>?_) fun g2=>?_
   ·have hne:=gK g2;have hc:refM s (s.getD n default) f=6:=by rw [hcB,uM,beq_false_of_ne hne];rfl
    exact zk trivial (by rw [<-hE2 (Z0 hc),hc];rfl) Zb
   have hle:=jA g2;have hcC:refM s (s.getD n default) f=if (List.range f.columns.length).all (fun i=>xy (s.getD n default) (f.columns.getD i default)==xy U (U.primary.getD i default)) then 0 else 6:=by
    rw [hcB,uM,hle,beq_self_eq_true,Yj]
   refine zp mixed ttok 13 [1,7,8,9,11,12] [1] Zv Zw f.columns.length (fun j=> ∀i,i<j->(xy (s.getD n default) (f.columns.getD i default)==xy U (U.primary.getD i default))=true) (fun _=>[]) (fun _=>[]) (fun i h=>absurd h (Yu _)) ?_ ?_
   ·exact Ya Zh Zh Zh
   intro Q hQ j hj hji;refine Zy ?_;refine za (fun q=>?_) fun q=>?_
   ·simp only [Yf] at q;have j':j<f.columns.length:=Za;have hwj:=zh j' Za;obtain ⟨a0,a1⟩:=hcols _ (zm j');obtain ⟨b0,b1⟩:=hprim (U.primary.getD j default) (zm Za);refine ⟨Za,Za,⟨a0,a1⟩,⟨Za,hlt⟩,Za,⟨b0,by rw [hU];exact b1⟩,ze Zf,?_⟩;rw [hU];refine za (fun e=>?_) fun e=>?_
    ·have e':(xy (s.getD n default) (f.columns.getD j default)==xy U (U.primary.getD j default))=false:=by simpa [bne,xy] using e
     have hc:refM s (s.getD n default) f=6:=by rw [hcC,ww (n:=j) j' e'];rfl
     exact zk trivial (by rw [<-hE2 (Z0 hc),hc];rfl) Zb
    ·have e':(xy (s.getD n default) (f.columns.getD j default)==xy U (U.primary.getD j default))=true:=by simpa [bne,xy] using e
     exact zo hQ j rfl j' (fun i h2=>if h3:i=j then by rw [h3];exact e' else hji i Za) (Ze hwj) (Ze hwj) (Ze hwj) (Ze hwj)
   ·simp only [Ye] at q;obtain rfl:j=f.columns.length:=Za;have hc:refM s (s.getD n default) f=0:=by rw [hcC,all_range.2 hji];rfl
    exact zo hJ k rfl k' (hz2 hc) (Ze hwk) (Ze hwk) (Ze hwk) (Ze hwk)
  ·simp only [Ye] at g;obtain rfl:k=(s.getD n default).foreigns.length:=Za;have hz:xk s (s.getD n default)=0:=yJ _ _ hki;exact zo hI n rfl h' (fun i h2=>if h3:i=n then by rw [h3];exact hz else hi i Za) (Ze hw) (Ze hw) (Ze hw) (Ze hw)
 simp only [Ye] at h;obtain rfl:n=s.length:=Za;clear hI;have hz:ferr (xk s) s=0:=yJ (xk s) s hi;have hall: ∀t∈s,∀f∈t.foreigns,0<=byT s f.table:=fun t ht f hf=>refM_at (wv (wv hz t ht) f hf);refine zf [[6]] [] (c_rorder s Za (fun t ht=>(hs.tab t ht).fors) hall) ?_;refine Zg ?_;exact zk trivial (by rw [<-hr,hM2,if_neg (Z0 hz)];rfl) Zb
end
section
attribute [local simp, local push_cast] Wq yd zL aFk vT rTab rRow
theorem c_rfits (s:Sch) (inst:Inst) (hs:SmallS s) (hi:SmallI inst):ACall Tryz.prog 18 [aS s,z7 inst] [] (num (vr s inst)) []:=by
 refine zn mixed ttok Tryz.func18 Tryz.ntmps18 Tryz.results18 ?_;generalize hr:num (vr s inst)=R;have hl:=hs.len;have hli:=hi.len;refine Zn ?_;refine zf [[6]] [] (c_rsvalid s hs) ?_;refine Zg ?_;refine za (fun h0=>?_) fun h0=>?_
 ·have h0':wz s≠0:=Zc h0;exact zk trivial (by rw [<-hr,vr,if_pos h0'];rfl) Zb
 have h0': ¬wz s≠0:=Zc h0;refine za (fun h1=>?_) fun h1=>?_
 ·exact zk trivial (by rw [<-hr,vr,if_neg h0',if_pos (neN_of h1)];rfl) Zb
 have hlen:=jA h1;have hM:vr s inst=ui (uX s inst) s.length:=by rw [vr,if_neg h0',if_neg (eqN_of h1)]
 refine zp mixed ttok 6 [2,3] [2,3] Zv Zw s.length (fun n=> ∀i,i<n->uX s inst i=0) (fun _=>[]) (fun _=>[]) (fun i h=>absurd h (Yu _)) ?_ ?_
 ·exact Ya Zh Zh Zh
 intro I hI n hn hii;refine Zy ?_;refine za (fun h=>?_) fun h=>?_
 ·simp only [Yf] at h;have h':n<s.length:=Za;have hw:=zh h' Za;have hE:uX s inst n≠0->num (uX s inst n)=R:=fun hne=>by
   have:=kK h' hii hne;rw [<-hr,hM,this]
  have hzero:uX s inst n=0-> ∀i,i<n+1->uX s inst i=0:=fun hz i h2=>if h3:i=n then by rw [h3];exact hz else hii i Za
  have hgt:s.getD n default∈s:=zm h';have hgl:inst.getD n default∈inst:=zm Za;have hll:=hi.tab _ hgl;have hlr:=hi.row _ hgl;have hTc:=(hs.tab _ hgt).cols;unfold uX at hE hzero;generalize hT:s.getD n default=T at hE hTc hzero;generalize hL:inst.getD n default=L at hE hll hlr hzero;refine ⟨Za,?_⟩;refine za (fun h2=>?_) fun h2=>?_
  ·have hc:tabF T L=8:=if_pos (Yc h2);exact zk trivial (by rw [<-hE (Z0 hc),hc];rfl) Zb
  have hcT:tabF T L=ferr (xj T) L:=if_neg (Yb h2);rw [hcT] at hE hzero;refine zp mixed ttok 7 [2,3,6] [2,3] Zv Zw L.length (fun k=> ∀i,i<k->xj T (L.getD i default)=0) (fun _=>[]) (fun _=>[]) (fun i h=>absurd h (Yu _)) ?_ ?_
  ·exact Ya Zh Zh Zh
  intro J hJ k hk hki;simp -implicitDefEqProofs only [cst,hL,↓zb,push_cast,simprocAttr,tt];refine ⟨Za,?_⟩;refine za (fun g=>?_) fun g=>?_
  ·simp only [Yf] at g;have k':k<L.length:=Za;have hwk:=zh k' Za;have hrm:L.getD k default∈L:=zm k';have hrl:=hlr _ hrm;have hE2:xj T (L.getD k default)≠0->num (xj T (L.getD k default))=R:=fun hne=>by
    have:=xK (xj T) L k k' hki hne;rw [<-hE (by rw [this];exact hne),this]
   have hzero2:xj T (L.getD k default)=0-> ∀i,i<k+1->xj T (L.getD i default)=0:=fun hz i h2=>if h3:i=k then by rw [h3];exact hz else hki i Za
   generalize hW:L.getD k default=W at hE2 hzero2 hrl;refine ⟨Za,Za,Za,?_⟩;rw [hT];refine za (fun h3=>?_) fun h3=>?_
   ·have hc:xj T W=9:=if_pos (neN_of h3);exact zk trivial (by rw [<-hE2 (Z0 hc),hc];rfl) Zb
   have hWl:=jA h3;have hcW:xj T W=if (List.range W.length).all (fun j=> !badV (T.columns.getD j default) (W.getD j default)) then 0 else 4:=if_neg (eqN_of h3)
   refine zp mixed ttok 9 [2,3,6,7,8] [2,3] Zv Zw W.length (fun j=> ∀i,i<j->(!badV (T.columns.getD i default) (W.getD i default))=true) (fun _=>[]) (fun _=>[]) (fun i h=>absurd h (Yu _)) ?_ ?_
   ·exact Ya Zh Zh Zh
   intro Q hQ j hj hji;simp -implicitDefEqProofs only [cst,hL,hT,↓zb,push_cast,simprocAttr,tt];refine za (fun q=>?_) fun q=>?_
   ·simp only [Yf] at q;have j':j<W.length:=Za;have hwj:=zh j' Za;refine ⟨Zt,?_⟩;have hbad:badV (T.columns.getD j default) (W.getD j default)=true->num 4=R:=fun hb=>by
     have:xj T W=4:=by rw [hcW,ww (n:=j) j' (Z5 hb)];rfl
     rw [<-hE2 (Z0 this),this]
    have hgood:badV (T.columns.getD j default) (W.getD j default)=false-> ∀i,i<j+1->(!badV (T.columns.getD i default) (W.getD i default))=true:=fun hb i h2=>if h3:i=j then by rw [h3,hb];rfl else hji i Za
    refine zf [[0,0,0]] [] (kQ (W.getD j default)) ?_;refine Zx hT ?_;refine za (fun v1=>?_) fun v1=>?_
    ·refine ⟨ze Zf,?_⟩;exact zk trivial (hbad (by rw [badV,v1,Yy])) Zb
    refine ⟨Za,?_⟩;refine za (fun v2=>?_) fun v2=>?_
    ·refine ⟨Za,Za,Za,ze Zf,?_⟩;refine za (fun v3=>?_) fun v3=>?_
     ·exact zk trivial (hbad (by rw [badV,v2,v3];simp)) Zb
     ·exact zo hQ j rfl j' (hgood (by rw [badV,v1,v3];simp)) (Ze hwj) (Ze hwj) (Ze hwj) (Ze hwj)
    ·refine ⟨ze Zf,?_⟩;exact zo hQ j rfl j' (hgood (by rw [badV,v1,v2];simp)) (Ze hwj) (Ze hwj) (Ze hwj) (Ze hwj)
   ·simp only [Ye] at q;obtain rfl:j=W.length:=Za;have hz:xj T W=0:=by rw [hcW,all_range.2 hji];rfl
    exact zo hJ k rfl k' (hzero2 hz) (Ze hwk) (Ze hwk) (Ze hwk) (Ze hwk)
  ·simp only [Ye] at g;obtain rfl:k=L.length:=Za;exact zo hI n rfl h' (hzero (yJ (xj T) L hki)) (Ze hw) (Ze hw) (Ze hw) (Ze hw)
 ·simp only [Ye] at h;obtain rfl:n=s.length:=Za;exact zk trivial (ZK hr hM (ur hii)) Zb
end
end Go.Proofs.YtnmibokjpedkiaaGreatDoor
