/- Made queries answer as specified (part Wc) -/
import Derived.Test.YtnmibokjpedkiaaGreatDoorWb
set_option maxRecDepth 100000
set_option maxHeartbeats 4000000
set_option linter.all false
namespace Go.Proofs.YtnmibokjpedkiaaGreatDoor
open Go.Am
section
attribute [local simp, local push_cast] Ta yj zQ aFk vT rTab rRow
def badV (c:Col) (v:Val):Bool:= !zO v || ((v.kind !=0)&&(v.kind !=c.type))
def xq (t:Tbl) (r:Row):Int:=if (r.length:Int)≠t.columns.length then 9 else if (List.range r.length).all (fun j=> !badV (t.columns.getD j default) (r.getD j default)) then 0 else 4
def tabF (t:Tbl) (l:Tab2):Int:=if (l.length:Int)>200 then 8 else ferr (xq t) l
def jt (s:Sch) (i:Inst) (n:Nat):Int:=tabF (s.getD n default) (i.getD n default)
def we (s:Sch) (i:Inst):Int:=
 if xY s≠0 then xY s else if (i.length:Int)≠s.length then 9 else uy (jt s i) s.length
structure SmallI (i:Inst):Prop where
 len:i.length<=1000
 tab: ∀l∈i,l.length<=1000
 row: ∀l∈i,∀r∈l,r.length<=1000
theorem eqN_of {a b:Nat} (h:((a:Int) !=(b:Int))=false): ¬(a:Int)≠b:=by have:=kd h;omega
theorem neN_of {a b:Nat} (h:((a:Int) !=(b:Int))=true):(a:Int)≠b:=by have:=ne_nat h;omega
theorem XS {p:Prop} (h:p:=by rw [<-hE2 (by rw [hc];decide),hc];rfl):p:=h
theorem NM{p:Prop}(h:p:=by
 refine za (fun v3=>?_) fun v3=>?_
 ·exact zm trivial (hbad (by rw [badV,v2,v3];simp)) Zb
 ·exact zp hQ j rfl j' (hgood (by rw [badV,v1,v3];simp)) (Ze hwj) (Ze hwj) (Ze hwj) (Ze hwj)):p:=h
theorem NW{p:Prop}(h:p:=by
 simp only [Ye] at q;obtain rfl:j=W.length:=Za;have hz:xq T W=0:=by rw [hcW,all_range.2 hji];rfl
 exact zp hJ k rfl k' (hzero2 hz) (Ze hwk) (Ze hwk) (Ze hwk) (Ze hwk)):p:=h
theorem JD{p:Prop}(h:p:=by
 simp only [Ye] at g;obtain rfl:k=L.length:=Za;exact zp hI n rfl h' (hzero (yQ (xq T) L hki)) (Ze hw) (Ze hw) (Ze hw) (Ze hw)):p:=h
theorem JQ{p:Prop}(h:p:=by
 refine ⟨ze Zg,?_⟩;exact zp hQ j rfl j' (hgood (by rw [badV,v1,v2];simp)) (Ze hwj) (Ze hwj) (Ze hwj) (Ze hwj)):p:=h
theorem KA{p:Prop}(h:p:=by
 have:xq T W=4:=by rw [hcW,wT (n:=j) j' (by rw [hb];rfl)];rfl
 rw [<-hE2 (Z8 this),this]):p:=h
theorem KB{p:Prop}(h:p:=by
 simp only [Ye] at h;obtain rfl:n=s.length:=Za;exact zm trivial (ZI hr hM (uG hii)) Zb):p:=h
theorem Gb{p:Prop}(h:p:=by
 have h0':xY s≠0:=Zc h0;exact zm trivial (by rw [<-hr,we,if_pos h0'];rfl) Zb):p:=h
theorem Gi{p:Prop}(h:p:=by
 refine ⟨ze Zg,?_⟩;exact zm trivial (hbad (by rw [badV,v1,Yz])) Zb):p:=h
theorem Gm{p:Prop}(h:p:=by
 have:=xV (xq T) L k k' hki hne;rw [<-hE (by rw [this];exact hne),this]):p:=h
theorem c_fits (s:Sch) (inst:Inst) (hs:SmallS s) (hi:SmallI inst):ACall Tryz.prog 17 [aS s,z8 inst] [] (num (we s inst)) []:=by
 refine zn mixed ttok Tryz.func17 Tryz.ntmps17 Tryz.results17 ?_;generalize hr:num (we s inst)=R;have hl:=hs.len;have hli:=hi.len;refine Zn ?_;refine zg [[6]] [] (c_svalid s hs) ?_;refine Zf ?_;refine za (fun h0=>?_) fun h0=>?_
 ·exact Gb
 have h0': ¬xY s≠0:=Zc h0;refine za (fun h1=>?_) fun h1=>?_
 ·exact zm trivial (by rw [<-hr,we,if_neg h0',if_pos (neN_of h1)];rfl) Zb
 have hlen:=kd h1;have hM:we s inst=uy (jt s inst) s.length:=by rw [we,if_neg h0',if_neg (eqN_of h1)]
 refine zq mixed ttok 27 [2,3,25,26] [2,3] Zv Zw s.length (fun n=> ∀i,i<n->jt s inst i=0) (fun _=>[]) (fun _=>[]) (fun i h=>absurd h (Yu _)) ?_ ?_
 ·exact Ya Zh Zh Zh
 intro I hI n hn hii;refine Zx ?_;refine za (fun h=>?_) fun h=>?_
 ·simp only [Yg] at h;have h':n<s.length:=Za;have hw:=zh h' Za;have hE:jt s inst n≠0->num (jt s inst n)=R:=fun hne=>by
   have:=qf h' hii hne;rw [<-hr,hM,this]
  have hzero:jt s inst n=0-> ∀i,i<n+1->jt s inst i=0:=fun hz i h2=>if h3:i=n then by rw [h3];exact hz else hii i Za
  have hgt:s.getD n default∈s:=zk h';have hgl:inst.getD n default∈inst:=zk Za;have hll:=hi.tab _ hgl;have hlr:=hi.row _ hgl;have hTc:=(hs.tab _ hgt).cols;unfold jt at hE hzero;generalize hT:s.getD n default=T at hE hTc hzero;generalize hL:inst.getD n default=L at hE hll hlr hzero;refine ⟨Zs,Za,?_⟩;refine za (fun h2=>?_) fun h2=>?_
  ·have hc:tabF T L=8:=if_pos (Yd h2);exact zm trivial ZX Zb
  have hcT:tabF T L=ferr (xq T) L:=if_neg (Yc h2);rw [hcT] at hE hzero;refine ⟨Za,?_⟩;refine zq mixed ttok 45 [2,3,7,25,26,27,43,44] [2,3,7] Zv Zw L.length (fun k=> ∀i,i<k->xq T (L.getD i default)=0) (fun _=>[]) (fun _=>[]) (fun i h=>absurd h (Yu _)) ?_ ?_
  ·exact Ya Zh Zh Zh
  intro J hJ k hk hki;refine Zx ?_;refine za (fun g=>?_) fun g=>?_
  ·simp only [Yg] at g;have k':k<L.length:=Za;have hwk:=zh k' Za;have hrm:L.getD k default∈L:=zk k';have hrl:=hlr _ hrm;have hE2:xq T (L.getD k default)≠0->num (xq T (L.getD k default))=R:=fun hne=>by
    exact Gm
   have hzero2:xq T (L.getD k default)=0-> ∀i,i<k+1->xq T (L.getD i default)=0:=fun hz i h2=>if h3:i=k then by rw [h3];exact hz else hki i Za
   generalize hW:L.getD k default=W at hE2 hzero2 hrl;refine ⟨Zs,?_⟩;refine za (fun h3=>?_) fun h3=>?_
   ·have hc:xq T W=9:=if_pos (neN_of h3);exact zm trivial XS Zb
   have hWl:=kd h3;have hcW:xq T W=if (List.range W.length).all (fun j=> !badV (T.columns.getD j default) (W.getD j default)) then 0 else 4:=if_neg (eqN_of h3)
   refine zq mixed ttok 57 [2,3,7,25,26,27,43,44,45,55,56] [2,3,7] Zv Zw W.length (fun j=> ∀i,i<j->(!badV (T.columns.getD i default) (W.getD i default))=true) (fun _=>[]) (fun _=>[]) (fun i h=>absurd h (Yu _)) ?_ ?_
   ·exact Ya Zh Zh Zh
   intro Q hQ j hj hji;refine Zx ?_;refine za (fun q=>?_) fun q=>?_
   ·simp only [Yg] at q;have j':j<W.length:=Za;have hwj:=zh j' Za;refine ⟨Zs,?_⟩;have hbad:badV (T.columns.getD j default) (W.getD j default)=true->num 4=R:=fun hb=>by
     exact KA
    have hgood:badV (T.columns.getD j default) (W.getD j default)=false-> ∀i,i<j+1->(!badV (T.columns.getD i default) (W.getD i default))=true:=fun hb i h2=>if h3:i=j then by rw [h3,hb];rfl else hji i Za
    refine zg [[0,0,0]] [] (u0 (W.getD j default)) ?_;refine Zf ?_;refine za (fun v1=>?_) fun v1=>?_
    ·exact Gi
    refine za (fun v2=>?_) fun v2=>?_
    ·refine ⟨Za,ze Zg,?_⟩;exact NM
    ·exact JQ
   ·exact NW
  ·exact JD
 ·exact KB
end
section
attribute [local simp, local push_cast] Ta yj zQ aFk vT
theorem qn (l:List Int) (v:Int) (hl:l.length≤1000000000):ACall Tryz.prog 237 [ints l,num v] [] (boo (l.all fun x=>x==v)) []:=by
 refine zn mixed ttok Tryz.func237 Tryz.ntmps237 Tryz.results237 ?_;generalize hr:boo (l.all fun x=>x==v)=R;refine Zn ?_;refine zq mixed ttok 5 [0,1] [] Zv Zw l.length (fun n=> ∀i,i<n->(l.getD i default==v)=true) (fun _=>[]) (fun _=>[]) (fun i h=>absurd h (Yu _)) ?_ ?_
 ·exact Ya Zh Zh Zh
 intro I hI n hn hi;refine Zx ?_;refine za (fun h=>?_) fun h=>?_
 ·simp only [Yg] at h;have h':n<l.length:=Za;have hw:=zh h' Za;refine ⟨Zs,?_⟩;refine za (fun g=>?_) fun g=>?_
  ·have:(l.all fun x=>x==v)=false:=by
    rw [List.all_eq_false];exact ⟨_,zk h',Zc g⟩
   exact MI
  ·have g':(l.getD n default==v)=true:=Zc g;exact M5
 ·simp only [Ye] at h;obtain rfl:n=l.length:=Za;have:(l.all fun x=>x==v)=true:=by
   rw [Ua];intro x hx;obtain ⟨i,h1,rfl⟩:=uS hx;exact hi i h1
  exact MI
def y5 (op n:Int):Bool:=
 if op<=5 then n==0 else if (((op==11 || op==13) || op==21) || op==24) || op==25 then n==1
 else if op==26 then n==3 else if op==28 then decide (n≥2) else n==2
theorem c_rkids (op n:Int):ACall Tryz.prog 132 [num op,num n] [] (boo (y5 op n)) []:=by
 refine zn mixed ttok Tryz.func132 Tryz.ntmps132 Tryz.results132 ?_;generalize hr:boo (y5 op n)=R;refine Zn ?_;refine za (fun h1=>?_) fun h1=>?_
 ·exact zm trivial (by rw [<-hr,y5,if_pos (Yd h1)];rfl) Zb
 have hk:y5 op n=if (((op==11 || op==13) || op==21) || op==24) || op==25 then n==1 else if op==26 then n==3 else if op==28 then decide (n≥2) else n==2:=if_neg (Yc h1)
 repeat' first
  | exact zm trivial (by rw [<-hr,hk];simp only [*,Yz,Y4,Y7,Yx,Yq,if_true,if_false,boo]) Zb
  | (refine za (fun _=>?_) fun _=>?_)
theorem op_cases {op:Int} (h:isOp op=true): ∃n:Nat,n<29/\1<=n/\op=n:=by
 simp only [isOp,Yy,Yg] at h;exact ⟨op.toNat,Za,Za,Za⟩
set_option synthInstance.maxSize 4000 in
set_option synthInstance.maxHeartbeats 400000 in
theorem kids_tab0: ∀n∈List.range 29,n=0\/(n=1\/n=2\/n=3\/n=4\/n=5)/\(opTab.getD n default).kids=0\/(n=11\/n=13\/n=21\/n=24\/n=25)/\(opTab.getD n default).kids=1\/
 n=26/\(opTab.getD n default).kids=3\/n=28/\(opTab.getD n default).kids=2\/
 (n=6\/n=7\/n=8\/n=9\/n=10\/n=12\/n=14\/n=15\/n=16\/n=17\/n=18\/n=19\/n=20\/n=22\/n=23\/n=27)/\(opTab.getD n default).kids=2:=Zi
theorem kids_tab (n:Nat) (h1:n<29) (h2:1<=n):(((n:Int)<=5 ↔ (opTab.getD n default).kids=0)/\(((((n:Int)=11\/(n:Int)=13)\/(n:Int)=21)\/(n:Int)=24)\/(n:Int)=25 ↔ (opTab.getD n default).kids=1)/\
 ((n:Int)=26 ↔ (opTab.getD n default).kids=3)/\((opTab.getD n default).kids=0\/(opTab.getD n default).kids=1\/(opTab.getD n default).kids=2\/(opTab.getD n default).kids=3)/\
 ((n:Int)=28->(opTab.getD n default).kids=2)):=by
 have:=kids_tab0 n (Zc h1);generalize (opTab.getD n default).kids=k at this;omega
theorem qB {e:Ex} (h:isOp e.op=true):y5 e.op e.kids.length=yU e:=by
 obtain ⟨n,h1,h2,h3⟩:=op_cases h;have hf:(yW e.op).kids=(opTab.getD n default).kids:=by rw [yW,h,if_pos rfl,opAt,h3,YA]
 obtain ⟨a1,a2,a3,a4,a5⟩:=kids_tab n h1 h2;rw [yU,h,hf,Yo,y5,h3];generalize (opTab.getD n default).kids=k at a1 a2 a3 a4 a5;generalize e.kids.length=m;rw [Ud];simp only [Ul,Yy,beq_iff_eq,Yg];by_cases b1:(n:Int)<=5
 ·rw [if_pos b1];simp only [beq_iff_eq];have:=a1.1 b1;omega
 ·rw [if_neg b1];by_cases b2:((((n:Int)=11\/(n:Int)=13)\/(n:Int)=21)\/(n:Int)=24)\/(n:Int)=25
  ·rw [if_pos b2];simp only [beq_iff_eq];have:=a2.1 b2;omega
  ·rw [if_neg b2];by_cases b3:(n:Int)=26
   ·rw [if_pos b3];simp only [beq_iff_eq];have:=a3.1 b3;omega
   ·rw [if_neg b3];have c1: ¬k=0:=fun e=>b1 (a1.2 e);have c2: ¬k=1:=fun e=>b2 (a2.2 e);have c3: ¬k=3:=fun e=>b3 (a3.2 e);by_cases b4:(n:Int)=28
    ·rw [if_pos b4];simp only [Yg];have:=a5 b4;omega
    ·rw [if_neg b4];simp only [beq_iff_eq];omega
theorem X4 {p:Prop} (h:p:=by rw [<-hr,hM];simp only [*,Yo,YT,Yl,YI,boo]):p:=h
theorem ML{p:Prop}(h:p:=by
 rw [g1,yC,g2,yC]
 repeat' first | (refine za (fun _=>?_) fun _=>?_) | exact zm trivial X4 Zb):p:=h
theorem Ki{p:Prop}(h:p:=by
 exact zm trivial (ZI hr hM ha) Zb):p:=h
theorem c_plain (e:Ex):ACall Tryz.prog 219 [aE e] [] (boo (isOp e.op&&yu e)) []:=by
 refine zn mixed ttok Tryz.func219 Tryz.ntmps219 Tryz.results219 ?_;generalize hr:boo (isOp e.op&&yu e)=R;have he:(ByteArray.mk #[]).toList=[]:=ZZ;have he2:ByteArray.empty.toList=[]:=ZZ;have hh:(([]:List UInt8)==[])=true:=rfl;have h00:((0:Int)==0)=true:=rfl;have hv1:zO ⟨1,e.num,ByteArray.empty⟩=(decide (e.num≥ -1000000000000)&&decide (e.num<=1000000000000)):=by simp [zO,he2]
 have hv2:zO ⟨2,e.num,ByteArray.empty⟩=((e.num==0) || (e.num==1)):=by simp [zO,he2]
 simp -implicitDefEqProofs only [argT,he,he2,hh,h00,↓zb,push_cast,simprocAttr,tt];refine za (fun k1=>?_) fun k1=>?_
 ·have hk:e.op=1:=Zc k1;have g1:decide (e.op≥1)=true:=Z8 hk;have g2:decide (e.op<=28)=true:=Z8 hk;have hM:(isOp e.op&&yu e)=((((((e.type==1 || e.type==2) || e.type==3)&&true)&&(e.num==0))&&(e.text.toList==[]))&&(e.col==0)):=by simp [yu,isOp,okF,noT,noN,noX,noC,hk]
  refine za (fun a1=>?_) fun a1=>?_
  ·have ha:((e.type==1 || e.type==2) || e.type==3)=false:=by simp at a1 ⊢;omega
   exact Ki
  refine za (fun a2=>?_) fun a2=>?_
  ·have ha:((e.type==1 || e.type==2) || e.type==3)=false:=by simp at a2 ⊢;omega
   exact Ki
  have ha:((e.type==1 || e.type==2) || e.type==3)=true:=by simp at a1 a2 ⊢;omega
  rw [ha] at hM;clear ha a1 a2 hk k1;exact ML
 refine za (fun k2=>?_) fun k2=>?_
 ·have hk:e.op=2:=Zc k2;have g1:decide (e.op≥1)=true:=Z8 hk;have g2:decide (e.op<=28)=true:=Z8 hk;have hM:(isOp e.op&&yu e)=(((((decide (e.num≥ -1000000000000)&&decide (e.num<=1000000000000))&&(e.type==0))&&true)&&(e.text.toList==[]))&&(e.col==0)):=by rw [<-hv1];simp [yu,isOp,okF,noT,noN,noX,noC,hk]
  refine za (fun a1=>?_) fun a1=>?_
  ·have ha:decide (e.num≥ -1000000000000)=false:=by simp at a1 ⊢;omega
   exact Ki
  refine za (fun a2=>?_) fun a2=>?_
  ·have ha:decide (e.num≤1000000000000)=false:=by simp at a2 ⊢;omega
   exact zm trivial (by rw [<-hr,hM,ha,YI];rfl) Zb
  have ha:decide (e.num≥ -1000000000000)=true:=by simp at a1 ⊢;omega
  have ha2:decide (e.num<=1000000000000)=true:=by simp at a2 ⊢;omega
  rw [ha,ha2] at hM;clear ha ha2 a1 a2 hk k1 k2 hv1 hv2;exact ML
 refine za (fun k3=>?_) fun k3=>?_
 ·have hk:e.op=3:=Zc k3;have g1:decide (e.op≥1)=true:=Z8 hk;have g2:decide (e.op<=28)=true:=Z8 hk;have hM:(isOp e.op&&yu e)=((((((e.num==0) || (e.num==1))&&(e.type==0))&&true)&&(e.text.toList==[]))&&(e.col==0)):=by rw [<-hv2];simp [yu,isOp,okF,noT,noN,noX,noC,hk]
  have hT: ∀ha:((e.num==0) || (e.num==1))=true,(isOp e.op&&yu e)=((((true&&(e.type==0))&&true)&&(e.text.toList==[]))&&(e.col==0)):=fun ha=>by rw [hM,ha]
  refine za (fun a1=>?_) fun a1=>?_
  ·refine za (fun a2=>?_) fun a2=>?_
   ·have ha:((e.num==0) || (e.num==1))=false:=by simp at a1 a2 ⊢;omega
    exact Ki
   ·replace hM:=hT (by simp at a2 ⊢;omega)
    clear hT a1 a2 hk k1 k2 k3 hv1 hv2;exact ML
  ·replace hM:=hT (by simp at a1 ⊢;omega)
   clear hT a1 hk k1 k2 k3 hv1 hv2;exact ML
 refine za (fun k4=>?_) fun k4=>?_
 ·have hk:e.op=4:=Zc k4;have g1:decide (e.op≥1)=true:=Z8 hk;have g2:decide (e.op<=28)=true:=Z8 hk;have hM:(isOp e.op&&yu e)=((((zO ⟨3,0,e.text⟩&&(e.type==0))&&(e.num==0))&&true)&&(e.col==0)):=by simp [yu,isOp,okF,noT,noN,noX,noC,hk]
  refine zg [[0,0,0]] [] (qm ⟨3,0,e.text⟩) ?_;simp -implicitDefEqProofs only [he,he2,hh,h00,↓zb,push_cast,simprocAttr,tt];refine za (fun a1=>?_) fun a1=>?_
  ·have ha:zO ⟨3,0,e.text⟩=false:=Zc a1;exact Ki
  have ha:zO ⟨3,0,e.text⟩=true:=Zc a1;rw [ha] at hM;clear ha a1 hk k1 k2 k3 k4 hv1 hv2;exact ML
 refine za (fun k5=>?_) fun k5=>?_
 ·have hk:e.op=5:=Zc k5;have g1:decide (e.op≥1)=true:=Z8 hk;have g2:decide (e.op<=28)=true:=Z8 hk;have hM:(isOp e.op&&yu e)=((((true&&(e.type==0))&&(e.num==0))&&(e.text.toList==[]))&&true):=by simp [yu,isOp,okF,noT,noN,noX,noC,hk]
  clear hk k1 k2 k3 k4 k5 hv1 hv2;exact ML
 have hk1: ¬e.op=1:=Zc k1;have hk2: ¬e.op=2:=Zc k2;have hk3: ¬e.op=3:=Zc k3;have hk4: ¬e.op=4:=Zc k4;have hk5: ¬e.op=5:=Zc k5;have hM:(isOp e.op&&yu e)=((((((decide (e.op≥1)&&decide (e.op<=28))&&true)&&(e.type==0))&&(e.num==0))&&(e.text.toList==[]))&&(e.col==0)):=by
  have:yu e=((((true&&(e.type==0))&&(e.num==0))&&(e.text.toList==[]))&&(e.col==0)):=by simp [yu,okF,noT,noN,noX,noC,hk1,hk2,hk3,hk4,hk5]
  rw [this,isOp];simp only [ge_iff_le,Yo,YT,Bool.and_assoc]
 clear hk1 hk2 hk3 hk4 hk5 k1 k2 k3 k4 k5 hv1 hv2
 repeat' first | (refine za (fun _=>?_) fun _=>?_) | exact zm trivial X4 Zb
def zY (op:Int):Bool:=((((op==6 || op==7) || op==8) || op==9) || op==10) || op==11
def zU (op:Int):Bool:=((op==22 || op==23) || op==24) || op==25
def yw (l:List Int) (v:Int):Bool:=l.all fun x=>x==v
def zz (ts:List Int) (e:Ex) (l:List Int):Int:=
 if e.op==1 then e.type else if e.op==2 then 1 else if e.op==3 then 2 else if e.op==4 then 3 else if e.op==5 then ts.getD e.col.toNat default
 else if zY e.op then (if yw l 1 then 1 else 0)
 else if e.op==12 then (if yw l 3 then 3 else 0)
 else if e.op==13 then (if yw l 3 then 1 else 0)
 else if e.op==21 then 2
 else if zU e.op then (if yw l 2 then 2 else 0)
 else if e.op==26 then (if (l.getD 0 default==2)&&(l.getD 1 default==l.getD 2 default) then l.getD 1 default else 0)
 else if e.op==27 then (if l.getD 0 default==l.getD 1 default then l.getD 0 default else 0)
 else (if yw l (l.getD 0 default) then 2 else 0)
theorem kF {b:Bool} {p q:Prop} (h:b=true) (x:p):vH b p q:=by subst h;exact yC _ _ ▸ x
theorem WN {p:Prop} (h:p:=by simp only [zz,zY,zU,yw,h1,h2,h3,h4,h5,h6,g,Yz,Y4,Y7,Yx,YC,Yo,Yl,Y8,Yq,if_true,if_false]):p:=h
theorem WO {p:Prop} (h:p:=by simp only [zz,zY,zU,yw,h1,h2,h3,h4,h5,h6,h7,g,Yz,Y4,Y7,Yx,YC,Yo,Yl,Y8,Yq,if_true,if_false]):p:=h
theorem WP {p:Prop} (h:p:=by simp only [zz,zY,zU,yw,h1,h2,h3,h4,h5,h6,h7,h8,g,Yz,Y4,Y7,Yx,YC,Yo,Yl,Y8,Yq,if_true,if_false]):p:=h
theorem WQ {p:Prop} (h:p:=by simp only [zz,zY,zU,yw,h1,h2,h3,h4,h5,h6,h7,h8,h9,g,Yz,Y4,Y7,Yx,YC,Yo,Yl,Y8,Yq,if_true,if_false]):p:=h
theorem WR {p:Prop} (h:p:=by simp only [zz,zY,zU,yw,h1,h2,h3,h4,h5,h6,h7,h8,h9,h10,g,Yz,Y4,Y7,Yx,YC,Yo,Yl,Y8,Yq,if_true,if_false]):p:=h
theorem WS {p:Prop} (h:p:=by simp only [zz,zY,zU,yw,h1,h2,h3,h4,h5,h6,h7,h8,h9,h10,h11,g,Yz,Y4,Y7,Yx,YC,Yo,Yl,Y8,Yq,if_true,if_false]):p:=h
theorem WT {p:Prop} (h:p:=by simp only [zz,zY,zU,yw,h1,h2,h3,h4,h5,h6,h7,h8,h9,h10,h11,h12,g,Yz,Y4,Y7,Yx,YC,Yo,Yl,Y8,Yq,if_true,if_false]):p:=h
theorem WU {p:Prop} (h:p:=by simp only [zz,zY,zU,yw,h1,h2,h3,h4,h5,h6,h7,h8,h9,h10,h11,h12,h13,g,Yz,Y4,Y7,Yx,YC,Yo,Yl,Y8,Yq,if_true,if_false]):p:=h
theorem WV {p:Prop} (h:p:=by simp only [zz,zY,zU,yw,h1,h2,h3,h4,h5,h6,h7,h8,h9,h10,h11,h12,h13,h21,h22,g,Yz,Y4,Y7,Yx,YC,Yo,Yl,Y8,Yq,if_true,if_false]):p:=h
theorem WW {p:Prop} (h:p:=by simp only [zz,zY,zU,yw,h1,h2,h3,h4,h5,h6,h7,h8,h9,h10,h11,h12,h13,h21,h22,h23,g,Yz,Y4,Y7,Yx,YC,Yo,Yl,Y8,Yq,if_true,if_false]):p:=h
theorem WX {p:Prop} (h:p:=by simp only [zz,zY,zU,yw,h1,h2,h3,h4,h5,h6,h7,h8,h9,h10,h11,h12,h13,h21,h22,h23,h24,g,Yz,Y4,Y7,Yx,YC,Yo,Yl,Y8,Yq,if_true,if_false]):p:=h
theorem WY {p:Prop} (h:p:=by simp only [zz,zY,zU,yw,h1,h2,h3,h4,h5,h6,h7,h8,h9,h10,h11,h12,h13,h21,h22,h23,h24,h25,g,Yz,Y4,Y7,Yx,YC,Yo,Yl,Y8,Yq,if_true,if_false]):p:=h
theorem WZ {p:Prop} (h:p:=by simp only [zz,zY,zU,yw,h1,h2,h3,h4,h5,h6,h7,h8,h9,h10,h11,h12,h13,h21,h22,h23,h24,h25,h26,a1,a2,Yz,Y4,Y7,Yx,YC,Yo,Yl,Y8,Yq,if_true,if_false]):p:=h
theorem Va {p:Prop} (h:p:=by simp only [zz,zY,zU,yw,h1,h2,h3,h4,h5,h6,h7,h8,h9,h10,h11,h12,h13,h21,h22,h23,h24,h25,h26,h27,a1,Yz,Y4,Y7,Yx,YC,Yo,Yl,Y8,Yq,if_true,if_false]):p:=h
theorem Vb {p:Prop} (h:p:=by simp only [zz,zY,zU,yw,h1,h2,h3,h4,h5,h6,h7,h8,h9,h10,h11,h12,h13,h21,h22,h23,h24,h25,h26,h27,g,Yz,Y4,Y7,Yx,YC,Yo,Yl,Y8,Yq,if_true,if_false]):p:=h
theorem Mv{p:Prop}(h:p:=by
 exact zm trivial (Zo hr hv) Zb):p:=h
theorem c_result (ts:List Int) (e:Ex) (l:List Int) (hl:l.length≤1000000000) (hc5:e.op=5→0≤e.col∧e.col<ts.length) (hc26:e.op=26→l.length=3) (hc27:e.op=27→l.length=2)
 (hE:isOp e.op=true->5<e.op->0<l.length) (ho:isOp e.op=true):ACall Tryz.prog 220 [ints ts,aE e,ints l] [] (num (zz ts e l)) []:=by
 refine zn mixed ttok Tryz.func220 Tryz.ntmps220 Tryz.results220 ?_;generalize hr:num (zz ts e l)=R;refine Zn ?_;have hop:=hE ho;refine za (fun h1=>?_) fun h1=>?_
 ·have hv:zz ts e l=e.type:=by simp only [zz,zY,zU,yw,h1,Yz,Y4,Y7,Yx,YC,Yo,Yl,Y8,Yq,if_true,if_false]
  exact Mv
 refine za (fun h2=>?_) fun h2=>?_
 ·have hv:zz ts e l=1:=by simp only [zz,zY,zU,yw,h1,h2,Yz,Y4,Y7,Yx,YC,Yo,Yl,Y8,Yq,if_true,if_false]
  exact Mv
 refine za (fun h3=>?_) fun h3=>?_
 ·have hv:zz ts e l=2:=by simp only [zz,zY,zU,yw,h1,h2,h3,Yz,Y4,Y7,Yx,YC,Yo,Yl,Y8,Yq,if_true,if_false]
  exact Mv
 refine za (fun h4=>?_) fun h4=>?_
 ·have hv:zz ts e l=3:=by simp only [zz,zY,zU,yw,h1,h2,h3,h4,Yz,Y4,Y7,Yx,YC,Yo,Yl,Y8,Yq,if_true,if_false]
  exact Mv
 refine za (fun h5=>?_) fun h5=>?_
 ·refine ⟨hc5 (Zc h5),?_⟩;have hv:zz ts e l=ts.getD e.col.toNat default:=by simp only [zz,zY,zU,yw,h1,h2,h3,h4,h5,Yz,Y4,Y7,Yx,YC,Yo,Yl,Y8,Yq,if_true,if_false]
  exact Mv
 refine za (fun h6=>?_) fun h6=>?_
 ·refine kF h6 ?_;refine zg [[1],[0]] [] (qn l 1 hl) ?_;refine Zf ?_;refine za (fun g=>?_) fun g=>?_
  ·have hv:zz ts e l=1:=WN;exact Mv
  ·have hv:zz ts e l=0:=WN;exact Mv
 refine za (fun h7=>?_) fun h7=>?_
 ·refine kF h7 ?_;refine zg [[1],[0]] [] (qn l 1 hl) ?_;refine Zf ?_;refine za (fun g=>?_) fun g=>?_
  ·have hv:zz ts e l=1:=WO;exact Mv
  ·have hv:zz ts e l=0:=WO;exact Mv
 refine za (fun h8=>?_) fun h8=>?_
 ·refine kF h8 ?_;refine zg [[1],[0]] [] (qn l 1 hl) ?_;refine Zf ?_;refine za (fun g=>?_) fun g=>?_
  ·have hv:zz ts e l=1:=WP;exact Mv
  ·have hv:zz ts e l=0:=WP;exact Mv
 refine za (fun h9=>?_) fun h9=>?_
 ·refine kF h9 ?_;refine zg [[1],[0]] [] (qn l 1 hl) ?_;refine Zf ?_;refine za (fun g=>?_) fun g=>?_
  ·have hv:zz ts e l=1:=WQ;exact Mv
  ·have hv:zz ts e l=0:=WQ;exact Mv
 refine za (fun h10=>?_) fun h10=>?_
 ·refine kF h10 ?_;refine zg [[1],[0]] [] (qn l 1 hl) ?_;refine Zf ?_;refine za (fun g=>?_) fun g=>?_
  ·have hv:zz ts e l=1:=WR;exact Mv
  ·have hv:zz ts e l=0:=WR;exact Mv
 refine za (fun h11=>?_) fun h11=>?_
 ·refine zg [[1],[0]] [] (qn l 1 hl) ?_;refine Zf ?_;refine za (fun g=>?_) fun g=>?_
  ·have hv:zz ts e l=1:=WS;exact Mv
  ·have hv:zz ts e l=0:=WS;exact Mv
 refine za (fun h12=>?_) fun h12=>?_
 ·refine zg [[1],[0]] [] (qn l 3 hl) ?_;refine Zf ?_;refine za (fun g=>?_) fun g=>?_
  ·have hv:zz ts e l=3:=WT;exact Mv
  ·have hv:zz ts e l=0:=WT;exact Mv
 refine za (fun h13=>?_) fun h13=>?_
 ·refine zg [[1],[0]] [] (qn l 3 hl) ?_;refine Zf ?_;refine za (fun g=>?_) fun g=>?_
  ·have hv:zz ts e l=1:=WU;exact Mv
  ·have hv:zz ts e l=0:=WU;exact Mv
 refine za (fun h21=>?_) fun h21=>?_
 ·have hv:zz ts e l=2:=by simp only [zz,zY,zU,yw,h1,h2,h3,h4,h5,h6,h7,h8,h9,h10,h11,h12,h13,h21,Yz,Y4,Y7,Yx,YC,Yo,Yl,Y8,Yq,if_true,if_false]
  exact Mv
 refine za (fun h22=>?_) fun h22=>?_
 ·refine kF h22 ?_;refine zg [[1],[0]] [] (qn l 2 hl) ?_;refine Zf ?_;refine za (fun g=>?_) fun g=>?_
  ·have hv:zz ts e l=2:=WV;exact Mv
  ·have hv:zz ts e l=0:=WV;exact Mv
 refine za (fun h23=>?_) fun h23=>?_
 ·refine kF h23 ?_;refine zg [[1],[0]] [] (qn l 2 hl) ?_;refine Zf ?_;refine za (fun g=>?_) fun g=>?_
  ·have hv:zz ts e l=2:=WW;exact Mv
  ·have hv:zz ts e l=0:=WW;exact Mv
 refine za (fun h24=>?_) fun h24=>?_
 ·refine kF h24 ?_;refine zg [[1],[0]] [] (qn l 2 hl) ?_;refine Zf ?_;refine za (fun g=>?_) fun g=>?_
  ·have hv:zz ts e l=2:=WX;exact Mv
  ·have hv:zz ts e l=0:=WX;exact Mv
 refine za (fun h25=>?_) fun h25=>?_
 ·refine zg [[1],[0]] [] (qn l 2 hl) ?_;refine Zf ?_;refine za (fun g=>?_) fun g=>?_
  ·have hv:zz ts e l=2:=WY;exact Mv
  ·have hv:zz ts e l=0:=WY;exact Mv
 refine za (fun h26=>?_) fun h26=>?_
 ·have hlen:l.length=3:=hc26 (Zc h26);refine ⟨Za,?_⟩;refine za (fun a1=>?_) fun a1=>?_
  ·refine ⟨Za,Za,ze Zg,?_⟩;refine za (fun a2=>?_) fun a2=>?_
   ·refine ⟨Za,?_⟩;have hv:zz ts e l=l.getD 1 default:=WZ;exact Mv
   ·have hv:zz ts e l=0:=WZ;exact Mv
  ·refine ⟨ze Zg,?_⟩;have hv:zz ts e l=0:=by simp only [zz,zY,zU,yw,h1,h2,h3,h4,h5,h6,h7,h8,h9,h10,h11,h12,h13,h21,h22,h23,h24,h25,h26,a1,Yz,Y4,Y7,Yx,YC,Yo,Yl,Y8,Yq,if_true,if_false]
   exact Mv
 refine za (fun h27=>?_) fun h27=>?_
 ·have hlen:l.length=2:=hc27 (Zc h27);refine ⟨Za,Za,ze Zg,?_⟩;refine za (fun a1=>?_) fun a1=>?_
  ·refine ⟨Za,?_⟩;have hv:zz ts e l=l.getD 0 default:=Va;exact Mv
  ·have hv:zz ts e l=0:=Va;exact Mv
 have hgt:5<e.op:=by
  simp only [YO,ne_eq] at h1 h2 h3 h4 h5;simp only [isOp,Yy,Yg] at ho;omega
 have hlen:=hE ho hgt;refine ⟨Za,?_⟩;refine zg [[1],[0]] [] (qn l (l.getD 0 default) hl) ?_;refine Zf ?_;refine za (fun g=>?_) fun g=>?_
 ·have hv:zz ts e l=2:=Vb;exact Mv
 ·have hv:zz ts e l=0:=Vb;exact Mv
def ownR (ts:List Int) (e:Ex) (l:List Int):Int×Int:=
 if !(isOp e.op&&yu e) then (0,1)
 else if !yU e then (0,9)
 else if (e.op==5&&(decide (e.col<0) || decide (e.col≥ts.length))) then (0,3)
 else if (decide (zz ts e l<1) || decide (zz ts e l>3)) then (0,4)
 else (zz ts e l,0)
def isT (k:Int):Prop:=1<=k/\k<=3
theorem own_tab0: ∀n∈List.range 29,
 n=0\/(n=1\/n=5)/\(opTab.getD n default).types=0\/n=2/\(opTab.getD n default).types=0/\(opTab.getD n default).own=1\/n=3/\(opTab.getD n default).types=0/\(opTab.getD n default).own=2\/
 n=4/\(opTab.getD n default).types=0/\(opTab.getD n default).own=3\/(6<=n/\n<=11)/\(opTab.getD n default).types=1/\(opTab.getD n default).own=1\/n=12/\(opTab.getD n default).types=2/\(opTab.getD n default).own=3\/
 n=13/\(opTab.getD n default).types=2/\(opTab.getD n default).own=1\/n=21/\(opTab.getD n default).types=5/\(opTab.getD n default).own=2\/(22<=n/\n<=25)/\(opTab.getD n default).types=3/\(opTab.getD n default).own=2\/
 n=26/\(opTab.getD n default).types=6/\(opTab.getD n default).own=0\/n=27/\(opTab.getD n default).types=4/\(opTab.getD n default).own=0\/((14<=n/\n<=20)\/n=28)/\(opTab.getD n default).types=4/\(opTab.getD n default).own=2:=Zi
theorem okF_type {e:Ex} (h:yu e=true) (h1:e.op=1):1<=e.type/\e.type<=3:=by
 simp [yu,okF,h1] at h;omega
theorem Jy{p:Prop}(h:p:=by
 by_cases ha:(l.all fun x=>x==3)=true
 ·simp [he,zY,ht,ht2,ha,yw]
 ·have ha':(l.all fun x=>x==3)=false:=Zc ha;simp [he,zY,ht,ht2,ha',yw]):p:=h
theorem own_eq (ts:List Int) (e:Ex) (l:List Int) (hl:l.length=e.kids.length) (hk: ∀x∈l,isT x):ownM ts e l=ownR ts e l:=by
 unfold ownM ownR;by_cases ho':isOp e.op=false
 ·simp [ho']
 have ho:isOp e.op=true:=Zc ho';by_cases hc':yu e=false
 ·simp [hc']
 have hc:yu e=true:=Zc hc';by_cases hn':yU e=false
 ·simp [hn',ho,hc]
 have hn:yU e=true:=Zc hn';by_cases h3:(e.op==5&&(decide (e.col<0) || decide (e.col≥ts.length)))=true
 ·rw [ho,hc,hn,h3];rfl
 have h3':(e.op==5&&(decide (e.col<0) || decide (e.col≥ts.length)))=false:=Zc h3;rw [ho,hc,hn,h3'];simp only [Uk,YC,Yq,if_false,Y8];have hcount:=ki hn;obtain ⟨n,n1,n2,n3⟩:=op_cases ho;have hf:yW e.op=opTab.getD n default:=by rw [yW,ho,if_pos rfl,opAt,n3,YA]
 have ht:=own_tab0 n (Zc n1);have hkt:=kids_tab0 n (Zc n1);rw [hf] at hcount ⊢;generalize hO:opTab.getD n default=o at ht hkt hcount;obtain ⟨w,kn,ty,ow⟩:=o;simp only at ht hkt hcount;unfold fitM zz;rcases ht with h | ⟨h,ht⟩ | ⟨h,ht,ht2⟩ | ⟨h,ht,ht2⟩ | ⟨h,ht,ht2⟩ | ⟨h,ht,ht2⟩ | ⟨h,ht,ht2⟩ | ⟨h,ht,ht2⟩ | ⟨h,ht,ht2⟩ | ⟨h,ht,ht2⟩ | ⟨h,ht,ht2⟩ | ⟨h,ht,ht2⟩ | ⟨h,ht,ht2⟩
 ·omega
 ·rcases h with h | h
  ·have he:e.op=1:=Za;have:=okF_type hc he;have h4: ¬e.type<1:=Za;have h5: ¬3<e.type:=Za;simp [he,ht,h4,h5]
  ·have he:e.op=5:=Za;simp only [he,ht];generalize ts.getD e.col.toNat default=v;simp [xf]
   split<;>split<;>(try rfl)<;>(exfalso;omega)
 ·have he:e.op=2:=Za;simp [he,ht,ht2]
 ·have he:e.op=3:=Za;simp [he,ht,ht2]
 ·have he:e.op=4:=Za;simp [he,ht,ht2]
 ·have hno:zY e.op=true:=by simp [zY];omega
  have e1: ¬e.op=1:=Za;have e2: ¬e.op=2:=Za;have e3: ¬e.op=3:=Za;have e4: ¬e.op=4:=Za;have e5: ¬e.op=5:=Za;by_cases ha:(l.all fun x=>x==1)=true
  ·simp [e1,e2,e3,e4,e5,hno,ht,ht2,ha,yw]
  ·have ha':(l.all fun x=>x==1)=false:=Zc ha;simp [e1,e2,e3,e4,e5,hno,ht,ht2,ha',yw]
 ·have he:e.op=12:=Za;exact Jy
 ·have he:e.op=13:=Za;exact Jy
 ·have he:e.op=21:=Za;simp [he,zY,ht,ht2]
 ·have hno:zY e.op=false:=by simp [zY];omega
  have htr:zU e.op=true:=by simp [zU];omega
  have e1: ¬e.op=1:=Za;have e2: ¬e.op=2:=Za;have e3: ¬e.op=3:=Za;have e4: ¬e.op=4:=Za;have e5: ¬e.op=5:=Za;have e12: ¬e.op=12:=Za;have e13: ¬e.op=13:=Za;have e21: ¬e.op=21:=Za;by_cases ha:(l.all fun x=>x==2)=true
  ·simp [e1,e2,e3,e4,e5,e12,e13,e21,hno,htr,ht,ht2,ha,yw]
  ·have ha':(l.all fun x=>x==2)=false:=Zc ha;simp [e1,e2,e3,e4,e5,e12,e13,e21,hno,htr,ht,ht2,ha',yw]
 ·have he:e.op=26:=Za;have hl3:l.length=3:=Za;obtain ⟨a,b,c,rfl⟩: ∃a b c,l=[a,b,c]:=by
   match l,hl3 with
   | [a,b,c],_=>exact ⟨a,b,c,rfl⟩
  have hb:isT b:=hk b Zd;have h4: ¬b<1:=by have:=hb.1;omega
  have h5: ¬3<b:=by have:=hb.2;omega
  simp only [he,ht,ht2];by_cases q1:a=2<;>by_cases q2:b=c<;>simp [zY,zU,q1,q2]<;>(have hb1:=hb.1;have hb2:=hb.2;omega)
 ·have he:e.op=27:=Za;have hl2:l.length=2:=Za;obtain ⟨a,b,rfl⟩: ∃a b,l=[a,b]:=by
   match l,hl2 with
   | [a,b],_=>exact ⟨a,b,rfl⟩
  have hb:isT a:=hk a Zd;have h4: ¬a<1:=by have:=hb.1;omega
  have h5: ¬3<a:=by have:=hb.2;omega
  simp only [he,ht,ht2];by_cases q2:a=b
  ·subst q2;simp [zY,zU,h4,h5]
  ·have q3: ¬b=a:=fun e=>q2 e.symm;simp [zY,zU,q2,q3]
 ·have hno:zY e.op=false:=by simp [zY];omega
  have htr:zU e.op=false:=by simp [zU];omega
  have e1: ¬e.op=1:=Za;have e2: ¬e.op=2:=Za;have e3: ¬e.op=3:=Za;have e4: ¬e.op=4:=Za;have e5: ¬e.op=5:=Za;have e12: ¬e.op=12:=Za;have e13: ¬e.op=13:=Za;have e21: ¬e.op=21:=Za;have e26: ¬e.op=26:=Za;have e27: ¬e.op=27:=Za;by_cases ha:(l.all fun x=>x==l.getD 0 default)=true
  ·simp only [yw,ha];simp [e1,e2,e3,e4,e5,e12,e13,e21,e26,e27,hno,htr,ht,ht2]
  ·have ha':(l.all fun x=>x==l.getD 0 default)=false:=Zc ha;simp only [yw,ha'];simp [e1,e2,e3,e4,e5,e12,e13,e21,e26,e27,hno,htr,ht,ht2]
theorem own_isT (ts:List Int) (e:Ex) (l:List Int) (h:(ownR ts e l).2=0):isT (ownR ts e l).1:=by
 unfold ownR at h ⊢
 split at h
 ·cases h
 ·split at h
  ·cases h
  ·split at h
   ·cases h
   ·split at h
    ·cases h
    ·rename_i h4;rw [if_neg (by assumption),if_neg (by assumption),if_neg (by assumption),if_neg (by assumption)];simp only [Ul,Yg,not_or] at h4;exact ⟨Za,Za⟩
theorem typK_isT {ts:List Int} {e:Ex} {rs:List (Int×Int)} (h:(typK (ownR ts) e rs).2=0):isT (typK (ownR ts) e rs).1:=by
 unfold typK at h ⊢
 split
 ·rename_i h1;rw [if_pos h1] at h;exact own_isT _ _ _ h
 ·rename_i h1;rw [if_neg h1] at h;exact absurd h h1
theorem typ_isT {ts:List Int} {e:Ex} (h:(typG (ownR ts) e).2=0):isT (typG (ownR ts) e).1:=by
 rw [qp] at h ⊢;exact typK_isT h
theorem typ_eq (ts:List Int): ∀e:Ex,typG (ownM ts) e=typG (ownR ts) e:=jY (p:=fun e=>typG (ownM ts) e=typG (ownR ts) e) fun e ih=>by
 rw [qp,qp];have hm:e.kids.map (typG (ownM ts))=e.kids.map (typG (ownR ts)):=Up fun k hk=>ih k hk;rw [hm,typK,typK]
 split
 ·rename_i h;refine own_eq ts e _ Zd fun x hx=>?_;simp only [Ux,Yv,Function.comp] at hx;obtain ⟨k,hk,rfl⟩:=hx;have:=wR h _ (Yv.2 ⟨k,hk,rfl⟩);exact typ_isT this
 ·rfl
theorem Gy{p:Prop}(h:p:=by
 refine Zf ?_;refine za (fun r1=>?_) fun r1=>?_
 ·have hv:ownR ts e l=(0,4):=by rw [hv3,r1];rfl
  exact M7
 refine za (fun r2=>?_) fun r2=>?_
 ·have hv:ownR ts e l=(0,4):=by rw [hv3,r2,Y4];rfl
  exact M7
 have hv:ownR ts e l=(zz ts e l,0):=by rw [hv3,r1,r2];rfl
 exact M7):p:=h
theorem c_typed (ts:List Int) (hts:ts.length<=1000000000): ∀e:Ex,Ok12 e->ACall Tryz.prog 195 [ints ts,aE e] [] (zQ (typG (ownR ts) e)) []:=
 jY (p:=fun e=>Ok12 e->ACall Tryz.prog 195 [ints ts,aE e] [] (zQ (typG (ownR ts) e)) []) fun e ih ho=>by
 refine zn mixed ttok Tryz.func195 Tryz.ntmps195 Tryz.results195 ?_;generalize hr:zQ (typG (ownR ts) e)=R;have hl:=ho.kids;refine Zn ?_;refine zq mixed ttok 7 [0,3] [3] Zv Zw e.kids.length (fun n=> ∀i,i<n->(typG (ownR ts) (e.kids.getD i default)).2=0) (fun n=>[(6,.vec 500 n)]) (fun n=>[(500,.vec 3 1 (zd rI (uP (ownR ts) e n)) 0)]) (fun i h=>absurd h (Yu _)) ?_ ?_
 ·exact (Weak.nilL 6 500 3 1 rfl rfl).trans (Weak.keepL (by simp [cst,ends]) (by simp [cst,uP,ends]) (by simp [cst,ends]))
 intro I hI n hn hi;have hl2:=tysTo_length (ownR ts) e n hn;refine Zx ?_;refine za (fun h=>?_) fun h=>?_
 ·simp only [Yg] at h;have h':n<e.kids.length:=Za;have hw:=zh h' Za;have hs:=tysTo_succ (ownR ts) e n h';refine ⟨Zs,?_⟩;refine zg [[1],[0,0,0,0,0,6]] [] (ih _ (zk h') (ho.kid (zk h'))) ?_;refine ZW ?_;refine za (fun g=>?_) fun g=>?_
  ·have g':(typG (ownR ts) (e.kids.getD n default)).2≠0:=Zc g;have hf:ferr Prod.snd (e.kids.map (typG (ownR ts)))=(typG (ownR ts) (e.kids.getD n default)).2:=Wv;have hE:typG (ownR ts) e=(0,(typG (ownR ts) (e.kids.getD n default)).2):=by rw [qp (ownR ts) e,typK,hf,if_neg g']
   exact zP trivial (Zo hr hE) Zb
  ·have g':(typG (ownR ts) (e.kids.getD n default)).2=0:=Zc g;exact Jb
 simp only [Ye] at h;obtain rfl:n=e.kids.length:=Za;clear hI;have hf:ferr Prod.snd (e.kids.map (typG (ownR ts)))=0:=Ww;have hT:uP (ownR ts) e e.kids.length=(e.kids.map (typG (ownR ts))).map Prod.fst:=by rw [uP,Yk,Ux];rfl
 have hM:typG (ownR ts) e=ownR ts e (uP (ownR ts) e e.kids.length):=by rw [qp (ownR ts) e,typK,if_pos hf,hT]
 rw [hM] at hr;generalize uP (ownR ts) e e.kids.length=l at hl2 hr ⊢;refine zg [[0,0,0,0,0,6]] [] (c_plain e) ?_;refine Zf ?_;refine za (fun h1=>?_) fun h1=>?_
 ·have hv:ownR ts e l=(0,1):=if_pos h1;exact M7
 have ho2:isOp e.op=true/\yu e=true:=Zc h1;have hv1:ownR ts e l=if !yU e then (0,9)
  else if (e.op==5&&(decide (e.col<0) || decide (e.col≥ts.length))) then (0,3)
  else if (decide (zz ts e l<1) || decide (zz ts e l>3)) then (0,4) else (zz ts e l,0):=if_neg (Z8 h1)
 have hkc:=qB ho2.1;refine ⟨hl2.symm,?_⟩;refine zg [[0],[0]] [] (c_rkids e.op e.kids.length) ?_;refine Zf ?_;rw [hkc];refine za (fun h2=>?_) fun h2=>?_
 ·have hv:ownR ts e l=(0,9):=by rw [hv1,if_pos h2]
  exact M7
 have hcnt:yU e=true:=Zc h2;have hv2:ownR ts e l=if (e.op==5&&(decide (e.col<0) || decide (e.col≥ts.length))) then (0,3)
  else if (decide (zz ts e l<1) || decide (zz ts e l>3)) then (0,4) else (zz ts e l,0):=by rw [hv1,if_neg (by rw [h2];decide)]
 have hcount:=ki hcnt;obtain ⟨n,n1,n2,n3⟩:=op_cases ho2.1;have hf:yW e.op=opTab.getD n default:=by rw [yW,ho2.1,if_pos rfl,opAt,n3,YA]
 have hkt:=kids_tab0 n (Zc n1);rw [hf] at hcount;generalize hO:opTab.getD n default=o at hkt hcount;have c26:e.op=26->l.length=3:=Za;have c27:e.op=27->l.length=2:=Za;have cE:isOp e.op=true->5<e.op->0<l.length:=Za;refine za (fun h3=>?_) fun h3=>?_
 ·have h3':e.op=5:=Zc h3;refine za (fun h4=>?_) fun h4=>?_
  ·have hv:ownR ts e l=(0,3):=by rw [hv2,h3,h4];rfl
   exact M7
  refine za (fun h5=>?_) fun h5=>?_
  ·have hv:ownR ts e l=(0,3):=by rw [hv2,h3,h4,h5];rfl
   exact M7
  have hv3:ownR ts e l=if (decide (zz ts e l<1) || decide (zz ts e l>3)) then (0,4) else (zz ts e l,0):=by rw [hv2,h3,h4,h5];rfl
  have hcol:0<=e.col/\e.col<ts.length:=by simp only [Ye] at h4 h5;omega
  refine zg [[1],[0,0,0,0,0,6],[1]] [] (c_result ts e l Za (fun _=>hcol) c26 c27 cE ho2.1) ?_;exact Gy
 have h3': ¬e.op=5:=Zc h3;have hv3:ownR ts e l=if (decide (zz ts e l<1) || decide (zz ts e l>3)) then (0,4) else (zz ts e l,0):=by rw [hv2,h3];rfl
 refine zg [[1],[0,0,0,0,0,6],[1]] [] (c_result ts e l Za (fun h=>absurd h h3') c26 c27 cE ho2.1) ?_;exact Gy
theorem c_rtype (ts:List Int) (hts:ts.length<=1000000000) (e:Ex) (ho:Ok12 e):ACall Tryz.prog 158 [ints ts,aE e] [] (zQ (yb (ownM ts) e)) []:=by
 refine zn mixed ttok Tryz.func158 Tryz.ntmps158 Tryz.results158 ?_;generalize hr:zQ (yb (ownM ts) e)=R;refine Zn ?_;refine zg [[0,0,0,0,0,6]] [] (c_size02 e ho) ?_;refine Zf ?_;refine za (fun h=>?_) fun h=>?_
 ·have hv:yb (ownM ts) e=(0,8):=if_pos (Yd h);exact M7
 have h': ¬ve e>200:=Yc h;refine zg [[0,0,0,0,0,6]] [] (c_rdepth e ho) ?_;refine Zf ?_;refine za (fun g=>?_) fun g=>?_
 ·exact Hf
 have g': ¬wD e>24:=Yc g;refine zg [[1],[0,0,0,0,0,6]] [] (c_typed ts hts e ho) ?_;have hv:yb (ownM ts) e=typG (ownR ts) e:=by rw [yb,if_neg h',if_neg g',typ_eq]
 refine ZW ?_;exact M7
def rS (w:ByteArray):List D:=[.lit (.string w)]
attribute [local simp, local push_cast] rS
theorem MO{p:Prop}(h:p:=by
 refine zv [1] rfl Zd Zj ?_ Zk Zb Zb;exact hr):p:=h
theorem c_reserved:ACall Tryz.prog 155 [] [] (.d (.sl 1 (zd rS words))) []:=by
 refine zn mixed ttok Tryz.func155 Tryz.ntmps155 Tryz.results155 ?_;generalize hr:A.d (.sl 1 (zd rS words))=R;refine Zn ?_;exact MO
def goodR (s:ByteArray):Bool:=(u4 s).all fun c=> !badM c
def jp (s:ByteArray):Bool:=(((decide (1<=s.size)&&decide (s.size<=16))&&letM ((s.data.getD 0 0).toNat:Nat))&&goodR s)&& !(words.any fun w=>w.toList==s.toList)
theorem Vc {p:Prop} (h:p:=by simp only [badM,letM,Yy,Ul,UD,Bool.and_eq_false_iff,Bool.or_eq_false_iff,UA,Yg,Ye,bne_iff_ne,bne_eq_false_iff_eq,ne_eq] at *;omega):p:=h
theorem c_rname (s:ByteArray):ACall Tryz.prog 88 [str s] [] (boo (jp s)) []:=by
 refine zn mixed ttok Tryz.func88 Tryz.ntmps88 Tryz.results88 ?_;generalize hr:boo (jp s)=R;have hr0:=hr;refine Zn ?_;refine za (fun h1=>?_) fun h1=>?_
 ·have:jp s=false:=by rw [jp,YS (by have:=Yd h1;omega)];rfl
  exact MI
 have h1':1<=s.size:=Zp h1;refine za (fun h2=>?_) fun h2=>?_
 ·have:jp s=false:=by rw [jp,YS (p:=s.size≤16) (by have:=Yd h2;omega),YI];rfl
  exact MI
 have h2':s.size<=16:=Zp h2;refine ⟨Za,?_⟩;refine za (fun h3=>?_) fun h3=>?_
 ·have:jp s=false:=by rw [jp,letM,YS (p:=((s.data.getD 0 0).toNat:Int)≥97) (by have:=Yd h3;omega),Yl,YI];rfl
  exact MI
 refine ⟨Za,?_⟩;refine za (fun h4=>?_) fun h4=>?_
 ·have:jp s=false:=by rw [jp,letM,YS (p:=((s.data.getD 0 0).toNat:Int)≤122) (by have:=Yd h4;omega),YI,YI];rfl
  exact MI
 have hM:jp s=(goodR s&& !(words.any fun w=>w.toList==s.toList)):=by
  rw [jp,letM,YV h1',YV h2',YV (p:=((s.data.getD 0 0).toNat:Int)≥97) (Zp h3),YV (p:=((s.data.getD 0 0).toNat:Int)<=122) (Zp h4)];rfl
 clear h1 h2 h3 h4;refine zq mixed ttok 3 [0] [] Zv Zw s.size (fun n=>((u4 s).drop n).all (fun c=> !badM c)=goodR s) (fun _=>[]) (fun _=>[]) rfl ?_ ?_
 ·exact Ya Zh Zh Zh
 intro I hI n hn hi;refine Zx ?_;refine za (fun k=>?_) fun k=>?_
 ·simp only [Yg] at k;have k':n<s.size:=Za;have hw:=zh k' Za;rw [zA _ n (by rw [uN];exact k'),List.all_cons,bytesI_getD s n k'] at hi;have bad:badM ((s.data.getD n 0).toNat:Nat)=true->jp s=false:=fun h=>by rw [hM,<-hi,h];rfl
  have good:badM ((s.data.getD n 0).toNat:Nat)=false->((u4 s).drop (n+1)).all (fun c=> !badM c)=goodR s:=fun h=>Zo hi h;clear hM hr;have bad':badM ((s.data.getD n 0).toNat:Nat)=true->boo false=R:=fun h=>by rw [<-hr0,bad h]
  clear bad hr0;generalize (((s.data.getD n 0).toNat:Nat):Int)=c at bad' good ⊢;refine ⟨Zs,?_⟩
  repeat' first
   | refine za (fun _=>?_) fun _=>?_
   | exact zm trivial (bad' Vc) Zb
   | exact zp hI n rfl k' (good Vc) (Ze hw) (Ze hw) (Ze hw) (Ze hw)
   | refine ⟨Zs,?_⟩
 simp only [Ye] at k;obtain rfl:n=s.size:=Za;rw [YG (by rw [uN];omega)] at hi;have hM2:jp s= !(words.any fun w=>w.toList==s.toList):=by rw [hM,<-hi];rfl
 clear hM hI hi hn k I;refine zg [] [] (c_reserved) ?_;refine Zf ?_;generalize hwd:words=W at hM2;have hWl:W.length=52:=ZJ hwd;clear hwd;refine zq mixed ttok 5 [0,4] [] Zv Zw W.length (fun n=> ∀i,i<n->((W.getD i default).toList==s.toList)=false) (fun _=>[]) (fun _=>[]) (fun i h=>absurd h (Yu _)) ?_ ?_
 ·exact Ya Zh Zh Zh
 intro I hI n hn hi;refine Zx ?_;refine za (fun k=>?_) fun k=>?_
 ·simp only [Yg] at k;have k':n<W.length:=Za;have hw:=zh k' Za;refine ⟨Zs,?_⟩;refine za (fun g=>?_) fun g=>?_
  ·have:(W.any fun w=>w.toList==s.toList)=true:=U4.2 ⟨_,zk k',g⟩;exact zm trivial (ZI hr0 hM2 this) Zb
  ·exact zp hI n rfl k' (fun i h2=>if h3:i=n then by rw [h3];exact g else hi i Za) (Ze hw) (Ze hw) (Ze hw) (Ze hw)
 simp only [Ye] at k;obtain rfl:n=W.length:=Za;have:(W.any fun w=>w.toList==s.toList)=false:=by
  rw [List.any_eq_false];intro x hx;obtain ⟨i,h1,rfl⟩:=uS hx;rw [hi i h1];decide
 exact zm trivial (ZI hr0 hM2 this) Zb
theorem contains_iff (L p:List UInt8):Lib.contains L p=true ↔ ∃a b,L=a++(p++b):=by
 unfold Lib.contains;rw [Yg];rcases Lib.index_spec L p with ⟨h1,h2⟩ | ⟨i,h1,h2,h3,_⟩
 ·constructor
  ·intro h;omega
  ·rintro ⟨a,b,rfl⟩;have:=h2 a.length Zd;simp only [Lib.occAt,List.drop_left] at this;rw [List.isPrefixOf_iff_prefix.2 (List.prefix_append p b)] at this;cases this
 ·constructor
  ·intro _;simp only [Lib.occAt] at h3;have h4:=List.isPrefixOf_iff_prefix.1 h3;obtain ⟨b,hb⟩:=h4;exact ⟨L.take i,b,by rw [hb,Yp]⟩
  ·intro _;omega
theorem cut32: ∀(w s:List UInt8) (x y:List UInt8),(32:UInt8) ∉ w->(32:UInt8) ∉ s->w++32::x=s++32::y->w=s
 | [],[],_,_,_,_,_=>rfl
 | [],c::s,_,_,_,hs,h=>by simp at h;exact absurd (ZP (h.1)) hs
 | c::w,[],_,_,hw,_,h=>by simp at h;exact absurd (ZP (h.1)) hw
 | c::w,d::s,x,y,hw,hs,h=>by
   simp only [YN,List.cons.injEq] at h;rw [h.1,cut32 w s x y (fun hm=>hw (Zu hm)) (fun hm=>hs (Zu hm)) h.2]
theorem jump32: ∀(w a x y:List UInt8),(32:UInt8) ∉ w->w++32::x=a++32::y-> ∃c,a=w++c/\32::x=c++32::y
 | [],a,x,y,_,h=>⟨a,rfl,h⟩
 | c::w,[],x,y,hw,h=>by simp at h;exact absurd (ZP (h.1)) hw
 | c::w,d::a,x,y,hw,h=>by
   simp only [YN,List.cons.injEq] at h;obtain ⟨c',h1,h2⟩:=jump32 w a x y (fun hm=>hw (Zu hm)) h.2;exact ⟨c',by rw [h.1,h1];rfl,h2⟩
def joinW:List (List UInt8)->List UInt8
 | []=>[]
 | w::ws=>w++32::joinW ws
theorem in_join (s:List UInt8) (hs:(32:UInt8) ∉ s): ∀ws:List (List UInt8),(∀w∈ws,(32:UInt8) ∉ w)→((∃a b,32::joinW ws=a++((32::(s++[32]))++b)) ↔ s∈ws)
 | [],_=>by
   constructor
   ·rintro ⟨a,b,h⟩;have:=congrArg List.length h;simp [joinW] at this;omega
   ·intro h;simp at h
 | w::ws,hw=>by
   have hw0:(32:UInt8) ∉ w:=hw w Zd;have ih:=in_join s hs ws (fun v hv=>hw v (Zu hv));constructor
   ·rintro ⟨a,b,h⟩;cases a with
    | nil=>
      simp only [joinW,Ue,YN,List.cons.injEq,true_and,Yn] at h;have:=cut32 w s _ _ hw0 hs h;simp [this]
    | cons x a=>
      simp only [joinW,YN,List.cons.injEq] at h;obtain ⟨c,h1,h2⟩:=jump32 w a _ _ hw0 h.2;exact UB _ (ih.1 ⟨c,b,Z4 h2⟩)
   ·intro h;rcases YB.1 h with rfl | h
    ·exact ⟨[],joinW ws,by simp [joinW]⟩
    ·obtain ⟨a,b,h2⟩:=ih.2 h;exact ⟨32::(w++a),b,by rw [joinW,h2];simp⟩
theorem resv_join:resv.data.toList=32::joinW (words.map (·.data.toList)):=Zi
theorem words_32: ∀w∈words.map (·.data.toList),(32:UInt8) ∉ w:=Zi
theorem hasW_eq (s:ByteArray) (hg:goodR s=true):hasW s=words.any fun w=>w.toList==s.toList:=by
 have h32:(32:UInt8) ∉ s.data.toList:=by
  intro hm;have:=Ua.1 hg (((32:UInt8).toNat:Nat):Int) (Yv.2 ⟨32,hm,rfl⟩)
  revert this;decide
 rw [Ud,hasW,contains_iff,resv_join];have hd:(⟨#[32]⟩++s++⟨#[32]⟩:ByteArray).data.toList=32::(s.data.toList++[32]):=by
  simp [ByteArray.data_append]
 rw [hd];refine (in_join s.data.toList h32 _ words_32).trans ?_;simp only [Yv,U4,beq_iff_eq,YM]
theorem name_eq (s:ByteArray):jp s=jq s:=by
 have h0:s.data[0]?.getD 0=s.data.getD 0 0:=by rw [YP]
 have h1:(!(s.toList==[] || decide (s.size>16)))=(decide (1<=s.size)&&decide (s.size<=16)):=by
  have:(s.toList==[])=decide (s.size=0):=by
   rw [Ud,YM];simp only [beq_iff_eq,Yg];rw [<-List.length_eq_zero_iff,Uf];rfl
  rw [this,Ud];simp only [UD,Bool.or_eq_false_iff,Yy,Ye,Yg];omega
 unfold jp jq;rw [h0,h1,show ((u4 s).all fun c=> !badM c)=goodR s from rfl];by_cases hg:goodR s=true
 ·rw [hasW_eq s hg,hg,YT,YT]
 ·have:goodR s=false:=Zc hg;rw [this];simp
theorem c_rname2 (s:ByteArray):ACall Tryz.prog 88 [str s] [] (boo (jq s)) []:=by rw [<-name_eq];exact c_rname s
end
section
attribute [local simp, local push_cast] Ta yj zQ aFk vT
theorem okKey_false {c:Nat} {l:List Int} {n:Nat} (h:n<l.length) (hn:okAt c l n=false):xi c l=false:=by rw [xi,wT h hn];rfl
theorem c_listed (t:Tbl) (l:List Int) (hl:l.length≤1000000000):ACall Tryz.prog 157 [aT t,ints l] [] (boo (xi t.columns.length l)) []:=by
 refine zn mixed ttok Tryz.func157 Tryz.ntmps157 Tryz.results157 ?_;generalize hr:boo (xi t.columns.length l)=R;refine Zn ?_;refine zq mixed ttok 5 [1,2] [2] Zv Zw l.length (fun n=> ∀i,i<n->okAt t.columns.length l i=true) (fun _=>[]) (fun _=>[]) (fun i h=>absurd h (Yu _)) ?_ ?_
 ·exact Ya Zh Zh Zh
 intro I hI n hn hi;refine Zx ?_;refine za (fun h=>?_) fun h=>?_
 ·simp only [Yg] at h;have h':n<l.length:=Za;have hw:=zh h' Za;have hbad:okAt t.columns.length l n=false->boo false=R:=fun hb=>by rw [<-hr,okKey_false h' hb]
  refine ⟨Zs,?_⟩;refine za (fun g1=>?_) fun g1=>?_
  ·refine ⟨ze Zg,?_⟩;exact zm trivial (hbad (by rw [okAt,YS (by have:=Yd g1;omega)];rfl)) Zb
  refine ⟨Zs,ze Zg,?_⟩;refine za (fun g2=>?_) fun g2=>?_
  ·exact zm trivial (hbad (by rw [okAt,YS (p:=l.getD n default<t.columns.length) (by have:=Yd g2;omega),YI];rfl)) Zb
  have hin:(decide (0<=l.getD n default)&&decide (l.getD n default<t.columns.length))=true:=by
   have:=Yc g1;have:=Yc g2;simp only [Yy,Yg];omega
  refine zq mixed ttok 6 [1,2,5] [2] Zv Zw n (fun k=> ∀i,i<k->l.getD i default≠l.getD n default) (fun _=>[]) (fun _=>[]) (fun i h=>absurd h (Yu _)) ?_ ?_
  ·exact Ya Zh Zh Zh
  intro J hJ k hk hki;refine Zx ?_;refine za (fun q=>?_) fun q=>?_
  ·simp only [Yg] at q;have q':k<n:=Za;have hwk:=zh q' Za;refine ⟨Zs,Zs,ze Zg,?_⟩;refine za (fun e=>?_) fun e=>?_
   ·have he:l.getD k default=l.getD n default:=Zc e;exact zm trivial (hbad (by
     have:(l.take n).contains (l.getD n default)=true:=by
      rw [<-he,List.contains_iff_mem];have hk2:k<(l.take n).length:=Zt;have:=List.getElem_mem hk2;rw [List.getElem_take] at this;rwa [Yf,List.getElem?_eq_getElem Za]
     rw [okAt,this,Uk,YI])) Zb
   ·have he:l.getD k default≠l.getD n default:=Zc e;exact zp hJ k rfl q' (fun i h2=>if h3:i=k then by rw [h3];exact he else hki i Za) (Ze hwk) (Ze hwk) (Ze hwk) (Ze hwk)
  ·simp only [Ye] at q;obtain rfl:k=n:=Za;have hok:okAt t.columns.length l k=true:=by
    rw [okAt,hin,Yo,UD,<-Bool.not_eq_true,List.contains_iff_mem];intro hm;obtain ⟨i,hi3,he⟩:=Uq hm;have hi4:i<k:=by simp at hi3;omega
    rw [List.getElem_take] at he;refine hki i hi4 ?_;rw [<-he,Yf,List.getElem?_eq_getElem Za];rfl
   exact zp hI k rfl h' (fun i h2=>if h3:i=k then by rw [h3];exact hok else hi i Za) (Ze hw) (Ze hw) (Ze hw) (Ze hw)
 ·simp only [Ye] at h;obtain rfl:n=l.length:=Za;have:xi t.columns.length l=decide ((l.length:Int)>0):=by
   rw [xi,all_range.2 hi,Yo];cases l<;>simp
  exact MI
theorem c_target (s:Sch) (i j:Nat) (hs:s.length<=1000) (hi:i<s.length) (hj:j<(s.getD i default).foreigns.length):ACall Tryz.prog 90 [aS s,num i,num j] [] (yj (byT s ((s.getD i default).foreigns.getD j default).table)) []:=by
 refine zn mixed ttok Tryz.func90 Tryz.ntmps90 Tryz.results90 ?_;generalize hr:yj (byT s ((s.getD i default).foreigns.getD j default).table)=R;refine Zn ?_;refine za (fun h=>absurd (Yd h) Za) fun _=>?_;refine za (fun h=>absurd (Yd h) Za) fun _=>?_;refine za (fun h=>absurd (Yd h) Za) fun _=>?_;refine ⟨Za,?_⟩;refine za (fun h=>absurd (Yd h) Za) fun _=>?_;refine ⟨Za,Za,?_⟩;refine zg [[6],[0]] [] (c_rfind s ((s.getD i default).foreigns.getD j default).table Za) ?_;refine Zf ?_;refine ⟨ze Zg,?_⟩;exact zP trivial (ZJ hr) Zb
theorem fidx_self {α:Type} [Inhabited α] (p:α->Bool): ∀(l:List α) (i:Nat),i<l.length->p (l.getD i default)=true->0<=fidx p l/\fidx p l<=i
 | [],i,h,_=>by simp at h
 | x::l,0,_,hp=>by simp at hp;simp [fidx,hp]
 | x::l,i+1,h,hp=>by
   have:=fidx_self p l i (Zc h) (Zc hp);simp only [fidx]
   split
   ·omega
   ·rw [if_neg Za];omega
theorem byC_self (l:List Col) (i:Nat) (h:i<l.length):(uR (byC l (l.getD i default).name)<i) ↔ uR (byC l (l.getD i default).name)≠i:=by
 have:0<=byC l (l.getD i default).name/\byC l (l.getD i default).name<=i:=fidx_self (fun t:Col=>t.name.toList==(l.getD i default).name.toList) l i h Zd;unfold uR;rw [if_neg Za];omega
theorem byT_self (l:Sch) (i:Nat) (h:i<l.length):(uR (byT l (l.getD i default).name)<i) ↔ uR (byT l (l.getD i default).name)≠i:=by
 have:0<=byT l (l.getD i default).name/\byT l (l.getD i default).name<=i:=fidx_self (fun t:Tbl=>t.name.toList==(l.getD i default).name.toList) l i h Zd;unfold uR;rw [if_neg Za];omega
theorem c_rtable (t:Tbl) (ht:SmallT t):ACall Tryz.prog 89 [aT t] [] (num (xA t)) []:=by
 refine zn mixed ttok Tryz.func89 Tryz.ntmps89 Tryz.results89 ?_;generalize hr:num (xA t)=R;refine Zn ?_;have hcl:=ht.cols;have hkl:=ht.chk;have hpl:=ht.prim;have hul:=ht.uniq;have hfl:=ht.fors;have hbig:bigT t=true->retx (some (True,A.d (D.lit (Value.int .i64 8)))) ⟨[],[(1,vT t)]⟩ R []:=fun hb=>zm trivial (by rw [<-hr,xA,if_pos hb];rfl) Zb;simp only [vT] at hbig;refine za (fun h1=>?_) fun h1=>?_
 ·exact hbig (by rw [bigT,h1];simp only [Yz])
 refine za (fun h2=>?_) fun h2=>?_
 ·exact hbig (by rw [bigT,h2];simp only [Y4,Yz])
 refine za (fun h3=>?_) fun h3=>?_
 ·exact hbig (by rw [bigT,h3];simp only [Y4,Yz])
 refine za (fun h4=>?_) fun h4=>?_
 ·exact hbig (by rw [bigT,h4];simp only [Y4])
 clear hbig;have hb: ¬bigT t=true:=by rw [bigT,h1,h2,h3,h4];decide
 refine za (fun h5=>?_) fun h5=>?_
 ·exact Ks
 have h5': ¬t.columns.length=0:=Zc h5;have hM:xA t=if uy (xj t) t.columns.length≠0 then uy (xj t) t.columns.length
  else if xS t≠0 then xS t else ferr (xK t) t.checks:=by rw [xA,if_neg hb,if_neg h5']
 clear h1 h2 h3 h4 h5;refine zq mixed ttok 3 [1] [1] Zv Zw t.columns.length (fun n=> ∀i,i<n->xj t i=0) (fun _=>[]) (fun _=>[]) (fun i h=>absurd h (Yu _)) ?_ ?_
 ·exact Ya Zh Zh Zh
 intro I hI n hn hi;refine Zx ?_;refine za (fun h=>?_) fun h=>?_
 ·simp only [Yg] at h;have h':n<t.columns.length:=Za;have hw:=zh h' Za;have hE:xj t n≠0->num (xj t n)=R:=fun hne=>by
   exact JE
  refine ⟨Zs,?_⟩;refine zg [[0]] [] (c_rname2 (t.columns.getD n default).name) ?_;refine Zf ?_;refine za (fun g1=>?_) fun g1=>?_
  ·have hc:xj t n=3:=if_pos g1;exact zm trivial ZX Zb
  refine zg [[0,3,1,1,2,6],[0]] [] (c_rcolumn t (t.columns.getD n default).name Za) ?_;refine Zf ?_;refine za (fun g2=>?_) fun g2=>?_
  ·have g2':uR (byC t.columns (t.columns.getD n default).name)≠n:=by simpa [uR] using g2
   have hc:xj t n=5:=by rw [xj,if_neg (by rw [g1];decide),if_pos ((byC_self t.columns n h').2 g2')]
   exact zm trivial ZX Zb
  have g2': ¬uR (byC t.columns (t.columns.getD n default).name)≠n:=by simpa [uR] using g2
  have hcB:xj t n=if u5 (t.columns.getD n default).type then 4 else 0:=by
   rw [xj,if_neg (Z8 g1),if_neg (fun q=>g2' ((byC_self t.columns n h').1 q))]
  have hbt:u5 (t.columns.getD n default).type=(decide ((t.columns.getD n default).type<1) || decide ((t.columns.getD n default).type>3)):=by
   rw [Ud];simp only [u5,Yy,Ul,bne_iff_ne,ne_eq,Yg];omega
  have hinv:u5 (t.columns.getD n default).type=false-> ∀i,i<n+1->xj t i=0:=fun hb i h2=>if h3:i=n then by rw [h3,hcB,hb];rfl else hi i Za
  refine za (fun g3=>?_) fun g3=>?_
  ·have hc:xj t n=4:=by rw [hcB,hbt,g3];rfl
   exact zm trivial ZX Zb
  refine za (fun g4=>?_) fun g4=>?_
  ·have hc:xj t n=4:=by rw [hcB,hbt,g4,Y4];rfl
   exact zm trivial ZX Zb
  exact zp hI n rfl h' (hinv (by rw [hbt,g3,g4];rfl)) (Ze hw) (Ze hw) (Ze hw) (Ze hw)
 simp only [Ye] at h;obtain rfl:n=t.columns.length:=Za;clear hI;have hM2:xA t=if xS t≠0 then xS t else ferr (xK t) t.checks:=by rw [hM,uG hi,if_neg (by decide)]
 clear hM h hi hn I;refine zg [[0,3,1,1,2,6],[1]] [] (c_listed t t.primary Za) ?_;refine Zf ?_;refine za (fun p1=>?_) fun p1=>?_
 ·have p1':xi t.columns.length t.primary=false:=Zc p1;have hk:xS t=6:=by rw [xS,p1'];rfl
  exact zm trivial (ZI hr hM2 hk) Zb
 have p1':xi t.columns.length t.primary=true:=Zc p1;have hin:=okKey_in p1';refine zq mixed ttok 7 [1] [1] Zv Zw t.primary.length (fun n=> ∀i,i<n->jf t (t.primary.getD i default)=false) (fun _=>[]) (fun _=>[]) (fun i h=>absurd h (Yu _)) ?_ ?_
 ·exact Ya Zh Zh Zh
 intro I hI n hn hi;refine Zx ?_;refine za (fun h=>?_) fun h=>?_
 ·simp only [Yg] at h;have h':n<t.primary.length:=Za;have hw:=zh h' Za;have hic:=hin _ (zk h');obtain ⟨hc0,hc1⟩:=hic;refine ⟨Zs,⟨hc0,hc1⟩,ze Zg,?_⟩;refine za (fun g=>?_) fun g=>?_
  ·have hk:xS t=4:=by
    have:t.primary.any (jf t)=true:=U4.2 ⟨_,zk h',g⟩;rw [xS,p1',this];rfl
   exact zm trivial (ZI hr hM2 hk) Zb
  ·exact Mu
 simp only [Ye] at h;obtain rfl:n=t.primary.length:=Za;clear hI;have hany:t.primary.any (jf t)=false:=by
  rw [List.any_eq_false];intro x hx;obtain ⟨i,h1,rfl⟩:=uS hx;rw [hi i h1];decide
 have hkM:xS t=if (yE t).all (xi t.columns.length) then 0 else 6:=by rw [xS,p1',hany];rfl
 have hbad:(∃l∈yE t,xi t.columns.length l=false)->num 6=R:=fun ⟨l,hl,hk⟩=>by
  have:(yE t).all (xi t.columns.length)=false:=List.all_eq_false.2 ⟨l,hl,Z8 hk⟩;rw [<-hr,hM2,hkM,this];rfl
 clear hi hn h I;refine zq mixed ttok 8 [1] [1] Zv Zw t.uniques.length (fun n=> ∀i,i<n->xi t.columns.length (t.uniques.getD i default)=true) (fun _=>[]) (fun _=>[]) (fun i h=>absurd h (Yu _)) ?_ ?_
 ·exact Ya Zh Zh Zh
 intro I hI n hn hi;refine Zx ?_;refine za (fun h=>?_) fun h=>?_
 ·simp only [Yg] at h;have h':n<t.uniques.length:=Za;have hw:=zh h' Za;have hlu:=ht.uniqs _ (zk h');refine ⟨Zs,?_⟩;refine zg [[0,3,1,1,2,6],[1]] [] (c_listed t (t.uniques.getD n default) Za) ?_;refine Zf ?_;refine ⟨ze Zg,?_⟩;refine za (fun g=>?_) fun g=>?_
  ·have g':xi t.columns.length (t.uniques.getD n default)=false:=Zc g;exact zm trivial (hbad ⟨_,Yr.2 (.inl (zk h')),g'⟩) Zb
  ·have g':xi t.columns.length (t.uniques.getD n default)=true:=Zc g;exact M5
 simp only [Ye] at h;obtain rfl:n=t.uniques.length:=Za;clear hI;have hU:=hi;clear hi hn h I;refine zq mixed ttok 9 [1] [1] Zv Zw t.foreigns.length (fun n=> ∀i,i<n->xi t.columns.length (t.foreigns.getD i default).columns=true) (fun _=>[]) (fun _=>[]) (fun i h=>absurd h (Yu _)) ?_ ?_
 ·exact Ya Zh Zh Zh
 intro I hI n hn hi;refine Zx ?_;refine za (fun h=>?_) fun h=>?_
 ·simp only [Yg] at h;have h':n<t.foreigns.length:=Za;have hw:=zh h' Za;have hlu:=ht.forss _ (zk h');refine ⟨Zs,?_⟩;refine zg [[0,3,1,1,2,6],[1]] [] (c_listed t (t.foreigns.getD n default).columns Za) ?_;refine Zf ?_;refine ⟨ze Zg,?_⟩;refine za (fun g=>?_) fun g=>?_
  ·have g':xi t.columns.length (t.foreigns.getD n default).columns=false:=Zc g;exact zm trivial (hbad ⟨_,Yr.2 (.inr (Yv.2 ⟨_,zk h',rfl⟩)),g'⟩) Zb
  ·have g':xi t.columns.length (t.foreigns.getD n default).columns=true:=Zc g;exact M5
 simp only [Ye] at h;obtain rfl:n=t.foreigns.length:=Za;clear hI;have hk0:xS t=0:=by
  have:(yE t).all (xi t.columns.length)=true:=by
   rw [Ua];intro l hl;rcases Yr.1 hl with hl | hl
   ·obtain ⟨i,h1,rfl⟩:=uS hl;exact hU i h1
   ·obtain ⟨f,hf,rfl⟩:=Yv.1 hl;obtain ⟨i,h1,rfl⟩:=uS hf;exact hi i h1
  rw [hkM,this];rfl
 rw [hk0,if_neg Zi] at hM2;clear hi hn h I hbad hkM hU;refine zq mixed ttok 10 [1] [1] Zv Zw t.checks.length (fun n=> ∀i,i<n->xK t (t.checks.getD i default)=0) (fun _=>[]) (fun _=>[]) (fun i h=>absurd h (Yu _)) ?_ ?_
 ·exact Ya Zh Zh Zh
 intro I hI n hn hi;refine Zx ?_;refine za (fun h=>?_) fun h=>?_
 ·simp only [Yg] at h;have h':n<t.checks.length:=Za;have hw:=zh h' Za;have hE:xK t (t.checks.getD n default)≠0->num (xK t (t.checks.getD n default))=R:=fun hne=>by
   have:=xV (xK t) t.checks n h' hi hne;rw [<-hr,hM2,this]
  have hl:(yd t).length<=1000000000:=by rw [yd,Y2];omega
  refine zg [[0,3,1,1,2,6]] [] (vr t Za) ?_;refine Zf ?_;refine ⟨Zs,?_⟩;refine zg [[1],[0,0,0,0,0,6]] [] (c_rtype (yd t) hl (t.checks.getD n default) (ht.chks _ (zk h'))) ?_;exact Ms
 exact Kw
def rB (b:Bool):List D:=[.lit (.bool b)]
attribute [local simp, local push_cast] rB
def qN (s:Sch) (p:List Int):List Bool:=(List.range s.length).map fun i:Nat=>p.contains (i:Int)
theorem doneL_length (s:Sch) (p:List Int):(qN s p).length=s.length:=by simp [qN]
theorem doneL_get (s:Sch) (p:List Int) (i:Nat) (h:i<s.length):(qN s p).getD i default=p.contains (i:Int):=by
 rw [qN,Yf,List.getElem?_map,List.getElem?_range h];rfl
theorem doneL_nil (s:Sch):qN s []=List.replicate s.length false:=by
 apply Uc;intro i;simp only [qN,List.getElem?_map,List.getElem?_replicate];by_cases h:i<s.length
 ·rw [List.getElem?_range h,if_pos h];rfl
 ·rw [List.getElem?_eq_none Zt,if_neg h];rfl
theorem doneL_set (s:Sch) (p:List Int) (k:Int) (h0:0<=k) (h1:k<s.length):(qN s p).set k.toNat true=qN s (p++[k]):=by
 apply Uc;intro i;rw [List.getElem?_set,doneL_length];by_cases hi:i<s.length
 ·simp only [qN,List.getElem?_map];rw [List.getElem?_range hi];by_cases hk:k.toNat=i
  ·rw [if_pos hk,if_pos Za];have:k=(i:Int):=Za;simp [this]
  ·rw [if_neg hk];have: ¬(i:Int)=k:=Za;simp [this]
 ·rw [if_neg Za];simp only [qN,List.getElem?_map];rw [List.getElem?_eq_none Zt];rfl
def cst0 (kt:UL) (ts:Nat->List (Nat×A)) (os:Nat->List (Nat×Ob)) (n:Nat):SL:=⟨ts n++kt,os n⟩
theorem loop_count0 {P:Program} {tt:Types} (hm:P.follows .mixedOrders=true) (T':tt.ok P) {c:Code} {K:Exit->SL->Prop} {t:UL} {o:UM} {kt:UL}
 (keep:List Nat) (hk:zF t keep=kt) (N:Nat) (Inv:Nat->Prop) (ts:Nat->List (Nat×A)) (os:Nat->List (Nat×Ob)) (h0:Inv 0)
 (hw:Weak (SL.mk t o).st (cst0 kt ts os 0).st)
 (step: ∀(I:{n:Nat // n<=N/\Inv n}->SL),(∀x,I x=cst0 kt ts os x.1)-> ∀(n:Nat) (hn:n<=N) (hi:Inv n),ev P tt c (jr I (fun x=>N-x.1) ⟨n,hn,hi⟩ K) (cst0 kt ts os n)):
 wK P c K ⟨t,o⟩:=
 jU hm T' (fun x:{n:Nat // n<=N/\Inv n}=>cst0 kt ts os x.1) (fun x=>N-x.1) ⟨0,Yj _,h0⟩ hw fun ⟨n,hn,hi⟩=>step _ (fun _=>rfl) n hn hi
theorem cnt_again0 {N:Nat} {Inv:Nat->Prop} {I:{n:Nat // n<=N/\Inv n}->SL} {kt:UL} {ts:Nat->List (Nat×A)} {os:Nat->List (Nat×Ob)} (hI: ∀x,I x=cst0 kt ts os x.1)
 (n:Nat) {x:{n:Nat // n<=N/\Inv n}} (hx:x.1=n) {K:Exit->SL->Prop} {t:UL} {o:UM} (h1:n<N) (h2:Inv (n+1))
 (hw:Weak (SL.mk t o).st (cst0 kt ts os (n+1)).st):jr I (fun x=>N-x.1) x K .normal ⟨t,o⟩:=by
 refine ⟨⟨n+1,h1,h2⟩,Zl,?_⟩;rw [hI];exact hw
def vv (s:Sch) (p:List Int):Nat->Int
 | 0=> -1
 | j+1=>if ux s p j then j else -1
theorem vv_pick {s:Sch} {p:List Int} {j:Nat} (hj:j<=s.length) (hji: ∀i,i+1<j->ux s p i=false) (h:j=s.length\/ ¬vv s p j<0):vv s p j=xw s p:=by
 have hg: ∀i,i<s.length->(List.range s.length).getD i default=i:=fun i hi=>jP hi;cases j with
 | zero=>
   rcases h with h | h
   ·have:xw s p= -1:=by rw [xw,←h];rfl
    rw [this];rfl
   ·exact absurd (show (-1:Int)<0 from Zi) h
 | succ j=>
   by_cases hf:ux s p j=true
   ·have h1:vv s p (j+1)=j:=if_pos hf;rw [h1,xw];symm;refine vC (ux s p) (List.range s.length) j Zt (fun i hi=>?_) ?_
    ·rw [hg i Za];exact hji i Za
    ·rw [hg j Za];exact hf
   ·have hf':ux s p j=false:=Zc hf;have h1:vv s p (j+1)= -1:=if_neg hf;rw [h1] at h ⊢;have hj2:j+1=s.length:=h.resolve_right Zi;rw [xw];symm;refine xE (ux s p) (List.range s.length) fun i hi=>?_;rw [List.length_range] at hi;rw [hg i hi];by_cases hij:i=j
    ·rw [hij];exact hf'
    ·exact hji i Za
def frK (s:Sch) (p:List Int) (j k:Nat):Bool:=(!p.contains (j:Int))&&((fks s j).take k).all fun f=>p.contains (byT s f.table)
theorem frK_zero (s:Sch) (p:List Int) (j:Nat):frK s p j 0= !p.contains (j:Int):=by rw [frK];simp
theorem frK_succ (s:Sch) (p:List Int) (j k:Nat) (h:k<(fks s j).length):frK s p j (k+1)=(frK s p j k&&p.contains (byT s ((fks s j).getD k default).table)):=by
 rw [frK,frK,zy _ _ h,List.all_append];simp [Bool.and_assoc]
theorem frK_all (s:Sch) (p:List Int) (j:Nat):frK s p j (fks s j).length=ux s p j:=by rw [frK,Yk];rfl
theorem setB_rows (l:List Bool) (k:Nat) (h:k<l.length):(zd rB l).set k (D.lit (Value.bool true)::List.drop 1 ((zd rB l).getD k []))=zd rB (l.set k true):=by
 have h1:(zd rB l).getD k []=rB (l.getD k default):=by
  simp only [zd,Yf,List.getElem?_map,List.getElem?_eq_getElem h];rfl
 rw [h1];show (zd rB l).set k (rB true)=_;rw [zd,zd,List.map_set]
theorem Zy {p q P0:Prop} (zf_:P0) (h:q) (e:P0->p=q:=by intro zf_;conv=>lhs;simp -implicitDefEqProofs only [zf_,↓zb,push_cast,simprocAttr,tt]):p:=(e zf_).mpr h
theorem XF {p:Prop} (h:p:=by simp [cst0,ends]):p:=h
theorem Vd {p:Prop} (h:p:=by simp only [zF,ends,ite_true,ite_false,reduceIte,Nat.reduceEqDiff,Nat.reduceLeDiff,Nat.reduceLT,Nat.reduceAdd,reduceCtorEq,num,boo,str,ints,aV,aTab,z8,aS,aT,aC,yj,zQ,aFk,vT,rB];rfl):p:=h
theorem Ve {p:Prop} (h:p:=by have:=xU (ux s p) (List.range s.length);rw [List.length_range] at this;exact this):p:=h
theorem Mg{p:Prop}(h:p:=by
 refine zo [[1],[0]] rfl Zd Zj ?_ Zk Zb Zb;rfl):p:=h
theorem MK{p:Prop}(h:p:=by
 have hge:0<=xw s p:=Zp hneg;have hlt:xw s p<s.length:=Ve;have hinv: ∀i,i<n+1->0<=xw s (yI s i):=fun i h2=>if h3:i=n then by rw [h3,hp];exact hge else hi i Za
 have hpk:yI s (n+1)=p++[xw s p]:=by rw [yI,hp]
 have hds:=doneL_set s p (xw s p) hge hlt;refine ⟨⟨⟨hge,hlt⟩,hdl.symm⟩,⟨hdl.symm,Za,Za⟩,⟨hpl.symm,Za⟩,?_⟩;rw [setB_rows _ _ Za,hds,<-hpk];exact cnt_again0 hI n rfl h' hinv (Ya (by simp [cst0,hpl,ends]) XF XF)):p:=h
theorem Nw{p:Prop}(h:p:=by
 exact zp hI n rfl h' trivial (Ze hw) (Ze hw) (Ze hw) (Ze hw)):p:=h
theorem J5{p:Prop}(h:p:=by
 exact zp hQ k rfl k' trivial (by simp [hwk,hsk,f1,ends]) (by simp [hwk,hsk,f1,ends]) (by simp [hwk,hsk,f1,ends]) (by simp [hwk,hsk,f1,ends])):p:=h
theorem KK{p:Prop}(h:p:=by
 have hno:qx s=false:=wT h' (by rw [hp];exact YS (by omega));rw [<-hr,qw,uv,hno];rfl):p:=h
theorem Gn{p:Prop}(h:p:=by
 exact zp hJ j rfl j' hji2 (Z0 hwj hvs) (Z0 hwj hvs) (Z0 hwj hvs) (Z0 hwj hvs)):p:=h
theorem G5{p:Prop}(h:p:=by
 have hE:xw s p<0->A.tup [ints [],num 7]=R:=fun hneg=>by
  exact KK
 rw [hv];refine za (fun hneg=>?_) fun hneg=>?_
 ·have hR:=hE (Yd hneg);subst hR;exact Mg
 exact MK):p:=h
theorem c_rorder (s:Sch) (hs:s.length≤6) (hf: ∀t∈s,t.foreigns.length≤1000) (hall: ∀t∈s,∀f∈t.foreigns,0≤byT s f.table):
 ACall Tryz.prog 91 [aS s] [] (.tup [ints (qw s),num (uv s)]) []:=by
 refine zn mixed ttok Tryz.func91 Tryz.ntmps91 Tryz.results91 ?_;generalize hr:A.tup [ints (qw s),num (uv s)]=R;refine Zn ?_;refine zq mixed ttok 4 [1] [1] Zv Zw s.length (fun _=>True) (fun _=>[]) (fun _=>[]) trivial ?_ ?_
 ·exact Ya Zh Zh Zh
 intro I hI n hn hi;refine Zx ?_;refine za (fun h=>?_) fun h=>?_
 ·simp only [Yg] at h;have h':n<s.length:=Za;have hw:=zh h' Za;have hlF:=hf _ (zk h');have hallF:=hall _ (zk h');refine zq mixed ttok 5 [1,4] [1] Zv Zw (s.getD n default).foreigns.length (fun _=>True) (fun _=>[]) (fun _=>[]) trivial ?_ ?_
  ·exact Ya Zh Zh Zh
  intro J hJ k hk _;refine Zx ?_;refine ⟨Zs,?_⟩;refine za (fun g=>?_) fun g=>?_
  ·simp only [Yg] at g;have k':k<(s.getD n default).foreigns.length:=Za;have hwk:=zh k' Za;refine zg [[6],[0],[0]] [] (c_target s n k Za h' k') ?_;refine Zf ?_;have hge:=hallF _ (zk k');refine za (fun h=>absurd h (Z8 (YV hge))) fun _=>?_;exact zp hJ k rfl k' trivial (Ze hwk) (Ze hwk) (Ze hwk) (Ze hwk)
  ·exact Nw
 clear hI hi hn I;clear h;refine ⟨⟨Za,Za,Za⟩,?_⟩;have hrep:List.replicate s.length [D.lit (Value.bool false)]=zd rB (qN s []):=by rw [doneL_nil,zd,List.map_replicate];rfl
 rw [hrep];refine loop_count0 mixed ttok [1,8] Vd s.length (fun n=> ∀i,i<n->0<=xw s (yI s i)) (fun n=>[(9,.vec 500 n)])
  (fun n=>[(46,.vec 4 1 (zd rB (qN s (yI s n))) 0),(500,.vec 3 1 (zd rI (yI s n)) 0),(1,.var [.d (.sl 6 (zd rT s))])]) (fun i h=>absurd h (Yu _)) ?_ ?_
 ·exact (YU 9 500 3 1 rfl rfl).trans (Ya XF (by simp [cst0,yI,ends]) XF)
 intro I hI n hn hi;have hpl:=qv s n;generalize hp:yI s n=p at hpl;have hdl:=doneL_length s p;simp -implicitDefEqProofs only [cst0,hp,↓zb,push_cast,simprocAttr,tt];refine ⟨hpl.symm,?_⟩;refine za (fun h=>?_) fun h=>?_
 ·simp only [Yg] at h;have h':n<s.length:=Za;refine zq mixed ttok 11 [1,8,9] [46,500,1] Vd (by simp only [zH,zr,ends,ite_true,ite_false,reduceIte,Nat.reduceEqDiff,Nat.reduceLeDiff,Nat.reduceLT,Nat.reduceAdd,reduceCtorEq,num,boo,str,ints,aV,aTab,z8,aS,aT,aC,yj,zQ,aFk,vT,rB];rfl) s.length (fun j=> ∀i,i+1<j->ux s p i=false)
   (fun j=>[(10,.d (.lit (.int .i64 (vv s p j))))]) (fun _=>[]) (fun i h=>absurd h Za) ?_ ?_
  ·exact Ya (by simp [cst,vv,ends]) Zh Zh
  intro J hJ j hj hji;refine Zx ?_;have hFe:(s.getD j default).foreigns=fks s j:=rfl;refine za (fun q1=>?_) fun q1=>?_
  ·simp only [Yg] at q1;have j':j<s.length:=Za;have hwj:=zh j' Za;refine za (fun q2=>?_) fun q2=>?_
   ·have q2':vv s p j<0:=Yd q2;have hji2: ∀i,i+1<j+1->ux s p i=false:=fun i h2=>by
     by_cases h3:i+1=j
     ·subst h3;simp only [vv] at q2'
      split at q2'
      ·omega
      ·rename_i hh;simpa using hh
     ·exact hji i Za
    refine ⟨⟨Za,hdl.symm⟩,Za,hdl.symm,?_⟩;have hlF:=hf _ (zk j');have hallF:=hall _ (zk j');have hd0:=doneL_get s p j j';rw [hd0,<-frK_zero s p j];rw [hFe] at hlF hallF;refine zq mixed ttok 13 [1,8,9,10,11] [46,500,1] Zv Zw (fks s j).length (fun _=>True) (fun k=>[(12,.d (.lit (.bool (frK s p j k))))]) (fun _=>[]) trivial ?_ ?_
    ·exact Ya Zh Zh Zh
    intro Q hQ k hk _;simp -implicitDefEqProofs only [cst,hFe,↓zb,push_cast,simprocAttr,tt];refine ⟨Zs,?_⟩;refine za (fun g=>?_) fun g=>?_
    ·simp only [Yg] at g;have k':k<(fks s j).length:=Za;have hwk:=zh k' Za;have hge:=hallF _ (zk k');have hlt:byT s ((fks s j).getD k default).table<s.length:=xU _ _;refine zg [[6],[0],[0]] [] (c_target s j k Za j' k') ?_;refine Zy hFe ?_;have hd1:=doneL_get s p (byT s ((fks s j).getD k default).table).toNat Za;rw [Int.toNat_of_nonneg hge] at hd1;simp only [if_neg (show¬0>byT s ((fks s j).getD k default).table from Za)];have hsk:=frK_succ s p j k k';refine za (fun f1=>?_) fun f1=>?_
     ·refine ⟨⟨⟨hge,hlt⟩,hdl.symm⟩,Za,hdl.symm,?_⟩;rw [hd1];exact J5
     ·exact J5
    ·simp only [Ye] at g;obtain rfl:k=(fks s j).length:=Za;rw [frK_all];refine za (fun f1=>?_) fun f1=>?_
     ·have hvs:vv s p (j+1)=j:=if_pos f1;exact Gn
     ·have hvs:vv s p (j+1)=vv s p j:=by
       have h1:vv s p (j+1)= -1:=by simp only [vv,f1];rfl
       rw [h1];cases j with
       | zero=>rfl
       | succ i=>simp only [vv] at q2' ⊢;split at q2'<;>first | omega | (rename_i hh;rw [if_neg hh])
      exact Gn
   ·have hv:=vv_pick hj hji (.inr (Yc q2));exact G5
  ·have hv:=vv_pick hj hji (.inl (Zp q1));exact G5
 ·simp only [Ye] at h;obtain rfl:n=s.length:=Za;have hok:qx s=true:=all_range.2 fun i hi2=>YV (hi i hi2);have hR:A.tup [ints p,num 0]=R:=by rw [<-hr,qw,uv,hok,<-hp];rfl
  subst hR;exact Mg
end
section
attribute [local simp, local push_cast] Ta yj zQ aFk vT
theorem c_rsvalid (s:Sch) (hs:SmallS s):ACall Tryz.prog 46 [aS s] [] (num (xY s)) []:=by
 refine zn mixed ttok Tryz.func46 Tryz.ntmps46 Tryz.results46 ?_;generalize hr:num (xY s)=R;have hl:=hs.len;refine Zn ?_;refine za (fun h0=>?_) fun h0=>?_
 ·exact zm trivial (by rw [<-hr,xY,if_pos (Yd h0)];rfl) Zb
 have h0': ¬(s.length:Int)>6:=Yc h0;have hM:xY s=if uy (yT s) s.length≠0 then uy (yT s) s.length
  else if ferr (xr s) s≠0 then ferr (xr s) s else uv s:=by rw [xY,if_neg h0']
 refine zq mixed ttok 3 [1] [1] Zv Zw s.length (fun n=> ∀i,i<n->yT s i=0) (fun _=>[]) (fun _=>[]) (fun i h=>absurd h (Yu _)) ?_ ?_
 ·exact Ya Zh Zh Zh
 intro I hI n hn hi;refine Zx ?_;refine za (fun h=>?_) fun h=>?_
 ·simp only [Yg] at h;have h':n<s.length:=Za;have hw:=zh h' Za;have hE:yT s n≠0->num (yT s n)=R:=fun hne=>by
   exact JE
  have hg:s.getD n default∈s:=zk h';refine ⟨Zs,?_⟩;refine zg [[0]] [] (c_rname2 (s.getD n default).name) ?_;refine Zf ?_;refine za (fun g1=>?_) fun g1=>?_
  ·have hc:yT s n=3:=if_pos g1;exact zm trivial ZX Zb
  refine ⟨Zs,?_⟩;refine zg [[6],[0]] [] (c_rfind s (s.getD n default).name Za) ?_;refine Zf ?_;refine ⟨ze Zg,?_⟩;refine za (fun g2=>?_) fun g2=>?_
  ·have g2':uR (byT s (s.getD n default).name)≠n:=by simpa [uR] using g2
   have hc:yT s n=5:=by rw [yT,if_neg (by rw [g1];decide),if_pos ((byT_self s n h').2 g2')]
   exact zm trivial ZX Zb
  have g2': ¬uR (byT s (s.getD n default).name)≠n:=by simpa [uR] using g2
  have hcB:yT s n=xA (s.getD n default):=by rw [yT,if_neg (by rw [g1];decide),if_neg (fun q=>g2' ((byT_self s n h').1 q))]
  refine ⟨Zs,?_⟩;refine zg [[0,3,1,1,2,6]] [] (c_rtable (s.getD n default) (hs.tab _ hg)) ?_;exact Nz
 simp only [Ye] at h;obtain rfl:n=s.length:=Za;have hM2:xY s=if ferr (xr s) s≠0 then ferr (xr s) s else uv s:=by rw [hM,uG hi,if_neg (by decide)]
 have htab: ∀t∈s,xA t=0:=fun t ht=>by
  obtain ⟨i,h1,h2⟩:=uS ht;rw [<-h2];exact tabErr_table (hi i h1)
 clear hI hM h hi hn I;refine zq mixed ttok 7 [1] [1] Zv Zw s.length (fun n=> ∀i,i<n->xr s (s.getD i default)=0) (fun _=>[]) (fun _=>[]) (fun i h=>absurd h (Yu _)) ?_ ?_
 ·exact Ya Zh Zh Zh
 intro I hI n hn hi;refine Zx ?_;refine za (fun h=>?_) fun h=>?_
 ·simp only [Yg] at h;have h':n<s.length:=Za;have hw:=zh h' Za;have hg:s.getD n default∈s:=zk h';have hE:xr s (s.getD n default)≠0->num (xr s (s.getD n default))=R:=fun hne=>by
   have:=xV (xr s) s n h' hi hne;rw [<-hr,hM2,this,if_pos hne]
  have hT:=hs.tab _ hg;have hTf:=hT.fors;have hfs:=table_fors (htab _ hg);refine zq mixed ttok 8 [1,7] [1] Zv Zw (s.getD n default).foreigns.length (fun k=> ∀i,i<k->refM s (s.getD n default) ((s.getD n default).foreigns.getD i default)=0) (fun _=>[]) (fun _=>[]) (fun i h=>absurd h (Yu _)) ?_ ?_
  ·exact Ya Zh Zh Zh
  intro J hJ k hk hki;refine Zx ?_;refine ⟨Zs,?_⟩;refine za (fun g=>?_) fun g=>?_
  ·simp only [Yg] at g;have k':k<(s.getD n default).foreigns.length:=Za;have hwk:=zh k' Za;have hfm:=zk k';refine zg [[6],[0],[0]] [] (c_target s n k hl h' k') ?_;refine Zf ?_;have hE2:refM s (s.getD n default) ((s.getD n default).foreigns.getD k default)≠0->num (refM s (s.getD n default) ((s.getD n default).foreigns.getD k default))=R:=fun hne=>by
    have hc:xr s (s.getD n default)=refM s (s.getD n default) ((s.getD n default).foreigns.getD k default):=xV (refM s (s.getD n default)) (s.getD n default).foreigns k k' hki hne;rw [<-hc];exact hE (by rw [hc];exact hne)
   have hz2:refM s (s.getD n default) ((s.getD n default).foreigns.getD k default)=0-> ∀i,i<k+1->refM s (s.getD n default) ((s.getD n default).foreigns.getD i default)=0:=fun hz i h2=>if h3:i=k then by rw [h3];exact hz else hki i Za
   have hcols:=hfs _ hfm;have hlc:=hT.forss _ hfm;generalize hf:(s.getD n default).foreigns.getD k default=f at hE2 hz2 hcols hlc;refine za (fun g1=>?_) fun g1=>?_
   ·have g1':byT s f.table<0:=Zc g1;have hc:refM s (s.getD n default) f=11:=if_pos g1';exact zm trivial XS Zb
   have g1': ¬byT s f.table<0:=Zc g1;have hlt:byT s f.table<s.length:=xU _ _;have hcB:refM s (s.getD n default) f=if jj (s.getD n default) (s.getD (byT s f.table).toNat default) f.columns (s.getD (byT s f.table).toNat default).primary then 0 else 6:=if_neg g1'
   have hUm:s.getD (byT s f.table).toNat default∈s:=zk Za;have hprim:=table_prim (htab _ hUm);simp only [if_neg (show¬0>byT s f.table from Za)];generalize byT s f.table=bt at g1' hlt hcB hprim ⊢;generalize hU:s.getD bt.toNat default=U at hcB hprim;refine ⟨Za,Za,⟨Za,hlt⟩,ze Zg,?_⟩;refine za (fun g2=>?_) fun g2=>?_
   ·have hne:=ne_nat g2;have hc:refM s (s.getD n default) f=6:=by rw [hcB,jj,beq_false_of_ne hne];rfl
    exact zm trivial XS Zb
   have hle:=kd g2;have hcC:refM s (s.getD n default) f=if (List.range f.columns.length).all (fun i=>x8 (s.getD n default) (f.columns.getD i default)==x8 U (U.primary.getD i default)) then 0 else 6:=by
    rw [hcB,jj,hle,beq_self_eq_true,Yo]
   refine zq mixed ttok 13 [1,7,8,9,11,12] [1] Zv Zw f.columns.length (fun j=> ∀i,i<j->(x8 (s.getD n default) (f.columns.getD i default)==x8 U (U.primary.getD i default))=true) (fun _=>[]) (fun _=>[]) (fun i h=>absurd h (Yu _)) ?_ ?_
   ·exact Ya Zh Zh Zh
   intro Q hQ j hj hji;refine Zx ?_;refine za (fun q=>?_) fun q=>?_
   ·simp only [Yg] at q;have j':j<f.columns.length:=Za;have hwj:=zh j' Za;obtain ⟨a0,a1⟩:=hcols _ (zk j');obtain ⟨b0,b1⟩:=hprim (U.primary.getD j default) (zk Za);refine ⟨Za,Za,⟨a0,a1⟩,⟨Za,hlt⟩,Za,⟨b0,by rw [hU];exact b1⟩,ze Zg,?_⟩;rw [hU];refine za (fun e=>?_) fun e=>?_
    ·have e':(x8 (s.getD n default) (f.columns.getD j default)==x8 U (U.primary.getD j default))=false:=by simpa [bne,x8] using e
     have hc:refM s (s.getD n default) f=6:=by rw [hcC,wT (n:=j) j' e'];rfl
     exact zm trivial XS Zb
    ·have e':(x8 (s.getD n default) (f.columns.getD j default)==x8 U (U.primary.getD j default))=true:=by simpa [bne,x8] using e
     exact zp hQ j rfl j' (fun i h2=>if h3:i=j then by rw [h3];exact e' else hji i Za) (Ze hwj) (Ze hwj) (Ze hwj) (Ze hwj)
   ·simp only [Ye] at q;obtain rfl:j=f.columns.length:=Za;have hc:refM s (s.getD n default) f=0:=by rw [hcC,all_range.2 hji];rfl
    exact zp hJ k rfl k' (hz2 hc) (Ze hwk) (Ze hwk) (Ze hwk) (Ze hwk)
  ·simp only [Ye] at g;obtain rfl:k=(s.getD n default).foreigns.length:=Za;have hz:xr s (s.getD n default)=0:=yQ _ _ hki;exact zp hI n rfl h' (fun i h2=>if h3:i=n then by rw [h3];exact hz else hi i Za) (Ze hw) (Ze hw) (Ze hw) (Ze hw)
 simp only [Ye] at h;obtain rfl:n=s.length:=Za;clear hI;have hz:ferr (xr s) s=0:=yQ (xr s) s hi;have hall: ∀t∈s,∀f∈t.foreigns,0<=byT s f.table:=fun t ht f hf=>refM_at (wR (wR hz t ht) f hf);refine zg [[6]] [] (c_rorder s Za (fun t ht=>(hs.tab t ht).fors) hall) ?_;exact Ga
end
section
attribute [local simp, local push_cast] Ta yj zQ aFk vT rTab rRow
theorem c_rfits (s:Sch) (inst:Inst) (hs:SmallS s) (hi:SmallI inst):ACall Tryz.prog 18 [aS s,z8 inst] [] (num (we s inst)) []:=by
 refine zn mixed ttok Tryz.func18 Tryz.ntmps18 Tryz.results18 ?_;generalize hr:num (we s inst)=R;have hl:=hs.len;have hli:=hi.len;refine Zn ?_;refine zg [[6]] [] (c_rsvalid s hs) ?_;refine Zf ?_;refine za (fun h0=>?_) fun h0=>?_
 ·exact Gb
 have h0': ¬xY s≠0:=Zc h0;refine za (fun h1=>?_) fun h1=>?_
 ·exact zm trivial (by rw [<-hr,we,if_neg h0',if_pos (neN_of h1)];rfl) Zb
 have hlen:=kd h1;have hM:we s inst=uy (jt s inst) s.length:=by rw [we,if_neg h0',if_neg (eqN_of h1)]
 refine zq mixed ttok 6 [2,3] [2,3] Zv Zw s.length (fun n=> ∀i,i<n->jt s inst i=0) (fun _=>[]) (fun _=>[]) (fun i h=>absurd h (Yu _)) ?_ ?_
 ·exact Ya Zh Zh Zh
 intro I hI n hn hii;refine Zx ?_;refine za (fun h=>?_) fun h=>?_
 ·simp only [Yg] at h;have h':n<s.length:=Za;have hw:=zh h' Za;have hE:jt s inst n≠0->num (jt s inst n)=R:=fun hne=>by
   have:=qf h' hii hne;rw [<-hr,hM,this]
  have hzero:jt s inst n=0-> ∀i,i<n+1->jt s inst i=0:=fun hz i h2=>if h3:i=n then by rw [h3];exact hz else hii i Za
  have hgt:s.getD n default∈s:=zk h';have hgl:inst.getD n default∈inst:=zk Za;have hll:=hi.tab _ hgl;have hlr:=hi.row _ hgl;have hTc:=(hs.tab _ hgt).cols;unfold jt at hE hzero;generalize hT:s.getD n default=T at hE hTc hzero;generalize hL:inst.getD n default=L at hE hll hlr hzero;refine ⟨Za,?_⟩;refine za (fun h2=>?_) fun h2=>?_
  ·have hc:tabF T L=8:=if_pos (Yd h2);exact zm trivial ZX Zb
  have hcT:tabF T L=ferr (xq T) L:=if_neg (Yc h2);rw [hcT] at hE hzero;refine zq mixed ttok 7 [2,3,6] [2,3] Zv Zw L.length (fun k=> ∀i,i<k->xq T (L.getD i default)=0) (fun _=>[]) (fun _=>[]) (fun i h=>absurd h (Yu _)) ?_ ?_
  ·exact Ya Zh Zh Zh
  intro J hJ k hk hki;simp -implicitDefEqProofs only [cst,hL,↓zb,push_cast,simprocAttr,tt];refine ⟨Za,?_⟩;refine za (fun g=>?_) fun g=>?_
  ·simp only [Yg] at g;have k':k<L.length:=Za;have hwk:=zh k' Za;have hrm:L.getD k default∈L:=zk k';have hrl:=hlr _ hrm;have hE2:xq T (L.getD k default)≠0->num (xq T (L.getD k default))=R:=fun hne=>by
    exact Gm
   have hzero2:xq T (L.getD k default)=0-> ∀i,i<k+1->xq T (L.getD i default)=0:=fun hz i h2=>if h3:i=k then by rw [h3];exact hz else hki i Za
   generalize hW:L.getD k default=W at hE2 hzero2 hrl;refine ⟨Za,Za,Za,?_⟩;rw [hT];refine za (fun h3=>?_) fun h3=>?_
   ·have hc:xq T W=9:=if_pos (neN_of h3);exact zm trivial XS Zb
   have hWl:=kd h3;have hcW:xq T W=if (List.range W.length).all (fun j=> !badV (T.columns.getD j default) (W.getD j default)) then 0 else 4:=if_neg (eqN_of h3)
   refine zq mixed ttok 9 [2,3,6,7,8] [2,3] Zv Zw W.length (fun j=> ∀i,i<j->(!badV (T.columns.getD i default) (W.getD i default))=true) (fun _=>[]) (fun _=>[]) (fun i h=>absurd h (Yu _)) ?_ ?_
   ·exact Ya Zh Zh Zh
   intro Q hQ j hj hji;simp -implicitDefEqProofs only [cst,hL,hT,↓zb,push_cast,simprocAttr,tt];refine za (fun q=>?_) fun q=>?_
   ·simp only [Yg] at q;have j':j<W.length:=Za;have hwj:=zh j' Za;refine ⟨Zs,?_⟩;have hbad:badV (T.columns.getD j default) (W.getD j default)=true->num 4=R:=fun hb=>by
     exact KA
    have hgood:badV (T.columns.getD j default) (W.getD j default)=false-> ∀i,i<j+1->(!badV (T.columns.getD i default) (W.getD i default))=true:=fun hb i h2=>if h3:i=j then by rw [h3,hb];rfl else hji i Za
    refine zg [[0,0,0]] [] (qm (W.getD j default)) ?_;refine Zy hT ?_;refine za (fun v1=>?_) fun v1=>?_
    ·exact Gi
    refine ⟨Za,?_⟩;refine za (fun v2=>?_) fun v2=>?_
    ·refine ⟨Za,Za,Za,ze Zg,?_⟩;exact NM
    ·exact JQ
   ·exact NW
  ·exact JD
 ·exact KB
end
end Go.Proofs.YtnmibokjpedkiaaGreatDoor
