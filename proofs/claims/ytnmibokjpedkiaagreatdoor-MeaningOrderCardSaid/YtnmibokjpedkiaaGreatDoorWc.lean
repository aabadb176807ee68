/- Made queries answer as specified (part Wc) -/
import Derived.Test.YtnmibokjpedkiaaGreatDoorWb
set_option maxRecDepth 100000
set_option maxHeartbeats 4000000
set_option linter.all false
namespace Go.Proofs.YtnmibokjpedkiaaGreatDoor
open Go.Am
section
attribute [local simp, local push_cast] Ta yk zP aFk vT rTab rRow
def badV (c:Col) (v:Val):Bool:= !zQ v || ((v.kind !=0)&&(v.kind !=c.type))
def yW (t:Tbl) (r:Row):Int:=if (r.length:Int)≠t.columns.length then 9 else if (List.range r.length).all (fun j=> !badV (t.columns.getD j default) (r.getD j default)) then 0 else 4
def tabF (t:Tbl) (l:Tab2):Int:=if (l.length:Int)>200 then 8 else ferr (yW t) l
def vm (s:Sch) (i:Inst) (n:Nat):Int:=tabF (s.getD n default) (i.getD n default)
def xN (s:Sch) (i:Inst):Int:=
 if we s≠0 then we s else if (i.length:Int)≠s.length then 9 else uk (vm s i) s.length
structure SmallI (i:Inst):Prop where
 len:i.length<=1000
 tab: ∀l∈i,l.length<=1000
 row: ∀l∈i,∀r∈l,r.length<=1000
theorem eqN_of {a b:Nat} (h:((a:Int) !=(b:Int))=false): ¬(a:Int)≠b:=by have:=kf h;omega
theorem neN_of {a b:Nat} (h:((a:Int) !=(b:Int))=true):(a:Int)≠b:=by have:=ne_nat h;omega
theorem XZ {p:Prop} (h:p:=by rw [<-hE2 (by rw [hc];decide),hc];rfl):p:=h
theorem NM{p:Prop}(h:p:=by
 refine za (fun v3=>?_) fun v3=>?_
 ·exact zl trivial (hbad (by rw [badV,v2,v3];simp)) Zb
 ·exact zp hQ j rfl j' (hgood (by rw [badV,v1,v3];simp)) (Zg hwj) (Zg hwj) (Zg hwj) (Zg hwj)):p:=h
theorem NV{p:Prop}(h:p:=by
 simp only [Yf] at q;obtain rfl:j=W.length:=Za;have hz:yW T W=0:=by rw [hcW,all_range.2 hji];rfl
 exact zp hJ k rfl k' (hzero2 hz) (Zg hwk) (Zg hwk) (Zg hwk) (Zg hwk)):p:=h
theorem JF{p:Prop}(h:p:=by
 simp only [Yf] at g;obtain rfl:k=L.length:=Za;exact zp hI n rfl h' (hzero (yQ (yW T) L hki)) (Zg hw) (Zg hw) (Zg hw) (Zg hw)):p:=h
theorem JT{p:Prop}(h:p:=by
 refine ⟨ze Zf,?_⟩;exact zp hQ j rfl j' (hgood (by rw [badV,v1,v2];simp)) (Zg hwj) (Zg hwj) (Zg hwj) (Zg hwj)):p:=h
theorem KF{p:Prop}(h:p:=by
 have:yW T W=4:=by rw [hcW,wW (n:=j) j' (by rw [hb];rfl)];rfl
 rw [<-hE2 (ZA this),this]):p:=h
theorem KH{p:Prop}(h:p:=by
 simp only [Yf] at h;obtain rfl:n=s.length:=Za;exact zl trivial (ZK hr hM (uJ hii)) Zb):p:=h
theorem Gf{p:Prop}(h:p:=by
 have h0':we s≠0:=Zc h0;exact zl trivial (by rw [<-hr,xN,if_pos h0'];rfl) Zb):p:=h
theorem Gm{p:Prop}(h:p:=by
 refine ⟨ze Zf,?_⟩;exact zl trivial (hbad (by rw [badV,v1,Y0])) Zb):p:=h
theorem Gt{p:Prop}(h:p:=by
 have:=xZ (yW T) L k k' hki hne;rw [<-hE (by rw [this];exact hne),this]):p:=h
theorem c_fits (s:Sch) (inst:Inst) (hs:SmallS s) (hi:SmallI inst):ACall Tryz.prog 17 [aS s,z7 inst] [] (num (xN s inst)) []:=by
 refine zn mixed ttok Tryz.func17 Tryz.ntmps17 Tryz.results17 ?_;generalize hr:num (xN s inst)=R;have hl:=hs.len;have hli:=hi.len;refine Zn ?_;refine zf [[6]] [] (c_svalid s hs) ?_;refine Ze ?_;refine za (fun h0=>?_) fun h0=>?_
 ·exact Gf
 have h0': ¬we s≠0:=Zc h0;refine za (fun h1=>?_) fun h1=>?_
 ·exact zl trivial (by rw [<-hr,xN,if_neg h0',if_pos (neN_of h1)];rfl) Zb
 have hlen:=kf h1;have hM:xN s inst=uk (vm s inst) s.length:=by rw [xN,if_neg h0',if_neg (eqN_of h1)]
 refine zq mixed ttok 27 [2,3,25,26] [2,3] Zw Zx s.length (fun n=> ∀i,i<n->vm s inst i=0) (fun _=>[]) (fun _=>[]) (fun i h=>absurd h (Yv _)) ?_ ?_
 ·exact Ya Zh Zh Zh
 intro I hI n hn hii;refine Zy ?_;refine za (fun h=>?_) fun h=>?_
 ·simp only [Yg] at h;have h':n<s.length:=Za;have hw:=zh h' Za;have hE:vm s inst n≠0->num (vm s inst n)=R:=fun hne=>by
   have:=qj h' hii hne;rw [<-hr,hM,this]
  have hzero:vm s inst n=0-> ∀i,i<n+1->vm s inst i=0:=fun hz i h2=>if h3:i=n then by rw [h3];exact hz else hii i Za
  have hgt:s.getD n default∈s:=zk h';have hgl:inst.getD n default∈inst:=zk Za;have hll:=hi.tab _ hgl;have hlr:=hi.row _ hgl;have hTc:=(hs.tab _ hgt).cols;unfold vm at hE hzero;generalize hT:s.getD n default=T at hE hTc hzero;generalize hL:inst.getD n default=L at hE hll hlr hzero;refine ⟨Zu,Za,?_⟩;refine za (fun h2=>?_) fun h2=>?_
  ·have hc:tabF T L=8:=if_pos (Yb h2);exact zl trivial Xb Zb
  have hcT:tabF T L=ferr (yW T) L:=if_neg (Yc h2);rw [hcT] at hE hzero;refine ⟨Za,?_⟩;refine zq mixed ttok 45 [2,3,7,25,26,27,43,44] [2,3,7] Zw Zx L.length (fun k=> ∀i,i<k->yW T (L.getD i default)=0) (fun _=>[]) (fun _=>[]) (fun i h=>absurd h (Yv _)) ?_ ?_
  ·exact Ya Zh Zh Zh
  intro J hJ k hk hki;refine Zy ?_;refine za (fun g=>?_) fun g=>?_
  ·simp only [Yg] at g;have k':k<L.length:=Za;have hwk:=zh k' Za;have hrm:L.getD k default∈L:=zk k';have hrl:=hlr _ hrm;have hE2:yW T (L.getD k default)≠0->num (yW T (L.getD k default))=R:=fun hne=>by
    exact Gt
   have hzero2:yW T (L.getD k default)=0-> ∀i,i<k+1->yW T (L.getD i default)=0:=fun hz i h2=>if h3:i=k then by rw [h3];exact hz else hki i Za
   generalize hW:L.getD k default=W at hE2 hzero2 hrl;refine ⟨Zu,?_⟩;refine za (fun h3=>?_) fun h3=>?_
   ·have hc:yW T W=9:=if_pos (neN_of h3);exact zl trivial XZ Zb
   have hWl:=kf h3;have hcW:yW T W=if (List.range W.length).all (fun j=> !badV (T.columns.getD j default) (W.getD j default)) then 0 else 4:=if_neg (eqN_of h3)
   refine zq mixed ttok 57 [2,3,7,25,26,27,43,44,45,55,56] [2,3,7] Zw Zx W.length (fun j=> ∀i,i<j->(!badV (T.columns.getD i default) (W.getD i default))=true) (fun _=>[]) (fun _=>[]) (fun i h=>absurd h (Yv _)) ?_ ?_
   ·exact Ya Zh Zh Zh
   intro Q hQ j hj hji;refine Zy ?_;refine za (fun q=>?_) fun q=>?_
   ·simp only [Yg] at q;have j':j<W.length:=Za;have hwj:=zh j' Za;refine ⟨Zu,?_⟩;have hbad:badV (T.columns.getD j default) (W.getD j default)=true->num 4=R:=fun hb=>by
     exact KF
    have hgood:badV (T.columns.getD j default) (W.getD j default)=false-> ∀i,i<j+1->(!badV (T.columns.getD i default) (W.getD i default))=true:=fun hb i h2=>if h3:i=j then by rw [h3,hb];rfl else hji i Za
    refine zf [[0,0,0]] [] (u5 (W.getD j default)) ?_;refine Ze ?_;refine za (fun v1=>?_) fun v1=>?_
    ·exact Gm
    refine za (fun v2=>?_) fun v2=>?_
    ·refine ⟨Za,ze Zf,?_⟩;exact NM
    ·exact JT
   ·exact NV
  ·exact JF
 ·exact KH
end
section
attribute [local simp, local push_cast] Ta yk zP aFk vT
theorem qr (l:List Int) (v:Int) (hl:l.length≤1000000000):ACall Tryz.prog 237 [ints l,num v] [] (boo (l.all fun x=>x==v)) []:=by
 refine zn mixed ttok Tryz.func237 Tryz.ntmps237 Tryz.results237 ?_;generalize hr:boo (l.all fun x=>x==v)=R;refine Zn ?_;refine zq mixed ttok 5 [0,1] [] Zw Zx l.length (fun n=> ∀i,i<n->(l.getD i default==v)=true) (fun _=>[]) (fun _=>[]) (fun i h=>absurd h (Yv _)) ?_ ?_
 ·exact Ya Zh Zh Zh
 intro I hI n hn hi;refine Zy ?_;refine za (fun h=>?_) fun h=>?_
 ·simp only [Yg] at h;have h':n<l.length:=Za;have hw:=zh h' Za;refine ⟨Zu,?_⟩;refine za (fun g=>?_) fun g=>?_
  ·have:(l.all fun x=>x==v)=false:=by
    rw [List.all_eq_false];exact ⟨_,zk h',Zc g⟩
   exact MH
  ·have g':(l.getD n default==v)=true:=Zc g;exact M5
 ·simp only [Yf] at h;obtain rfl:n=l.length:=Za;have:(l.all fun x=>x==v)=true:=by
   rw [YW];intro x hx;obtain ⟨i,h1,rfl⟩:=uV hx;exact hi i h1
  exact MH
def y7 (op n:Int):Bool:=
 if op<=5 then n==0 else if (((op==11 || op==13) || op==21) || op==24) || op==25 then n==1
 else if op==26 then n==3 else if op==28 then decide (n≥2) else n==2
theorem c_rkids (op n:Int):ACall Tryz.prog 132 [num op,num n] [] (boo (y7 op n)) []:=by
 refine zn mixed ttok Tryz.func132 Tryz.ntmps132 Tryz.results132 ?_;generalize hr:boo (y7 op n)=R;refine Zn ?_;refine za (fun h1=>?_) fun h1=>?_
 ·exact zl trivial (by rw [<-hr,y7,if_pos (Yb h1)];rfl) Zb
 have hk:y7 op n=if (((op==11 || op==13) || op==21) || op==24) || op==25 then n==1 else if op==26 then n==3 else if op==28 then decide (n≥2) else n==2:=if_neg (Yc h1)
 repeat' first
  | exact zl trivial (by rw [<-hr,hk];simp only [*,Y0,Y4,Y7,Yy,Yq,if_true,if_false,boo]) Zb
  | (refine za (fun _=>?_) fun _=>?_)
theorem op_cases {op:Int} (h:isOp op=true): ∃n:Nat,n<29/\1<=n/\op=n:=by
 simp only [isOp,Yz,Yg] at h;exact ⟨op.toNat,Za,Za,Za⟩
set_option synthInstance.maxSize 4000 in
set_option synthInstance.maxHeartbeats 400000 in
theorem kids_tab0: ∀n∈List.range 29,n=0\/(n=1\/n=2\/n=3\/n=4\/n=5)/\(opTab.getD n default).kids=0\/(n=11\/n=13\/n=21\/n=24\/n=25)/\(opTab.getD n default).kids=1\/
 n=26/\(opTab.getD n default).kids=3\/n=28/\(opTab.getD n default).kids=2\/
 (n=6\/n=7\/n=8\/n=9\/n=10\/n=12\/n=14\/n=15\/n=16\/n=17\/n=18\/n=19\/n=20\/n=22\/n=23\/n=27)/\(opTab.getD n default).kids=2:=Zi
theorem kids_tab (n:Nat) (h1:n<29) (h2:1<=n):(((n:Int)<=5 ↔ (opTab.getD n default).kids=0)/\(((((n:Int)=11\/(n:Int)=13)\/(n:Int)=21)\/(n:Int)=24)\/(n:Int)=25 ↔ (opTab.getD n default).kids=1)/\
 ((n:Int)=26 ↔ (opTab.getD n default).kids=3)/\((opTab.getD n default).kids=0\/(opTab.getD n default).kids=1\/(opTab.getD n default).kids=2\/(opTab.getD n default).kids=3)/\
 ((n:Int)=28->(opTab.getD n default).kids=2)):=by
 have:=kids_tab0 n (Zc h1);generalize (opTab.getD n default).kids=k at this;omega
theorem qF {e:Ex} (h:isOp e.op=true):y7 e.op e.kids.length=yU e:=by
 obtain ⟨n,h1,h2,h3⟩:=op_cases h;have hf:(yX e.op).kids=(opTab.getD n default).kids:=by rw [yX,h,if_pos rfl,opAt,h3,YB]
 obtain ⟨a1,a2,a3,a4,a5⟩:=kids_tab n h1 h2;rw [yU,h,hf,Yo,y7,h3];generalize (opTab.getD n default).kids=k at a1 a2 a3 a4 a5;generalize e.kids.length=m;rw [Ud];simp only [Ul,Yz,beq_iff_eq,Yg];by_cases b1:(n:Int)<=5
 ·rw [if_pos b1];simp only [beq_iff_eq];have:=a1.1 b1;omega
 ·rw [if_neg b1];by_cases b2:((((n:Int)=11\/(n:Int)=13)\/(n:Int)=21)\/(n:Int)=24)\/(n:Int)=25
  ·rw [if_pos b2];simp only [beq_iff_eq];have:=a2.1 b2;omega
  ·rw [if_neg b2];by_cases b3:(n:Int)=26
   ·rw [if_pos b3];simp only [beq_iff_eq];have:=a3.1 b3;omega
   ·rw [if_neg b3];have c1: ¬k=0:=fun e=>b1 (a1.2 e);have c2: ¬k=1:=fun e=>b2 (a2.2 e);have c3: ¬k=3:=fun e=>b3 (a3.2 e);by_cases b4:(n:Int)=28
    ·rw [if_pos b4];simp only [Yg];have:=a5 b4;omega
    ·rw [if_neg b4];simp only [beq_iff_eq];omega
theorem X8 {p:Prop} (h:p:=by rw [<-hr,hM];simp only [*,Yo,YT,Yl,YI,boo]):p:=h
theorem ML{p:Prop}(h:p:=by
 rw [g1,yC,g2,yC]
 repeat' first | (refine za (fun _=>?_) fun _=>?_) | exact zl trivial X8 Zb):p:=h
theorem Ko{p:Prop}(h:p:=by
 exact zl trivial (ZK hr hM ha) Zb):p:=h
theorem c_plain (e:Ex):ACall Tryz.prog 219 [aE e] [] (boo (isOp e.op&&yx e)) []:=by
 refine zn mixed ttok Tryz.func219 Tryz.ntmps219 Tryz.results219 ?_;generalize hr:boo (isOp e.op&&yx e)=R;have he:(ByteArray.mk #[]).toList=[]:=Xd;have he2:ByteArray.empty.toList=[]:=Xd;have hh:(([]:List UInt8)==[])=true:=rfl;have h00:((0:Int)==0)=true:=rfl;have hv1:zQ ⟨1,e.num,ByteArray.empty⟩=(decide (e.num≥ -1000000000000)&&decide (e.num<=1000000000000)):=by simp [zQ,he2]
 have hv2:zQ ⟨2,e.num,ByteArray.empty⟩=((e.num==0) || (e.num==1)):=by simp [zQ,he2]
 simp -implicitDefEqProofs only [argT,he,he2,hh,h00,↓zb,push_cast,simprocAttr,tt];refine za (fun k1=>?_) fun k1=>?_
 ·have hk:e.op=1:=Zc k1;have g1:decide (e.op≥1)=true:=ZA hk;have g2:decide (e.op<=28)=true:=ZA hk;have hM:(isOp e.op&&yx e)=((((((e.type==1 || e.type==2) || e.type==3)&&true)&&(e.num==0))&&(e.text.toList==[]))&&(e.col==0)):=by simp [yx,isOp,okF,noT,noN,noX,noC,hk]
  refine za (fun a1=>?_) fun a1=>?_
  ·have ha:((e.type==1 || e.type==2) || e.type==3)=false:=by simp at a1 ⊢;omega
   exact Ko
  refine za (fun a2=>?_) fun a2=>?_
  ·have ha:((e.type==1 || e.type==2) || e.type==3)=false:=by simp at a2 ⊢;omega
   exact Ko
  have ha:((e.type==1 || e.type==2) || e.type==3)=true:=by simp at a1 a2 ⊢;omega
  rw [ha] at hM;clear ha a1 a2 hk k1;exact ML
 refine za (fun k2=>?_) fun k2=>?_
 ·have hk:e.op=2:=Zc k2;have g1:decide (e.op≥1)=true:=ZA hk;have g2:decide (e.op<=28)=true:=ZA hk;have hM:(isOp e.op&&yx e)=(((((decide (e.num≥ -1000000000000)&&decide (e.num<=1000000000000))&&(e.type==0))&&true)&&(e.text.toList==[]))&&(e.col==0)):=by rw [<-hv1];simp [yx,isOp,okF,noT,noN,noX,noC,hk]
  refine za (fun a1=>?_) fun a1=>?_
  ·have ha:decide (e.num≥ -1000000000000)=false:=by simp at a1 ⊢;omega
   exact Ko
  refine za (fun a2=>?_) fun a2=>?_
  ·have ha:decide (e.num≤1000000000000)=false:=by simp at a2 ⊢;omega
   exact zl trivial (by rw [<-hr,hM,ha,YI];rfl) Zb
  have ha:decide (e.num≥ -1000000000000)=true:=by simp at a1 ⊢;omega
  have ha2:decide (e.num<=1000000000000)=true:=by simp at a2 ⊢;omega
  rw [ha,ha2] at hM;clear ha ha2 a1 a2 hk k1 k2 hv1 hv2;exact ML
 refine za (fun k3=>?_) fun k3=>?_
 ·have hk:e.op=3:=Zc k3;have g1:decide (e.op≥1)=true:=ZA hk;have g2:decide (e.op<=28)=true:=ZA hk;have hM:(isOp e.op&&yx e)=((((((e.num==0) || (e.num==1))&&(e.type==0))&&true)&&(e.text.toList==[]))&&(e.col==0)):=by rw [<-hv2];simp [yx,isOp,okF,noT,noN,noX,noC,hk]
  have hT: ∀ha:((e.num==0) || (e.num==1))=true,(isOp e.op&&yx e)=((((true&&(e.type==0))&&true)&&(e.text.toList==[]))&&(e.col==0)):=fun ha=>by rw [hM,ha]
  refine za (fun a1=>?_) fun a1=>?_
  ·refine za (fun a2=>?_) fun a2=>?_
   ·have ha:((e.num==0) || (e.num==1))=false:=by simp at a1 a2 ⊢;omega
    exact Ko
   ·replace hM:=hT (by simp at a2 ⊢;omega)
    clear hT a1 a2 hk k1 k2 k3 hv1 hv2;exact ML
  ·replace hM:=hT (by simp at a1 ⊢;omega)
   clear hT a1 hk k1 k2 k3 hv1 hv2;exact ML
 refine za (fun k4=>?_) fun k4=>?_
 ·have hk:e.op=4:=Zc k4;have g1:decide (e.op≥1)=true:=ZA hk;have g2:decide (e.op<=28)=true:=ZA hk;have hM:(isOp e.op&&yx e)=((((zQ ⟨3,0,e.text⟩&&(e.type==0))&&(e.num==0))&&true)&&(e.col==0)):=by simp [yx,isOp,okF,noT,noN,noX,noC,hk]
  refine zf [[0,0,0]] [] (qq ⟨3,0,e.text⟩) ?_;simp -implicitDefEqProofs only [he,he2,hh,h00,↓zb,push_cast,simprocAttr,tt];refine za (fun a1=>?_) fun a1=>?_
  ·have ha:zQ ⟨3,0,e.text⟩=false:=Zc a1;exact Ko
  have ha:zQ ⟨3,0,e.text⟩=true:=Zc a1;rw [ha] at hM;clear ha a1 hk k1 k2 k3 k4 hv1 hv2;exact ML
 refine za (fun k5=>?_) fun k5=>?_
 ·have hk:e.op=5:=Zc k5;have g1:decide (e.op≥1)=true:=ZA hk;have g2:decide (e.op<=28)=true:=ZA hk;have hM:(isOp e.op&&yx e)=((((true&&(e.type==0))&&(e.num==0))&&(e.text.toList==[]))&&true):=by simp [yx,isOp,okF,noT,noN,noX,noC,hk]
  clear hk k1 k2 k3 k4 k5 hv1 hv2;exact ML
 have hk1: ¬e.op=1:=Zc k1;have hk2: ¬e.op=2:=Zc k2;have hk3: ¬e.op=3:=Zc k3;have hk4: ¬e.op=4:=Zc k4;have hk5: ¬e.op=5:=Zc k5;have hM:(isOp e.op&&yx e)=((((((decide (e.op≥1)&&decide (e.op<=28))&&true)&&(e.type==0))&&(e.num==0))&&(e.text.toList==[]))&&(e.col==0)):=by
  have:yx e=((((true&&(e.type==0))&&(e.num==0))&&(e.text.toList==[]))&&(e.col==0)):=by simp [yx,okF,noT,noN,noX,noC,hk1,hk2,hk3,hk4,hk5]
  rw [this,isOp];simp only [ge_iff_le,Yo,YT,Bool.and_assoc]
 clear hk1 hk2 hk3 hk4 hk5 k1 k2 k3 k4 k5 hv1 hv2
 repeat' first | (refine za (fun _=>?_) fun _=>?_) | exact zl trivial X8 Zb
def zY (op:Int):Bool:=((((op==6 || op==7) || op==8) || op==9) || op==10) || op==11
def zU (op:Int):Bool:=((op==22 || op==23) || op==24) || op==25
def yy (l:List Int) (v:Int):Bool:=l.all fun x=>x==v
def zz (ts:List Int) (e:Ex) (l:List Int):Int:=
 if e.op==1 then e.type else if e.op==2 then 1 else if e.op==3 then 2 else if e.op==4 then 3 else if e.op==5 then ts.getD e.col.toNat default
 else if zY e.op then (if yy l 1 then 1 else 0)
 else if e.op==12 then (if yy l 3 then 3 else 0)
 else if e.op==13 then (if yy l 3 then 1 else 0)
 else if e.op==21 then 2
 else if zU e.op then (if yy l 2 then 2 else 0)
 else if e.op==26 then (if (l.getD 0 default==2)&&(l.getD 1 default==l.getD 2 default) then l.getD 1 default else 0)
 else if e.op==27 then (if l.getD 0 default==l.getD 1 default then l.getD 0 default else 0)
 else (if yy l (l.getD 0 default) then 2 else 0)
theorem kH {b:Bool} {p q:Prop} (h:b=true) (x:p):vL b p q:=by subst h;exact yC _ _ ▸ x
theorem Vc {p:Prop} (h:p:=by simp only [zz,zY,zU,yy,h1,h2,h3,h4,h5,h6,g,Y0,Y4,Y7,Yy,YD,Yo,Yl,Y9,Yq,if_true,if_false]):p:=h
theorem Vd {p:Prop} (h:p:=by simp only [zz,zY,zU,yy,h1,h2,h3,h4,h5,h6,h7,g,Y0,Y4,Y7,Yy,YD,Yo,Yl,Y9,Yq,if_true,if_false]):p:=h
theorem Ve {p:Prop} (h:p:=by simp only [zz,zY,zU,yy,h1,h2,h3,h4,h5,h6,h7,h8,g,Y0,Y4,Y7,Yy,YD,Yo,Yl,Y9,Yq,if_true,if_false]):p:=h
theorem Vf {p:Prop} (h:p:=by simp only [zz,zY,zU,yy,h1,h2,h3,h4,h5,h6,h7,h8,h9,g,Y0,Y4,Y7,Yy,YD,Yo,Yl,Y9,Yq,if_true,if_false]):p:=h
theorem Vg {p:Prop} (h:p:=by simp only [zz,zY,zU,yy,h1,h2,h3,h4,h5,h6,h7,h8,h9,h10,g,Y0,Y4,Y7,Yy,YD,Yo,Yl,Y9,Yq,if_true,if_false]):p:=h
theorem Vh {p:Prop} (h:p:=by simp only [zz,zY,zU,yy,h1,h2,h3,h4,h5,h6,h7,h8,h9,h10,h11,g,Y0,Y4,Y7,Yy,YD,Yo,Yl,Y9,Yq,if_true,if_false]):p:=h
theorem Vi {p:Prop} (h:p:=by simp only [zz,zY,zU,yy,h1,h2,h3,h4,h5,h6,h7,h8,h9,h10,h11,h12,g,Y0,Y4,Y7,Yy,YD,Yo,Yl,Y9,Yq,if_true,if_false]):p:=h
theorem Vj {p:Prop} (h:p:=by simp only [zz,zY,zU,yy,h1,h2,h3,h4,h5,h6,h7,h8,h9,h10,h11,h12,h13,g,Y0,Y4,Y7,Yy,YD,Yo,Yl,Y9,Yq,if_true,if_false]):p:=h
theorem Vk {p:Prop} (h:p:=by simp only [zz,zY,zU,yy,h1,h2,h3,h4,h5,h6,h7,h8,h9,h10,h11,h12,h13,h21,h22,g,Y0,Y4,Y7,Yy,YD,Yo,Yl,Y9,Yq,if_true,if_false]):p:=h
theorem Vl {p:Prop} (h:p:=by simp only [zz,zY,zU,yy,h1,h2,h3,h4,h5,h6,h7,h8,h9,h10,h11,h12,h13,h21,h22,h23,g,Y0,Y4,Y7,Yy,YD,Yo,Yl,Y9,Yq,if_true,if_false]):p:=h
theorem Vm {p:Prop} (h:p:=by simp only [zz,zY,zU,yy,h1,h2,h3,h4,h5,h6,h7,h8,h9,h10,h11,h12,h13,h21,h22,h23,h24,g,Y0,Y4,Y7,Yy,YD,Yo,Yl,Y9,Yq,if_true,if_false]):p:=h
theorem Vn {p:Prop} (h:p:=by simp only [zz,zY,zU,yy,h1,h2,h3,h4,h5,h6,h7,h8,h9,h10,h11,h12,h13,h21,h22,h23,h24,h25,g,Y0,Y4,Y7,Yy,YD,Yo,Yl,Y9,Yq,if_true,if_false]):p:=h
theorem Vo {p:Prop} (h:p:=by simp only [zz,zY,zU,yy,h1,h2,h3,h4,h5,h6,h7,h8,h9,h10,h11,h12,h13,h21,h22,h23,h24,h25,h26,a1,a2,Y0,Y4,Y7,Yy,YD,Yo,Yl,Y9,Yq,if_true,if_false]):p:=h
theorem Vp {p:Prop} (h:p:=by simp only [zz,zY,zU,yy,h1,h2,h3,h4,h5,h6,h7,h8,h9,h10,h11,h12,h13,h21,h22,h23,h24,h25,h26,h27,a1,Y0,Y4,Y7,Yy,YD,Yo,Yl,Y9,Yq,if_true,if_false]):p:=h
theorem Vq {p:Prop} (h:p:=by simp only [zz,zY,zU,yy,h1,h2,h3,h4,h5,h6,h7,h8,h9,h10,h11,h12,h13,h21,h22,h23,h24,h25,h26,h27,g,Y0,Y4,Y7,Yy,YD,Yo,Yl,Y9,Yq,if_true,if_false]):p:=h
theorem Mu{p:Prop}(h:p:=by
 exact zl trivial (Zq hr hv) Zb):p:=h
theorem c_result (ts:List Int) (e:Ex) (l:List Int) (hl:l.length≤1000000000) (hc5:e.op=5→0≤e.col∧e.col<ts.length) (hc26:e.op=26→l.length=3) (hc27:e.op=27→l.length=2)
 (hE:isOp e.op=true->5<e.op->0<l.length) (ho:isOp e.op=true):ACall Tryz.prog 220 [ints ts,aE e,ints l] [] (num (zz ts e l)) []:=by
 refine zn mixed ttok Tryz.func220 Tryz.ntmps220 Tryz.results220 ?_;generalize hr:num (zz ts e l)=R;refine Zn ?_;have hop:=hE ho;refine za (fun h1=>?_) fun h1=>?_
 ·have hv:zz ts e l=e.type:=by simp only [zz,zY,zU,yy,h1,Y0,Y4,Y7,Yy,YD,Yo,Yl,Y9,Yq,if_true,if_false]
  exact Mu
 refine za (fun h2=>?_) fun h2=>?_
 ·have hv:zz ts e l=1:=by simp only [zz,zY,zU,yy,h1,h2,Y0,Y4,Y7,Yy,YD,Yo,Yl,Y9,Yq,if_true,if_false]
  exact Mu
 refine za (fun h3=>?_) fun h3=>?_
 ·have hv:zz ts e l=2:=by simp only [zz,zY,zU,yy,h1,h2,h3,Y0,Y4,Y7,Yy,YD,Yo,Yl,Y9,Yq,if_true,if_false]
  exact Mu
 refine za (fun h4=>?_) fun h4=>?_
 ·have hv:zz ts e l=3:=by simp only [zz,zY,zU,yy,h1,h2,h3,h4,Y0,Y4,Y7,Yy,YD,Yo,Yl,Y9,Yq,if_true,if_false]
  exact Mu
 refine za (fun h5=>?_) fun h5=>?_
 ·refine ⟨hc5 (Zc h5),?_⟩;have hv:zz ts e l=ts.getD e.col.toNat default:=by simp only [zz,zY,zU,yy,h1,h2,h3,h4,h5,Y0,Y4,Y7,Yy,YD,Yo,Yl,Y9,Yq,if_true,if_false]
  exact Mu
 refine za (fun h6=>?_) fun h6=>?_
 ·refine kH h6 ?_;refine zf [[1],[0]] [] (qr l 1 hl) ?_;refine Ze ?_;refine za (fun g=>?_) fun g=>?_
  ·have hv:zz ts e l=1:=Vc;exact Mu
  ·have hv:zz ts e l=0:=Vc;exact Mu
 refine za (fun h7=>?_) fun h7=>?_
 ·refine kH h7 ?_;refine zf [[1],[0]] [] (qr l 1 hl) ?_;refine Ze ?_;refine za (fun g=>?_) fun g=>?_
  ·have hv:zz ts e l=1:=Vd;exact Mu
  ·have hv:zz ts e l=0:=Vd;exact Mu
 refine za (fun h8=>?_) fun h8=>?_
 ·refine kH h8 ?_;refine zf [[1],[0]] [] (qr l 1 hl) ?_;refine Ze ?_;refine za (fun g=>?_) fun g=>?_
  ·have hv:zz ts e l=1:=Ve;exact Mu
  ·have hv:zz ts e l=0:=Ve;exact Mu
 refine za (fun h9=>?_) fun h9=>?_
 ·refine kH h9 ?_;refine zf [[1],[0]] [] (qr l 1 hl) ?_;refine Ze ?_;refine za (fun g=>?_) fun g=>?_
  ·have hv:zz ts e l=1:=Vf;exact Mu
  ·have hv:zz ts e l=0:=Vf;exact Mu
 refine za (fun h10=>?_) fun h10=>?_
 ·refine kH h10 ?_;refine zf [[1],[0]] [] (qr l 1 hl) ?_;refine Ze ?_;refine za (fun g=>?_) fun g=>?_
  ·have hv:zz ts e l=1:=Vg;exact Mu
  ·have hv:zz ts e l=0:=Vg;exact Mu
 refine za (fun h11=>?_) fun h11=>?_
 ·refine zf [[1],[0]] [] (qr l 1 hl) ?_;refine Ze ?_;refine za (fun g=>?_) fun g=>?_
  ·have hv:zz ts e l=1:=Vh;exact Mu
  ·have hv:zz ts e l=0:=Vh;exact Mu
 refine za (fun h12=>?_) fun h12=>?_
 ·refine zf [[1],[0]] [] (qr l 3 hl) ?_;refine Ze ?_;refine za (fun g=>?_) fun g=>?_
  ·have hv:zz ts e l=3:=Vi;exact Mu
  ·have hv:zz ts e l=0:=Vi;exact Mu
 refine za (fun h13=>?_) fun h13=>?_
 ·refine zf [[1],[0]] [] (qr l 3 hl) ?_;refine Ze ?_;refine za (fun g=>?_) fun g=>?_
  ·have hv:zz ts e l=1:=Vj;exact Mu
  ·have hv:zz ts e l=0:=Vj;exact Mu
 refine za (fun h21=>?_) fun h21=>?_
 ·have hv:zz ts e l=2:=by simp only [zz,zY,zU,yy,h1,h2,h3,h4,h5,h6,h7,h8,h9,h10,h11,h12,h13,h21,Y0,Y4,Y7,Yy,YD,Yo,Yl,Y9,Yq,if_true,if_false]
  exact Mu
 refine za (fun h22=>?_) fun h22=>?_
 ·refine kH h22 ?_;refine zf [[1],[0]] [] (qr l 2 hl) ?_;refine Ze ?_;refine za (fun g=>?_) fun g=>?_
  ·have hv:zz ts e l=2:=Vk;exact Mu
  ·have hv:zz ts e l=0:=Vk;exact Mu
 refine za (fun h23=>?_) fun h23=>?_
 ·refine kH h23 ?_;refine zf [[1],[0]] [] (qr l 2 hl) ?_;refine Ze ?_;refine za (fun g=>?_) fun g=>?_
  ·have hv:zz ts e l=2:=Vl;exact Mu
  ·have hv:zz ts e l=0:=Vl;exact Mu
 refine za (fun h24=>?_) fun h24=>?_
 ·refine kH h24 ?_;refine zf [[1],[0]] [] (qr l 2 hl) ?_;refine Ze ?_;refine za (fun g=>?_) fun g=>?_
  ·have hv:zz ts e l=2:=Vm;exact Mu
  ·have hv:zz ts e l=0:=Vm;exact Mu
 refine za (fun h25=>?_) fun h25=>?_
 ·refine zf [[1],[0]] [] (qr l 2 hl) ?_;refine Ze ?_;refine za (fun g=>?_) fun g=>?_
  ·have hv:zz ts e l=2:=Vn;exact Mu
  ·have hv:zz ts e l=0:=Vn;exact Mu
 refine za (fun h26=>?_) fun h26=>?_
 ·have hlen:l.length=3:=hc26 (Zc h26);refine ⟨Za,?_⟩;refine za (fun a1=>?_) fun a1=>?_
  ·refine ⟨Za,Za,ze Zf,?_⟩;refine za (fun a2=>?_) fun a2=>?_
   ·refine ⟨Za,?_⟩;have hv:zz ts e l=l.getD 1 default:=Vo;exact Mu
   ·have hv:zz ts e l=0:=Vo;exact Mu
  ·refine ⟨ze Zf,?_⟩;have hv:zz ts e l=0:=by simp only [zz,zY,zU,yy,h1,h2,h3,h4,h5,h6,h7,h8,h9,h10,h11,h12,h13,h21,h22,h23,h24,h25,h26,a1,Y0,Y4,Y7,Yy,YD,Yo,Yl,Y9,Yq,if_true,if_false]
   exact Mu
 refine za (fun h27=>?_) fun h27=>?_
 ·have hlen:l.length=2:=hc27 (Zc h27);refine ⟨Za,Za,ze Zf,?_⟩;refine za (fun a1=>?_) fun a1=>?_
  ·refine ⟨Za,?_⟩;have hv:zz ts e l=l.getD 0 default:=Vp;exact Mu
  ·have hv:zz ts e l=0:=Vp;exact Mu
 have hgt:5<e.op:=by
  simp only [YO,ne_eq] at h1 h2 h3 h4 h5;simp only [isOp,Yz,Yg] at ho;omega
 have hlen:=hE ho hgt;refine ⟨Za,?_⟩;refine zf [[1],[0]] [] (qr l (l.getD 0 default) hl) ?_;refine Ze ?_;refine za (fun g=>?_) fun g=>?_
 ·have hv:zz ts e l=2:=Vq;exact Mu
 ·have hv:zz ts e l=0:=Vq;exact Mu
def ownR (ts:List Int) (e:Ex) (l:List Int):Int×Int:=
 if !(isOp e.op&&yx e) then (0,1)
 else if !yU e then (0,9)
 else if (e.op==5&&(decide (e.col<0) || decide (e.col≥ts.length))) then (0,3)
 else if (decide (zz ts e l<1) || decide (zz ts e l>3)) then (0,4)
 else (zz ts e l,0)
def isT (k:Int):Prop:=1<=k/\k<=3
theorem own_tab0: ∀n∈List.range 29,
 n=0\/(n=1\/n=5)/\(opTab.getD n default).types=0\/n=2/\(opTab.getD n default).types=0/\(opTab.getD n default).own=1\/n=3/\(opTab.getD n default).types=0/\(opTab.getD n default).own=2\/
 n=4/\(opTab.getD n default).types=0/\(opTab.getD n default).own=3\/(6<=n/\n<=11)/\(opTab.getD n default).types=1/\(opTab.getD n default).own=1\/n=12/\(opTab.getD n default).types=2/\(opTab.getD n default).own=3\/
 n=13/\(opTab.getD n default).types=2/\(opTab.getD n default).own=1\/n=21/\(opTab.getD n default).types=5/\(opTab.getD n default).own=2\/(22<=n/\n<=25)/\(opTab.getD n default).types=3/\(opTab.getD n default).own=2\/
 n=26/\(opTab.getD n default).types=6/\(opTab.getD n default).own=0\/n=27/\(opTab.getD n default).types=4/\(opTab.getD n default).own=0\/((14<=n/\n<=20)\/n=28)/\(opTab.getD n default).types=4/\(opTab.getD n default).own=2:=Zi
theorem okF_type {e:Ex} (h:yx e=true) (h1:e.op=1):1<=e.type/\e.type<=3:=by
 simp [yx,okF,h1] at h;omega
theorem J0{p:Prop}(h:p:=by
 by_cases ha:(l.all fun x=>x==3)=true
 ·simp [he,zY,ht,ht2,ha,yy]
 ·have ha':(l.all fun x=>x==3)=false:=Zc ha;simp [he,zY,ht,ht2,ha',yy]):p:=h
theorem own_eq (ts:List Int) (e:Ex) (l:List Int) (hl:l.length=e.kids.length) (hk: ∀x∈l,isT x):ownM ts e l=ownR ts e l:=by
 unfold ownM ownR;by_cases ho':isOp e.op=false
 ·simp [ho']
 have ho:isOp e.op=true:=Zc ho';by_cases hc':yx e=false
 ·simp [hc']
 have hc:yx e=true:=Zc hc';by_cases hn':yU e=false
 ·simp [hn',ho,hc]
 have hn:yU e=true:=Zc hn';by_cases h3:(e.op==5&&(decide (e.col<0) || decide (e.col≥ts.length)))=true
 ·rw [ho,hc,hn,h3];rfl
 have h3':(e.op==5&&(decide (e.col<0) || decide (e.col≥ts.length)))=false:=Zc h3;rw [ho,hc,hn,h3'];simp only [Uk,YD,Yq,if_false,Y9];have hcount:=kk hn;obtain ⟨n,n1,n2,n3⟩:=op_cases ho;have hf:yX e.op=opTab.getD n default:=by rw [yX,ho,if_pos rfl,opAt,n3,YB]
 have ht:=own_tab0 n (Zc n1);have hkt:=kids_tab0 n (Zc n1);rw [hf] at hcount ⊢;generalize hO:opTab.getD n default=o at ht hkt hcount;obtain ⟨w,kn,ty,ow⟩:=o;simp only at ht hkt hcount;unfold fitM zz;rcases ht with h | ⟨h,ht⟩ | ⟨h,ht,ht2⟩ | ⟨h,ht,ht2⟩ | ⟨h,ht,ht2⟩ | ⟨h,ht,ht2⟩ | ⟨h,ht,ht2⟩ | ⟨h,ht,ht2⟩ | ⟨h,ht,ht2⟩ | ⟨h,ht,ht2⟩ | ⟨h,ht,ht2⟩ | ⟨h,ht,ht2⟩ | ⟨h,ht,ht2⟩
 ·omega
 ·rcases h with h | h
  ·have he:e.op=1:=Za;have:=okF_type hc he;have h4: ¬e.type<1:=Za;have h5: ¬3<e.type:=Za;simp [he,ht,h4,h5]
  ·have he:e.op=5:=Za;simp only [he,ht];generalize ts.getD e.col.toNat default=v;simp [xg]
   split<;>split<;>(try rfl)<;>(exfalso;omega)
 ·have he:e.op=2:=Za;simp [he,ht,ht2]
 ·have he:e.op=3:=Za;simp [he,ht,ht2]
 ·have he:e.op=4:=Za;simp [he,ht,ht2]
 ·have hno:zY e.op=true:=by simp [zY];omega
  have e1: ¬e.op=1:=Za;have e2: ¬e.op=2:=Za;have e3: ¬e.op=3:=Za;have e4: ¬e.op=4:=Za;have e5: ¬e.op=5:=Za;by_cases ha:(l.all fun x=>x==1)=true
  ·simp [e1,e2,e3,e4,e5,hno,ht,ht2,ha,yy]
  ·have ha':(l.all fun x=>x==1)=false:=Zc ha;simp [e1,e2,e3,e4,e5,hno,ht,ht2,ha',yy]
 ·have he:e.op=12:=Za;exact J0
 ·have he:e.op=13:=Za;exact J0
 ·have he:e.op=21:=Za;simp [he,zY,ht,ht2]
 ·have hno:zY e.op=false:=by simp [zY];omega
  have htr:zU e.op=true:=by simp [zU];omega
  have e1: ¬e.op=1:=Za;have e2: ¬e.op=2:=Za;have e3: ¬e.op=3:=Za;have e4: ¬e.op=4:=Za;have e5: ¬e.op=5:=Za;have e12: ¬e.op=12:=Za;have e13: ¬e.op=13:=Za;have e21: ¬e.op=21:=Za;by_cases ha:(l.all fun x=>x==2)=true
  ·simp [e1,e2,e3,e4,e5,e12,e13,e21,hno,htr,ht,ht2,ha,yy]
  ·have ha':(l.all fun x=>x==2)=false:=Zc ha;simp [e1,e2,e3,e4,e5,e12,e13,e21,hno,htr,ht,ht2,ha',yy]
 ·have he:e.op=26:=Za;have hl3:l.length=3:=Za;obtain ⟨a,b,c,rfl⟩: ∃a b c,l=[a,b,c]:=by
   match l,hl3 with
   | [a,b,c],_=>exact ⟨a,b,c,rfl⟩
  have hb:isT b:=hk b Zd;have h4: ¬b<1:=by have:=hb.1;omega
  have h5: ¬3<b:=by have:=hb.2;omega
  simp only [he,ht,ht2];by_cases q1:a=2<;>by_cases q2:b=c<;>simp [zY,zU,q1,q2]<;>(have hb1:=hb.1;have hb2:=hb.2;omega)
 ·have he:e.op=27:=Za;have hl2:l.length=2:=Za;obtain ⟨a,b,rfl⟩: ∃a b,l=[a,b]:=by
   match l,hl2 with
   | [a,b],_=>exact ⟨a,b,rfl⟩
  have hb:isT a:=hk a Zd;have h4: ¬a<1:=by have:=hb.1;omega
  have h5: ¬3<a:=by have:=hb.2;omega
  simp only [he,ht,ht2];by_cases q2:a=b
  ·subst q2;simp [zY,zU,h4,h5]
  ·have q3: ¬b=a:=fun e=>q2 e.symm;simp [zY,zU,q2,q3]
 ·have hno:zY e.op=false:=by simp [zY];omega
  have htr:zU e.op=false:=by simp [zU];omega
  have e1: ¬e.op=1:=Za;have e2: ¬e.op=2:=Za;have e3: ¬e.op=3:=Za;have e4: ¬e.op=4:=Za;have e5: ¬e.op=5:=Za;have e12: ¬e.op=12:=Za;have e13: ¬e.op=13:=Za;have e21: ¬e.op=21:=Za;have e26: ¬e.op=26:=Za;have e27: ¬e.op=27:=Za;by_cases ha:(l.all fun x=>x==l.getD 0 default)=true
  ·simp only [yy,ha];simp [e1,e2,e3,e4,e5,e12,e13,e21,e26,e27,hno,htr,ht,ht2]
  ·have ha':(l.all fun x=>x==l.getD 0 default)=false:=Zc ha;simp only [yy,ha'];simp [e1,e2,e3,e4,e5,e12,e13,e21,e26,e27,hno,htr,ht,ht2]
theorem own_isT (ts:List Int) (e:Ex) (l:List Int) (h:(ownR ts e l).2=0):isT (ownR ts e l).1:=by
 unfold ownR at h ⊢
 split at h
 ·cases h
 ·split at h
  ·cases h
  ·split at h
   ·cases h
   ·split at h
    ·cases h
    ·rename_i h4;rw [if_neg (by assumption),if_neg (by assumption),if_neg (by assumption),if_neg (by assumption)];simp only [Ul,Yg,not_or] at h4;exact ⟨Za,Za⟩
theorem typK_isT {ts:List Int} {e:Ex} {rs:List (Int×Int)} (h:(typK (ownR ts) e rs).2=0):isT (typK (ownR ts) e rs).1:=by
 unfold typK at h ⊢
 split
 ·rename_i h1;rw [if_pos h1] at h;exact own_isT _ _ _ h
 ·rename_i h1;rw [if_neg h1] at h;exact absurd h h1
theorem typ_isT {ts:List Int} {e:Ex} (h:(typG (ownR ts) e).2=0):isT (typG (ownR ts) e).1:=by
 rw [qt] at h ⊢;exact typK_isT h
theorem typ_eq (ts:List Int): ∀e:Ex,typG (ownM ts) e=typG (ownR ts) e:=kd (p:=fun e=>typG (ownM ts) e=typG (ownR ts) e) fun e ih=>by
 rw [qt,qt];have hm:e.kids.map (typG (ownM ts))=e.kids.map (typG (ownR ts)):=Uq fun k hk=>ih k hk;rw [hm,typK,typK]
 split
 ·rename_i h;refine own_eq ts e _ Zd fun x hx=>?_;simp only [Uy,Yu,Function.comp] at hx;obtain ⟨k,hk,rfl⟩:=hx;have:=wT h _ (Yu.2 ⟨k,hk,rfl⟩);exact typ_isT this
 ·rfl
theorem G5{p:Prop}(h:p:=by
 refine Ze ?_;refine za (fun r1=>?_) fun r1=>?_
 ·have hv:ownR ts e l=(0,4):=by rw [hv3,r1];rfl
  exact M7
 refine za (fun r2=>?_) fun r2=>?_
 ·have hv:ownR ts e l=(0,4):=by rw [hv3,r2,Y4];rfl
  exact M7
 have hv:ownR ts e l=(zz ts e l,0):=by rw [hv3,r1,r2];rfl
 exact M7):p:=h
theorem c_typed (ts:List Int) (hts:ts.length<=1000000000): ∀e:Ex,Ok12 e->ACall Tryz.prog 195 [ints ts,aE e] [] (zP (typG (ownR ts) e)) []:=
 kd (p:=fun e=>Ok12 e->ACall Tryz.prog 195 [ints ts,aE e] [] (zP (typG (ownR ts) e)) []) fun e ih ho=>by
 refine zn mixed ttok Tryz.func195 Tryz.ntmps195 Tryz.results195 ?_;generalize hr:zP (typG (ownR ts) e)=R;have hl:=ho.kids;refine Zn ?_;refine zq mixed ttok 7 [0,3] [3] Zw Zx e.kids.length (fun n=> ∀i,i<n->(typG (ownR ts) (e.kids.getD i default)).2=0) (fun n=>[(6,.vec 500 n)]) (fun n=>[(500,.vec 3 1 (zd rI (uS (ownR ts) e n)) 0)]) (fun i h=>absurd h (Yv _)) ?_ ?_
 ·exact (Weak.nilL 6 500 3 1 rfl rfl).trans (Weak.keepL (by simp [cst,ends]) (by simp [cst,uS,ends]) (by simp [cst,ends]))
 intro I hI n hn hi;have hl2:=tysTo_length (ownR ts) e n hn;refine Zy ?_;refine za (fun h=>?_) fun h=>?_
 ·simp only [Yg] at h;have h':n<e.kids.length:=Za;have hw:=zh h' Za;have hs:=tysTo_succ (ownR ts) e n h';refine ⟨Zu,?_⟩;refine zf [[1],[0,0,0,0,0,6]] [] (ih _ (zk h') (ho.kid (zk h'))) ?_;refine Xa ?_;refine za (fun g=>?_) fun g=>?_
  ·have g':(typG (ownR ts) (e.kids.getD n default)).2≠0:=Zc g;have hf:ferr Prod.snd (e.kids.map (typG (ownR ts)))=(typG (ownR ts) (e.kids.getD n default)).2:=W8;have hE:typG (ownR ts) e=(0,(typG (ownR ts) (e.kids.getD n default)).2):=by rw [qt (ownR ts) e,typK,hf,if_neg g']
   exact zR trivial (Zq hr hE) Zb
  ·have g':(typG (ownR ts) (e.kids.getD n default)).2=0:=Zc g;exact Jb
 simp only [Yf] at h;obtain rfl:n=e.kids.length:=Za;clear hI;have hf:ferr Prod.snd (e.kids.map (typG (ownR ts)))=0:=W9;have hT:uS (ownR ts) e e.kids.length=(e.kids.map (typG (ownR ts))).map Prod.fst:=by rw [uS,Yk,Uy];rfl
 have hM:typG (ownR ts) e=ownR ts e (uS (ownR ts) e e.kids.length):=by rw [qt (ownR ts) e,typK,if_pos hf,hT]
 rw [hM] at hr;generalize uS (ownR ts) e e.kids.length=l at hl2 hr ⊢;refine zf [[0,0,0,0,0,6]] [] (c_plain e) ?_;refine Ze ?_;refine za (fun h1=>?_) fun h1=>?_
 ·have hv:ownR ts e l=(0,1):=if_pos h1;exact M7
 have ho2:isOp e.op=true/\yx e=true:=Zc h1;have hv1:ownR ts e l=if !yU e then (0,9)
  else if (e.op==5&&(decide (e.col<0) || decide (e.col≥ts.length))) then (0,3)
  else if (decide (zz ts e l<1) || decide (zz ts e l>3)) then (0,4) else (zz ts e l,0):=if_neg (ZA h1)
 have hkc:=qF ho2.1;refine ⟨hl2.symm,?_⟩;refine zf [[0],[0]] [] (c_rkids e.op e.kids.length) ?_;refine Ze ?_;rw [hkc];refine za (fun h2=>?_) fun h2=>?_
 ·have hv:ownR ts e l=(0,9):=by rw [hv1,if_pos h2]
  exact M7
 have hcnt:yU e=true:=Zc h2;have hv2:ownR ts e l=if (e.op==5&&(decide (e.col<0) || decide (e.col≥ts.length))) then (0,3)
  else if (decide (zz ts e l<1) || decide (zz ts e l>3)) then (0,4) else (zz ts e l,0):=by rw [hv1,if_neg (by rw [h2];decide)]
 have hcount:=kk hcnt;obtain ⟨n,n1,n2,n3⟩:=op_cases ho2.1;have hf:yX e.op=opTab.getD n default:=by rw [yX,ho2.1,if_pos rfl,opAt,n3,YB]
 have hkt:=kids_tab0 n (Zc n1);rw [hf] at hcount;generalize hO:opTab.getD n default=o at hkt hcount;have c26:e.op=26->l.length=3:=Za;have c27:e.op=27->l.length=2:=Za;have cE:isOp e.op=true->5<e.op->0<l.length:=Za;refine za (fun h3=>?_) fun h3=>?_
 ·have h3':e.op=5:=Zc h3;refine za (fun h4=>?_) fun h4=>?_
  ·have hv:ownR ts e l=(0,3):=by rw [hv2,h3,h4];rfl
   exact M7
  refine za (fun h5=>?_) fun h5=>?_
  ·have hv:ownR ts e l=(0,3):=by rw [hv2,h3,h4,h5];rfl
   exact M7
  have hv3:ownR ts e l=if (decide (zz ts e l<1) || decide (zz ts e l>3)) then (0,4) else (zz ts e l,0):=by rw [hv2,h3,h4,h5];rfl
  have hcol:0<=e.col/\e.col<ts.length:=by simp only [Yf] at h4 h5;omega
  refine zf [[1],[0,0,0,0,0,6],[1]] [] (c_result ts e l Za (fun _=>hcol) c26 c27 cE ho2.1) ?_;exact G5
 have h3': ¬e.op=5:=Zc h3;have hv3:ownR ts e l=if (decide (zz ts e l<1) || decide (zz ts e l>3)) then (0,4) else (zz ts e l,0):=by rw [hv2,h3];rfl
 refine zf [[1],[0,0,0,0,0,6],[1]] [] (c_result ts e l Za (fun h=>absurd h h3') c26 c27 cE ho2.1) ?_;exact G5
theorem c_rtype (ts:List Int) (hts:ts.length<=1000000000) (e:Ex) (ho:Ok12 e):ACall Tryz.prog 158 [ints ts,aE e] [] (zP (yc (ownM ts) e)) []:=by
 refine zn mixed ttok Tryz.func158 Tryz.ntmps158 Tryz.results158 ?_;generalize hr:zP (yc (ownM ts) e)=R;refine Zn ?_;refine zf [[0,0,0,0,0,6]] [] (c_size02 e ho) ?_;refine Ze ?_;refine za (fun h=>?_) fun h=>?_
 ·have hv:yc (ownM ts) e=(0,8):=if_pos (Yb h);exact M7
 have h': ¬vf e>200:=Yc h;refine zf [[0,0,0,0,0,6]] [] (c_rdepth e ho) ?_;refine Ze ?_;refine za (fun g=>?_) fun g=>?_
 ·exact Hh
 have g': ¬wH e>24:=Yc g;refine zf [[1],[0,0,0,0,0,6]] [] (c_typed ts hts e ho) ?_;have hv:yc (ownM ts) e=typG (ownR ts) e:=by rw [yc,if_neg h',if_neg g',typ_eq]
 refine Xa ?_;exact M7
def rS (w:ByteArray):List D:=[.lit (.string w)]
attribute [local simp, local push_cast] rS
theorem MO{p:Prop}(h:p:=by
 refine zv [1] rfl Zd Zk ?_ Zl Zb Zb;exact hr):p:=h
theorem c_reserved:ACall Tryz.prog 155 [] [] (.d (.sl 1 (zd rS words))) []:=by
 refine zn mixed ttok Tryz.func155 Tryz.ntmps155 Tryz.results155 ?_;generalize hr:A.d (.sl 1 (zd rS words))=R;refine Zn ?_;exact MO
def goodR (s:ByteArray):Bool:=(u7 s).all fun c=> !badM c
def jt (s:ByteArray):Bool:=(((decide (1<=s.size)&&decide (s.size<=16))&&letM ((s.data.getD 0 0).toNat:Nat))&&goodR s)&& !(words.any fun w=>w.toList==s.toList)
theorem Vr {p:Prop} (h:p:=by simp only [badM,letM,Yz,Ul,UF,Bool.and_eq_false_iff,Bool.or_eq_false_iff,UD,Yg,Yf,bne_iff_ne,bne_eq_false_iff_eq,ne_eq] at *;omega):p:=h
theorem c_rname (s:ByteArray):ACall Tryz.prog 88 [str s] [] (boo (jt s)) []:=by
 refine zn mixed ttok Tryz.func88 Tryz.ntmps88 Tryz.results88 ?_;generalize hr:boo (jt s)=R;have hr0:=hr;refine Zn ?_;refine za (fun h1=>?_) fun h1=>?_
 ·have:jt s=false:=by rw [jt,YS (by have:=Yb h1;omega)];rfl
  exact MH
 have h1':1<=s.size:=Zo h1;refine za (fun h2=>?_) fun h2=>?_
 ·have:jt s=false:=by rw [jt,YS (p:=s.size≤16) (by have:=Yb h2;omega),YI];rfl
  exact MH
 have h2':s.size<=16:=Zo h2;refine ⟨Za,?_⟩;refine za (fun h3=>?_) fun h3=>?_
 ·have:jt s=false:=by rw [jt,letM,YS (p:=((s.data.getD 0 0).toNat:Int)≥97) (by have:=Yb h3;omega),Yl,YI];rfl
  exact MH
 refine ⟨Za,?_⟩;refine za (fun h4=>?_) fun h4=>?_
 ·have:jt s=false:=by rw [jt,letM,YS (p:=((s.data.getD 0 0).toNat:Int)≤122) (by have:=Yb h4;omega),YI,YI];rfl
  exact MH
 have hM:jt s=(goodR s&& !(words.any fun w=>w.toList==s.toList)):=by
  rw [jt,letM,YV h1',YV h2',YV (p:=((s.data.getD 0 0).toNat:Int)≥97) (Zo h3),YV (p:=((s.data.getD 0 0).toNat:Int)<=122) (Zo h4)];rfl
 clear h1 h2 h3 h4;refine zq mixed ttok 3 [0] [] Zw Zx s.size (fun n=>((u7 s).drop n).all (fun c=> !badM c)=goodR s) (fun _=>[]) (fun _=>[]) rfl ?_ ?_
 ·exact Ya Zh Zh Zh
 intro I hI n hn hi;refine Zy ?_;refine za (fun k=>?_) fun k=>?_
 ·simp only [Yg] at k;have k':n<s.size:=Za;have hw:=zh k' Za;rw [zA _ n (by rw [uQ];exact k'),List.all_cons,bytesI_getD s n k'] at hi;have bad:badM ((s.data.getD n 0).toNat:Nat)=true->jt s=false:=fun h=>by rw [hM,<-hi,h];rfl
  have good:badM ((s.data.getD n 0).toNat:Nat)=false->((u7 s).drop (n+1)).all (fun c=> !badM c)=goodR s:=fun h=>Zq hi h;clear hM hr;have bad':badM ((s.data.getD n 0).toNat:Nat)=true->boo false=R:=fun h=>by rw [<-hr0,bad h]
  clear bad hr0;generalize (((s.data.getD n 0).toNat:Nat):Int)=c at bad' good ⊢;refine ⟨Zu,?_⟩
  repeat' first
   | refine za (fun _=>?_) fun _=>?_
   | exact zl trivial (bad' Vr) Zb
   | exact zp hI n rfl k' (good Vr) (Zg hw) (Zg hw) (Zg hw) (Zg hw)
   | refine ⟨Zu,?_⟩
 simp only [Yf] at k;obtain rfl:n=s.size:=Za;rw [YG (by rw [uQ];omega)] at hi;have hM2:jt s= !(words.any fun w=>w.toList==s.toList):=by rw [hM,<-hi];rfl
 clear hM hI hi hn k I;refine zf [] [] (c_reserved) ?_;refine Ze ?_;generalize hwd:words=W at hM2;have hWl:W.length=52:=ZL hwd;clear hwd;refine zq mixed ttok 5 [0,4] [] Zw Zx W.length (fun n=> ∀i,i<n->((W.getD i default).toList==s.toList)=false) (fun _=>[]) (fun _=>[]) (fun i h=>absurd h (Yv _)) ?_ ?_
 ·exact Ya Zh Zh Zh
 intro I hI n hn hi;refine Zy ?_;refine za (fun k=>?_) fun k=>?_
 ·simp only [Yg] at k;have k':n<W.length:=Za;have hw:=zh k' Za;refine ⟨Zu,?_⟩;refine za (fun g=>?_) fun g=>?_
  ·have:(W.any fun w=>w.toList==s.toList)=true:=U4.2 ⟨_,zk k',g⟩;exact zl trivial (ZK hr0 hM2 this) Zb
  ·exact zp hI n rfl k' (fun i h2=>if h3:i=n then by rw [h3];exact g else hi i Za) (Zg hw) (Zg hw) (Zg hw) (Zg hw)
 simp only [Yf] at k;obtain rfl:n=W.length:=Za;have:(W.any fun w=>w.toList==s.toList)=false:=by
  rw [List.any_eq_false];intro x hx;obtain ⟨i,h1,rfl⟩:=uV hx;rw [hi i h1];decide
 exact zl trivial (ZK hr0 hM2 this) Zb
theorem contains_iff (L p:List UInt8):Lib.contains L p=true ↔ ∃a b,L=a++(p++b):=by
 unfold Lib.contains;rw [Yg];rcases Lib.index_spec L p with ⟨h1,h2⟩ | ⟨i,h1,h2,h3,_⟩
 ·constructor
  ·intro h;omega
  ·rintro ⟨a,b,rfl⟩;have:=h2 a.length Zd;simp only [Lib.occAt,List.drop_left] at this;rw [List.isPrefixOf_iff_prefix.2 (List.prefix_append p b)] at this;cases this
 ·constructor
  ·intro _;simp only [Lib.occAt] at h3;have h4:=List.isPrefixOf_iff_prefix.1 h3;obtain ⟨b,hb⟩:=h4;exact ⟨L.take i,b,by rw [hb,Yp]⟩
  ·intro _;omega
theorem cut32: ∀(w s:List UInt8) (x y:List UInt8),(32:UInt8) ∉ w->(32:UInt8) ∉ s->w++32::x=s++32::y->w=s
 | [],[],_,_,_,_,_=>rfl
 | [],c::s,_,_,_,hs,h=>by simp at h;exact absurd (ZM (h.1)) hs
 | c::w,[],_,_,hw,_,h=>by simp at h;exact absurd (ZM (h.1)) hw
 | c::w,d::s,x,y,hw,hs,h=>by
   simp only [YN,List.cons.injEq] at h;rw [h.1,cut32 w s x y (fun hm=>hw (Zr hm)) (fun hm=>hs (Zr hm)) h.2]
theorem jump32: ∀(w a x y:List UInt8),(32:UInt8) ∉ w->w++32::x=a++32::y-> ∃c,a=w++c/\32::x=c++32::y
 | [],a,x,y,_,h=>⟨a,rfl,h⟩
 | c::w,[],x,y,hw,h=>by simp at h;exact absurd (ZM (h.1)) hw
 | c::w,d::a,x,y,hw,h=>by
   simp only [YN,List.cons.injEq] at h;obtain ⟨c',h1,h2⟩:=jump32 w a x y (fun hm=>hw (Zr hm)) h.2;exact ⟨c',by rw [h.1,h1];rfl,h2⟩
def joinW:List (List UInt8)->List UInt8
 | []=>[]
 | w::ws=>w++32::joinW ws
theorem in_join (s:List UInt8) (hs:(32:UInt8) ∉ s): ∀ws:List (List UInt8),(∀w∈ws,(32:UInt8) ∉ w)→((∃a b,32::joinW ws=a++((32::(s++[32]))++b)) ↔ s∈ws)
 | [],_=>by
   constructor
   ·rintro ⟨a,b,h⟩;have:=congrArg List.length h;simp [joinW] at this;omega
   ·intro h;simp at h
 | w::ws,hw=>by
   have hw0:(32:UInt8) ∉ w:=hw w Zd;have ih:=in_join s hs ws (fun v hv=>hw v (Zr hv));constructor
   ·rintro ⟨a,b,h⟩;cases a with
    | nil=>
      simp only [joinW,Ue,YN,List.cons.injEq,true_and,Yn] at h;have:=cut32 w s _ _ hw0 hs h;simp [this]
    | cons x a=>
      simp only [joinW,YN,List.cons.injEq] at h;obtain ⟨c,h1,h2⟩:=jump32 w a _ _ hw0 h.2;exact UE _ (ih.1 ⟨c,b,Z5 h2⟩)
   ·intro h;rcases YC.1 h with rfl | h
    ·exact ⟨[],joinW ws,by simp [joinW]⟩
    ·obtain ⟨a,b,h2⟩:=ih.2 h;exact ⟨32::(w++a),b,by rw [joinW,h2];simp⟩
theorem resv_join:resv.data.toList=32::joinW (words.map (·.data.toList)):=Zi
theorem words_32: ∀w∈words.map (·.data.toList),(32:UInt8) ∉ w:=Zi
theorem hasW_eq (s:ByteArray) (hg:goodR s=true):hasW s=words.any fun w=>w.toList==s.toList:=by
 have h32:(32:UInt8) ∉ s.data.toList:=by
  intro hm;have:=YW.1 hg (((32:UInt8).toNat:Nat):Int) (Yu.2 ⟨32,hm,rfl⟩)
  revert this;decide
 rw [Ud,hasW,contains_iff,resv_join];have hd:(⟨#[32]⟩++s++⟨#[32]⟩:ByteArray).data.toList=32::(s.data.toList++[32]):=by
  simp [ByteArray.data_append]
 rw [hd];refine (in_join s.data.toList h32 _ words_32).trans ?_;simp only [Yu,U4,beq_iff_eq,YM]
theorem name_eq (s:ByteArray):jt s=ju s:=by
 have h0:s.data[0]?.getD 0=s.data.getD 0 0:=by rw [YP]
 have h1:(!(s.toList==[] || decide (s.size>16)))=(decide (1<=s.size)&&decide (s.size<=16)):=by
  have:(s.toList==[])=decide (s.size=0):=by
   rw [Ud,YM];simp only [beq_iff_eq,Yg];rw [<-List.length_eq_zero_iff,Uf];rfl
  rw [this,Ud];simp only [UF,Bool.or_eq_false_iff,Yz,Yf,Yg];omega
 unfold jt ju;rw [h0,h1,show ((u7 s).all fun c=> !badM c)=goodR s from rfl];by_cases hg:goodR s=true
 ·rw [hasW_eq s hg,hg,YT,YT]
 ·have:goodR s=false:=Zc hg;rw [this];simp
theorem c_rname2 (s:ByteArray):ACall Tryz.prog 88 [str s] [] (boo (ju s)) []:=by rw [<-name_eq];exact c_rname s
end
section
attribute [local simp, local push_cast] Ta yk zP aFk vT
theorem okKey_false {c:Nat} {l:List Int} {n:Nat} (h:n<l.length) (hn:okAt c l n=false):xj c l=false:=by rw [xj,wW h hn];rfl
theorem c_listed (t:Tbl) (l:List Int) (hl:l.length≤1000000000):ACall Tryz.prog 157 [aT t,ints l] [] (boo (xj t.columns.length l)) []:=by
 refine zn mixed ttok Tryz.func157 Tryz.ntmps157 Tryz.results157 ?_;generalize hr:boo (xj t.columns.length l)=R;refine Zn ?_;refine zq mixed ttok 5 [1,2] [2] Zw Zx l.length (fun n=> ∀i,i<n->okAt t.columns.length l i=true) (fun _=>[]) (fun _=>[]) (fun i h=>absurd h (Yv _)) ?_ ?_
 ·exact Ya Zh Zh Zh
 intro I hI n hn hi;refine Zy ?_;refine za (fun h=>?_) fun h=>?_
 ·simp only [Yg] at h;have h':n<l.length:=Za;have hw:=zh h' Za;have hbad:okAt t.columns.length l n=false->boo false=R:=fun hb=>by rw [<-hr,okKey_false h' hb]
  refine ⟨Zu,?_⟩;refine za (fun g1=>?_) fun g1=>?_
  ·refine ⟨ze Zf,?_⟩;exact zl trivial (hbad (by rw [okAt,YS (by have:=Yb g1;omega)];rfl)) Zb
  refine ⟨Zu,ze Zf,?_⟩;refine za (fun g2=>?_) fun g2=>?_
  ·exact zl trivial (hbad (by rw [okAt,YS (p:=l.getD n default<t.columns.length) (by have:=Yb g2;omega),YI];rfl)) Zb
  have hin:(decide (0<=l.getD n default)&&decide (l.getD n default<t.columns.length))=true:=by
   have:=Yc g1;have:=Yc g2;simp only [Yz,Yg];omega
  refine zq mixed ttok 6 [1,2,5] [2] Zw Zx n (fun k=> ∀i,i<k->l.getD i default≠l.getD n default) (fun _=>[]) (fun _=>[]) (fun i h=>absurd h (Yv _)) ?_ ?_
  ·exact Ya Zh Zh Zh
  intro J hJ k hk hki;refine Zy ?_;refine za (fun q=>?_) fun q=>?_
  ·simp only [Yg] at q;have q':k<n:=Za;have hwk:=zh q' Za;refine ⟨Zu,Zu,ze Zf,?_⟩;refine za (fun e=>?_) fun e=>?_
   ·have he:l.getD k default=l.getD n default:=Zc e;exact zl trivial (hbad (by
     have:(l.take n).contains (l.getD n default)=true:=by
      rw [<-he,List.contains_iff_mem];have hk2:k<(l.take n).length:=Zt;have:=List.getElem_mem hk2;rw [List.getElem_take] at this;rwa [Ye,List.getElem?_eq_getElem Za]
     rw [okAt,this,Uk,YI])) Zb
   ·have he:l.getD k default≠l.getD n default:=Zc e;exact zp hJ k rfl q' (fun i h2=>if h3:i=k then by rw [h3];exact he else hki i Za) (Zg hwk) (Zg hwk) (Zg hwk) (Zg hwk)
  ·simp only [Yf] at q;obtain rfl:k=n:=Za;have hok:okAt t.columns.length l k=true:=by
    rw [okAt,hin,Yo,UF,<-Bool.not_eq_true,List.contains_iff_mem];intro hm;obtain ⟨i,hi3,he⟩:=Ur hm;have hi4:i<k:=by simp at hi3;omega
    rw [List.getElem_take] at he;refine hki i hi4 ?_;rw [<-he,Ye,List.getElem?_eq_getElem Za];rfl
   exact zp hI k rfl h' (fun i h2=>if h3:i=k then by rw [h3];exact hok else hi i Za) (Zg hw) (Zg hw) (Zg hw) (Zg hw)
 ·simp only [Yf] at h;obtain rfl:n=l.length:=Za;have:xj t.columns.length l=decide ((l.length:Int)>0):=by
   rw [xj,all_range.2 hi,Yo];cases l<;>simp
  exact MH
theorem c_target (s:Sch) (i j:Nat) (hs:s.length<=1000) (hi:i<s.length) (hj:j<(s.getD i default).foreigns.length):ACall Tryz.prog 90 [aS s,num i,num j] [] (yk (byT s ((s.getD i default).foreigns.getD j default).table)) []:=by
 refine zn mixed ttok Tryz.func90 Tryz.ntmps90 Tryz.results90 ?_;generalize hr:yk (byT s ((s.getD i default).foreigns.getD j default).table)=R;refine Zn ?_;refine za (fun h=>absurd (Yb h) Za) fun _=>?_;refine za (fun h=>absurd (Yb h) Za) fun _=>?_;refine za (fun h=>absurd (Yb h) Za) fun _=>?_;refine ⟨Za,?_⟩;refine za (fun h=>absurd (Yb h) Za) fun _=>?_;refine ⟨Za,Za,?_⟩;refine zf [[6],[0]] [] (c_rfind s ((s.getD i default).foreigns.getD j default).table Za) ?_;refine Ze ?_;refine ⟨ze Zf,?_⟩;exact zR trivial (ZL hr) Zb
theorem fidx_self {α:Type} [Inhabited α] (p:α->Bool): ∀(l:List α) (i:Nat),i<l.length->p (l.getD i default)=true->0<=fidx p l/\fidx p l<=i
 | [],i,h,_=>by simp at h
 | x::l,0,_,hp=>by simp at hp;simp [fidx,hp]
 | x::l,i+1,h,hp=>by
   have:=fidx_self p l i (Zc h) (Zc hp);simp only [fidx]
   split
   ·omega
   ·rw [if_neg Za];omega
theorem byC_self (l:List Col) (i:Nat) (h:i<l.length):(uU (byC l (l.getD i default).name)<i) ↔ uU (byC l (l.getD i default).name)≠i:=by
 have:0<=byC l (l.getD i default).name/\byC l (l.getD i default).name<=i:=fidx_self (fun t:Col=>t.name.toList==(l.getD i default).name.toList) l i h Zd;unfold uU;rw [if_neg Za];omega
theorem byT_self (l:Sch) (i:Nat) (h:i<l.length):(uU (byT l (l.getD i default).name)<i) ↔ uU (byT l (l.getD i default).name)≠i:=by
 have:0<=byT l (l.getD i default).name/\byT l (l.getD i default).name<=i:=fidx_self (fun t:Tbl=>t.name.toList==(l.getD i default).name.toList) l i h Zd;unfold uU;rw [if_neg Za];omega
theorem c_rtable (t:Tbl) (ht:SmallT t):ACall Tryz.prog 89 [aT t] [] (num (xB t)) []:=by
 refine zn mixed ttok Tryz.func89 Tryz.ntmps89 Tryz.results89 ?_;generalize hr:num (xB t)=R;refine Zn ?_;have hcl:=ht.cols;have hkl:=ht.chk;have hpl:=ht.prim;have hul:=ht.uniq;have hfl:=ht.fors;have hbig:bigT t=true->retx (some (True,A.d (D.lit (Value.int .i64 8)))) ⟨[],[(1,vT t)]⟩ R []:=fun hb=>zl trivial (by rw [<-hr,xB,if_pos hb];rfl) Zb;simp only [vT] at hbig;refine za (fun h1=>?_) fun h1=>?_
 ·exact hbig (by rw [bigT,h1];simp only [Y0])
 refine za (fun h2=>?_) fun h2=>?_
 ·exact hbig (by rw [bigT,h2];simp only [Y4,Y0])
 refine za (fun h3=>?_) fun h3=>?_
 ·exact hbig (by rw [bigT,h3];simp only [Y4,Y0])
 refine za (fun h4=>?_) fun h4=>?_
 ·exact hbig (by rw [bigT,h4];simp only [Y4])
 clear hbig;have hb: ¬bigT t=true:=by rw [bigT,h1,h2,h3,h4];decide
 refine za (fun h5=>?_) fun h5=>?_
 ·exact Kx
 have h5': ¬t.columns.length=0:=Zc h5;have hM:xB t=if uk (xk t) t.columns.length≠0 then uk (xk t) t.columns.length
  else if xX t≠0 then xX t else ferr (xO t) t.checks:=by rw [xB,if_neg hb,if_neg h5']
 clear h1 h2 h3 h4 h5;refine zq mixed ttok 3 [1] [1] Zw Zx t.columns.length (fun n=> ∀i,i<n->xk t i=0) (fun _=>[]) (fun _=>[]) (fun i h=>absurd h (Yv _)) ?_ ?_
 ·exact Ya Zh Zh Zh
 intro I hI n hn hi;refine Zy ?_;refine za (fun h=>?_) fun h=>?_
 ·simp only [Yg] at h;have h':n<t.columns.length:=Za;have hw:=zh h' Za;have hE:xk t n≠0->num (xk t n)=R:=fun hne=>by
   exact JG
  refine ⟨Zu,?_⟩;refine zf [[0]] [] (c_rname2 (t.columns.getD n default).name) ?_;refine Ze ?_;refine za (fun g1=>?_) fun g1=>?_
  ·have hc:xk t n=3:=if_pos g1;exact zl trivial Xb Zb
  refine zf [[0,3,1,1,2,6],[0]] [] (c_rcolumn t (t.columns.getD n default).name Za) ?_;refine Ze ?_;refine za (fun g2=>?_) fun g2=>?_
  ·have g2':uU (byC t.columns (t.columns.getD n default).name)≠n:=by simpa [uU] using g2
   have hc:xk t n=5:=by rw [xk,if_neg (by rw [g1];decide),if_pos ((byC_self t.columns n h').2 g2')]
   exact zl trivial Xb Zb
  have g2': ¬uU (byC t.columns (t.columns.getD n default).name)≠n:=by simpa [uU] using g2
  have hcB:xk t n=if u9 (t.columns.getD n default).type then 4 else 0:=by
   rw [xk,if_neg (ZA g1),if_neg (fun q=>g2' ((byC_self t.columns n h').1 q))]
  have hbt:u9 (t.columns.getD n default).type=(decide ((t.columns.getD n default).type<1) || decide ((t.columns.getD n default).type>3)):=by
   rw [Ud];simp only [u9,Yz,Ul,bne_iff_ne,ne_eq,Yg];omega
  have hinv:u9 (t.columns.getD n default).type=false-> ∀i,i<n+1->xk t i=0:=fun hb i h2=>if h3:i=n then by rw [h3,hcB,hb];rfl else hi i Za
  refine za (fun g3=>?_) fun g3=>?_
  ·have hc:xk t n=4:=by rw [hcB,hbt,g3];rfl
   exact zl trivial Xb Zb
  refine za (fun g4=>?_) fun g4=>?_
  ·have hc:xk t n=4:=by rw [hcB,hbt,g4,Y4];rfl
   exact zl trivial Xb Zb
  exact zp hI n rfl h' (hinv (by rw [hbt,g3,g4];rfl)) (Zg hw) (Zg hw) (Zg hw) (Zg hw)
 simp only [Yf] at h;obtain rfl:n=t.columns.length:=Za;clear hI;have hM2:xB t=if xX t≠0 then xX t else ferr (xO t) t.checks:=by rw [hM,uJ hi,if_neg (by decide)]
 clear hM h hi hn I;refine zf [[0,3,1,1,2,6],[1]] [] (c_listed t t.primary Za) ?_;refine Ze ?_;refine za (fun p1=>?_) fun p1=>?_
 ·have p1':xj t.columns.length t.primary=false:=Zc p1;have hk:xX t=6:=by rw [xX,p1'];rfl
  exact zl trivial (ZK hr hM2 hk) Zb
 have p1':xj t.columns.length t.primary=true:=Zc p1;have hin:=okKey_in p1';refine zq mixed ttok 7 [1] [1] Zw Zx t.primary.length (fun n=> ∀i,i<n->ji t (t.primary.getD i default)=false) (fun _=>[]) (fun _=>[]) (fun i h=>absurd h (Yv _)) ?_ ?_
 ·exact Ya Zh Zh Zh
 intro I hI n hn hi;refine Zy ?_;refine za (fun h=>?_) fun h=>?_
 ·simp only [Yg] at h;have h':n<t.primary.length:=Za;have hw:=zh h' Za;have hic:=hin _ (zk h');obtain ⟨hc0,hc1⟩:=hic;refine ⟨Zu,⟨hc0,hc1⟩,ze Zf,?_⟩;refine za (fun g=>?_) fun g=>?_
  ·have hk:xX t=4:=by
    have:t.primary.any (ji t)=true:=U4.2 ⟨_,zk h',g⟩;rw [xX,p1',this];rfl
   exact zl trivial (ZK hr hM2 hk) Zb
  ·exact Mt
 simp only [Yf] at h;obtain rfl:n=t.primary.length:=Za;clear hI;have hany:t.primary.any (ji t)=false:=by
  rw [List.any_eq_false];intro x hx;obtain ⟨i,h1,rfl⟩:=uV hx;rw [hi i h1];decide
 have hkM:xX t=if (yE t).all (xj t.columns.length) then 0 else 6:=by rw [xX,p1',hany];rfl
 have hbad:(∃l∈yE t,xj t.columns.length l=false)->num 6=R:=fun ⟨l,hl,hk⟩=>by
  have:(yE t).all (xj t.columns.length)=false:=List.all_eq_false.2 ⟨l,hl,ZA hk⟩;rw [<-hr,hM2,hkM,this];rfl
 clear hi hn h I;refine zq mixed ttok 8 [1] [1] Zw Zx t.uniques.length (fun n=> ∀i,i<n->xj t.columns.length (t.uniques.getD i default)=true) (fun _=>[]) (fun _=>[]) (fun i h=>absurd h (Yv _)) ?_ ?_
 ·exact Ya Zh Zh Zh
 intro I hI n hn hi;refine Zy ?_;refine za (fun h=>?_) fun h=>?_
 ·simp only [Yg] at h;have h':n<t.uniques.length:=Za;have hw:=zh h' Za;have hlu:=ht.uniqs _ (zk h');refine ⟨Zu,?_⟩;refine zf [[0,3,1,1,2,6],[1]] [] (c_listed t (t.uniques.getD n default) Za) ?_;refine Ze ?_;refine ⟨ze Zf,?_⟩;refine za (fun g=>?_) fun g=>?_
  ·have g':xj t.columns.length (t.uniques.getD n default)=false:=Zc g;exact zl trivial (hbad ⟨_,Yr.2 (.inl (zk h')),g'⟩) Zb
  ·have g':xj t.columns.length (t.uniques.getD n default)=true:=Zc g;exact M5
 simp only [Yf] at h;obtain rfl:n=t.uniques.length:=Za;clear hI;have hU:=hi;clear hi hn h I;refine zq mixed ttok 9 [1] [1] Zw Zx t.foreigns.length (fun n=> ∀i,i<n->xj t.columns.length (t.foreigns.getD i default).columns=true) (fun _=>[]) (fun _=>[]) (fun i h=>absurd h (Yv _)) ?_ ?_
 ·exact Ya Zh Zh Zh
 intro I hI n hn hi;refine Zy ?_;refine za (fun h=>?_) fun h=>?_
 ·simp only [Yg] at h;have h':n<t.foreigns.length:=Za;have hw:=zh h' Za;have hlu:=ht.forss _ (zk h');refine ⟨Zu,?_⟩;refine zf [[0,3,1,1,2,6],[1]] [] (c_listed t (t.foreigns.getD n default).columns Za) ?_;refine Ze ?_;refine ⟨ze Zf,?_⟩;refine za (fun g=>?_) fun g=>?_
  ·have g':xj t.columns.length (t.foreigns.getD n default).columns=false:=Zc g;exact zl trivial (hbad ⟨_,Yr.2 (.inr (Yu.2 ⟨_,zk h',rfl⟩)),g'⟩) Zb
  ·have g':xj t.columns.length (t.foreigns.getD n default).columns=true:=Zc g;exact M5
 simp only [Yf] at h;obtain rfl:n=t.foreigns.length:=Za;clear hI;have hk0:xX t=0:=by
  have:(yE t).all (xj t.columns.length)=true:=by
   rw [YW];intro l hl;rcases Yr.1 hl with hl | hl
   ·obtain ⟨i,h1,rfl⟩:=uV hl;exact hU i h1
   ·obtain ⟨f,hf,rfl⟩:=Yu.1 hl;obtain ⟨i,h1,rfl⟩:=uV hf;exact hi i h1
  rw [hkM,this];rfl
 rw [hk0,if_neg Zi] at hM2;clear hi hn h I hbad hkM hU;refine zq mixed ttok 10 [1] [1] Zw Zx t.checks.length (fun n=> ∀i,i<n->xO t (t.checks.getD i default)=0) (fun _=>[]) (fun _=>[]) (fun i h=>absurd h (Yv _)) ?_ ?_
 ·exact Ya Zh Zh Zh
 intro I hI n hn hi;refine Zy ?_;refine za (fun h=>?_) fun h=>?_
 ·simp only [Yg] at h;have h':n<t.checks.length:=Za;have hw:=zh h' Za;have hE:xO t (t.checks.getD n default)≠0->num (xO t (t.checks.getD n default))=R:=fun hne=>by
   have:=xZ (xO t) t.checks n h' hi hne;rw [<-hr,hM2,this]
  have hl:(ye t).length<=1000000000:=by rw [ye,Yx];omega
  refine zf [[0,3,1,1,2,6]] [] (vw t Za) ?_;refine Ze ?_;refine ⟨Zu,?_⟩;refine zf [[1],[0,0,0,0,0,6]] [] (c_rtype (ye t) hl (t.checks.getD n default) (ht.chks _ (zk h'))) ?_;exact Ms
 exact K1
def rB (b:Bool):List D:=[.lit (.bool b)]
attribute [local simp, local push_cast] rB
def qS (s:Sch) (p:List Int):List Bool:=(List.range s.length).map fun i:Nat=>p.contains (i:Int)
theorem doneL_length (s:Sch) (p:List Int):(qS s p).length=s.length:=by simp [qS]
theorem doneL_get (s:Sch) (p:List Int) (i:Nat) (h:i<s.length):(qS s p).getD i default=p.contains (i:Int):=by
 rw [qS,Ye,List.getElem?_map,List.getElem?_range h];rfl
theorem doneL_nil (s:Sch):qS s []=List.replicate s.length false:=by
 apply Uc;intro i;simp only [qS,List.getElem?_map,List.getElem?_replicate];by_cases h:i<s.length
 ·rw [List.getElem?_range h,if_pos h];rfl
 ·rw [List.getElem?_eq_none Zt,if_neg h];rfl
theorem doneL_set (s:Sch) (p:List Int) (k:Int) (h0:0<=k) (h1:k<s.length):(qS s p).set k.toNat true=qS s (p++[k]):=by
 apply Uc;intro i;rw [List.getElem?_set,doneL_length];by_cases hi:i<s.length
 ·simp only [qS,List.getElem?_map];rw [List.getElem?_range hi];by_cases hk:k.toNat=i
  ·rw [if_pos hk,if_pos Za];have:k=(i:Int):=Za;simp [this]
  ·rw [if_neg hk];have: ¬(i:Int)=k:=Za;simp [this]
 ·rw [if_neg Za];simp only [qS,List.getElem?_map];rw [List.getElem?_eq_none Zt];rfl
def cst0 (kt:UL) (ts:Nat->List (Nat×A)) (os:Nat->List (Nat×Ob)) (n:Nat):SL:=⟨ts n++kt,os n⟩
theorem loop_count0 {P:Program} {tt:Types} (hm:P.follows .mixedOrders=true) (T':tt.ok P) {c:Code} {K:Exit->SL->Prop} {t:UL} {o:UM} {kt:UL}
 (keep:List Nat) (hk:zF t keep=kt) (N:Nat) (Inv:Nat->Prop) (ts:Nat->List (Nat×A)) (os:Nat->List (Nat×Ob)) (h0:Inv 0)
 (hw:Weak (SL.mk t o).st (cst0 kt ts os 0).st)
 (step: ∀(I:{n:Nat // n<=N/\Inv n}->SL),(∀x,I x=cst0 kt ts os x.1)-> ∀(n:Nat) (hn:n<=N) (hi:Inv n),ev P tt c (jv I (fun x=>N-x.1) ⟨n,hn,hi⟩ K) (cst0 kt ts os n)):
 wv P c K ⟨t,o⟩:=
 jW hm T' (fun x:{n:Nat // n<=N/\Inv n}=>cst0 kt ts os x.1) (fun x=>N-x.1) ⟨0,Yj _,h0⟩ hw fun ⟨n,hn,hi⟩=>step _ (fun _=>rfl) n hn hi
theorem cnt_again0 {N:Nat} {Inv:Nat->Prop} {I:{n:Nat // n<=N/\Inv n}->SL} {kt:UL} {ts:Nat->List (Nat×A)} {os:Nat->List (Nat×Ob)} (hI: ∀x,I x=cst0 kt ts os x.1)
 (n:Nat) {x:{n:Nat // n<=N/\Inv n}} (hx:x.1=n) {K:Exit->SL->Prop} {t:UL} {o:UM} (h1:n<N) (h2:Inv (n+1))
 (hw:Weak (SL.mk t o).st (cst0 kt ts os (n+1)).st):jv I (fun x=>N-x.1) x K .normal ⟨t,o⟩:=by
 refine ⟨⟨n+1,h1,h2⟩,Zj,?_⟩;rw [hI];exact hw
def vv (s:Sch) (p:List Int):Nat->Int
 | 0=> -1
 | j+1=>if u0 s p j then j else -1
theorem vv_pick {s:Sch} {p:List Int} {j:Nat} (hj:j<=s.length) (hji: ∀i,i+1<j->u0 s p i=false) (h:j=s.length\/ ¬vv s p j<0):vv s p j=xw s p:=by
 have hg: ∀i,i<s.length->(List.range s.length).getD i default=i:=fun i hi=>jS hi;cases j with
 | zero=>
   rcases h with h | h
   ·have:xw s p= -1:=by rw [xw,←h];rfl
    rw [this];rfl
   ·exact absurd (show (-1:Int)<0 from Zi) h
 | succ j=>
   by_cases hf:u0 s p j=true
   ·have h1:vv s p (j+1)=j:=if_pos hf;rw [h1,xw];symm;refine vF (u0 s p) (List.range s.length) j Zt (fun i hi=>?_) ?_
    ·rw [hg i Za];exact hji i Za
    ·rw [hg j Za];exact hf
   ·have hf':u0 s p j=false:=Zc hf;have h1:vv s p (j+1)= -1:=if_neg hf;rw [h1] at h ⊢;have hj2:j+1=s.length:=h.resolve_right Zi;rw [xw];symm;refine xH (u0 s p) (List.range s.length) fun i hi=>?_;rw [List.length_range] at hi;rw [hg i hi];by_cases hij:i=j
    ·rw [hij];exact hf'
    ·exact hji i Za
def frK (s:Sch) (p:List Int) (j k:Nat):Bool:=(!p.contains (j:Int))&&((fks s j).take k).all fun f=>p.contains (byT s f.table)
theorem frK_zero (s:Sch) (p:List Int) (j:Nat):frK s p j 0= !p.contains (j:Int):=by rw [frK];simp
theorem frK_succ (s:Sch) (p:List Int) (j k:Nat) (h:k<(fks s j).length):frK s p j (k+1)=(frK s p j k&&p.contains (byT s ((fks s j).getD k default).table)):=by
 rw [frK,frK,zy _ _ h,List.all_append];simp [Bool.and_assoc]
theorem frK_all (s:Sch) (p:List Int) (j:Nat):frK s p j (fks s j).length=u0 s p j:=by rw [frK,Yk];rfl
theorem setB_rows (l:List Bool) (k:Nat) (h:k<l.length):(zd rB l).set k (D.lit (Value.bool true)::List.drop 1 ((zd rB l).getD k []))=zd rB (l.set k true):=by
 have h1:(zd rB l).getD k []=rB (l.getD k default):=by
  simp only [zd,Ye,List.getElem?_map,List.getElem?_eq_getElem h];rfl
 rw [h1];show (zd rB l).set k (rB true)=_;rw [zd,zd,List.map_set]
theorem XL {p:Prop} (h:p:=by simp [cst0,ends]):p:=h
theorem Vs {p:Prop} (h:p:=by simp only [zF,ends,ite_true,ite_false,reduceIte,Nat.reduceEqDiff,Nat.reduceLeDiff,Nat.reduceLT,Nat.reduceAdd,reduceCtorEq,num,boo,str,ints,aV,aTab,z7,aS,aT,aC,yk,zP,aFk,vT,rB];rfl):p:=h
theorem Vt {p:Prop} (h:p:=by have:=xY (u0 s p) (List.range s.length);rw [List.length_range] at this;exact this):p:=h
theorem Mg{p:Prop}(h:p:=by
 refine zo [[1],[0]] rfl Zd Zk ?_ Zl Zb Zb;rfl):p:=h
theorem MJ{p:Prop}(h:p:=by
 have hge:0<=xw s p:=Zo hneg;have hlt:xw s p<s.length:=Vt;have hinv: ∀i,i<n+1->0<=xw s (yI s i):=fun i h2=>if h3:i=n then by rw [h3,hp];exact hge else hi i Za
 have hpk:yI s (n+1)=p++[xw s p]:=by rw [yI,hp]
 have hds:=doneL_set s p (xw s p) hge hlt;refine ⟨⟨⟨hge,hlt⟩,hdl.symm⟩,⟨hdl.symm,Za,Za⟩,⟨hpl.symm,Za⟩,?_⟩;rw [setB_rows _ _ Za,hds,<-hpk];exact cnt_again0 hI n rfl h' hinv (Ya (by simp [cst0,hpl,ends]) XL XL)):p:=h
theorem Nw{p:Prop}(h:p:=by
 exact zp hI n rfl h' trivial (Zg hw) (Zg hw) (Zg hw) (Zg hw)):p:=h
theorem J7{p:Prop}(h:p:=by
 exact zp hQ k rfl k' trivial (by simp [hwk,hsk,f1,ends]) (by simp [hwk,hsk,f1,ends]) (by simp [hwk,hsk,f1,ends]) (by simp [hwk,hsk,f1,ends])):p:=h
theorem KO{p:Prop}(h:p:=by
 have hno:q9 s=false:=wW h' (by rw [hp];exact YS (by omega));rw [<-hr,q8,uy,hno];rfl):p:=h
theorem Gu{p:Prop}(h:p:=by
 exact zp hJ j rfl j' hji2 (Z0 hwj hvs) (Z0 hwj hvs) (Z0 hwj hvs) (Z0 hwj hvs)):p:=h
theorem GA{p:Prop}(h:p:=by
 have hE:xw s p<0->A.tup [ints [],num 7]=R:=fun hneg=>by
  exact KO
 rw [hv];refine za (fun hneg=>?_) fun hneg=>?_
 ·have hR:=hE (Yb hneg);subst hR;exact Mg
 exact MJ):p:=h
theorem c_rorder (s:Sch) (hs:s.length≤6) (hf: ∀t∈s,t.foreigns.length≤1000) (hall: ∀t∈s,∀f∈t.foreigns,0≤byT s f.table):
 ACall Tryz.prog 91 [aS s] [] (.tup [ints (q8 s),num (uy s)]) []:=by
 refine zn mixed ttok Tryz.func91 Tryz.ntmps91 Tryz.results91 ?_;generalize hr:A.tup [ints (q8 s),num (uy s)]=R;refine Zn ?_;refine zq mixed ttok 4 [1] [1] Zw Zx s.length (fun _=>True) (fun _=>[]) (fun _=>[]) trivial ?_ ?_
 ·exact Ya Zh Zh Zh
 intro I hI n hn hi;refine Zy ?_;refine za (fun h=>?_) fun h=>?_
 ·simp only [Yg] at h;have h':n<s.length:=Za;have hw:=zh h' Za;have hlF:=hf _ (zk h');have hallF:=hall _ (zk h');refine zq mixed ttok 5 [1,4] [1] Zw Zx (s.getD n default).foreigns.length (fun _=>True) (fun _=>[]) (fun _=>[]) trivial ?_ ?_
  ·exact Ya Zh Zh Zh
  intro J hJ k hk _;refine Zy ?_;refine ⟨Zu,?_⟩;refine za (fun g=>?_) fun g=>?_
  ·simp only [Yg] at g;have k':k<(s.getD n default).foreigns.length:=Za;have hwk:=zh k' Za;refine zf [[6],[0],[0]] [] (c_target s n k Za h' k') ?_;refine Ze ?_;have hge:=hallF _ (zk k');refine za (fun h=>absurd h (ZA (YV hge))) fun _=>?_;exact zp hJ k rfl k' trivial (Zg hwk) (Zg hwk) (Zg hwk) (Zg hwk)
  ·exact Nw
 clear hI hi hn I;clear h;refine ⟨⟨Za,Za,Za⟩,?_⟩;have hrep:List.replicate s.length [D.lit (Value.bool false)]=zd rB (qS s []):=by rw [doneL_nil,zd,List.map_replicate];rfl
 rw [hrep];refine loop_count0 mixed ttok [1,8] Vs s.length (fun n=> ∀i,i<n->0<=xw s (yI s i)) (fun n=>[(9,.vec 500 n)])
  (fun n=>[(46,.vec 4 1 (zd rB (qS s (yI s n))) 0),(500,.vec 3 1 (zd rI (yI s n)) 0),(1,.var [.d (.sl 6 (zd rT s))])]) (fun i h=>absurd h (Yv _)) ?_ ?_
 ·exact (YU 9 500 3 1 rfl rfl).trans (Ya XL (by simp [cst0,yI,ends]) XL)
 intro I hI n hn hi;have hpl:=qz s n;generalize hp:yI s n=p at hpl;have hdl:=doneL_length s p;simp -implicitDefEqProofs only [cst0,hp,↓zb,push_cast,simprocAttr,tt];refine ⟨hpl.symm,?_⟩;refine za (fun h=>?_) fun h=>?_
 ·simp only [Yg] at h;have h':n<s.length:=Za;refine zq mixed ttok 11 [1,8,9] [46,500,1] Vs (by simp only [zI,zr,ends,ite_true,ite_false,reduceIte,Nat.reduceEqDiff,Nat.reduceLeDiff,Nat.reduceLT,Nat.reduceAdd,reduceCtorEq,num,boo,str,ints,aV,aTab,z7,aS,aT,aC,yk,zP,aFk,vT,rB];rfl) s.length (fun j=> ∀i,i+1<j->u0 s p i=false)
   (fun j=>[(10,.d (.lit (.int .i64 (vv s p j))))]) (fun _=>[]) (fun i h=>absurd h Za) ?_ ?_
  ·exact Ya (by simp [cst,vv,ends]) Zh Zh
  intro J hJ j hj hji;refine Zy ?_;have hFe:(s.getD j default).foreigns=fks s j:=rfl;refine za (fun q1=>?_) fun q1=>?_
  ·simp only [Yg] at q1;have j':j<s.length:=Za;have hwj:=zh j' Za;refine za (fun q2=>?_) fun q2=>?_
   ·have q2':vv s p j<0:=Yb q2;have hji2: ∀i,i+1<j+1->u0 s p i=false:=fun i h2=>by
     by_cases h3:i+1=j
     ·subst h3;simp only [vv] at q2'
      split at q2'
      ·omega
      ·rename_i hh;simpa using hh
     ·exact hji i Za
    refine ⟨⟨Za,hdl.symm⟩,Za,hdl.symm,?_⟩;have hlF:=hf _ (zk j');have hallF:=hall _ (zk j');have hd0:=doneL_get s p j j';rw [hd0,<-frK_zero s p j];rw [hFe] at hlF hallF;refine zq mixed ttok 13 [1,8,9,10,11] [46,500,1] Zw Zx (fks s j).length (fun _=>True) (fun k=>[(12,.d (.lit (.bool (frK s p j k))))]) (fun _=>[]) trivial ?_ ?_
    ·exact Ya Zh Zh Zh
    intro Q hQ k hk _;simp -implicitDefEqProofs only [cst,hFe,↓zb,push_cast,simprocAttr,tt];refine ⟨Zu,?_⟩;refine za (fun g=>?_) fun g=>?_
    ·simp only [Yg] at g;have k':k<(fks s j).length:=Za;have hwk:=zh k' Za;have hge:=hallF _ (zk k');have hlt:byT s ((fks s j).getD k default).table<s.length:=xY _ _;refine zf [[6],[0],[0]] [] (c_target s j k Za j' k') ?_;refine Zv hFe ?_;have hd1:=doneL_get s p (byT s ((fks s j).getD k default).table).toNat Za;rw [Int.toNat_of_nonneg hge] at hd1;simp only [if_neg (show¬0>byT s ((fks s j).getD k default).table from Za)];have hsk:=frK_succ s p j k k';refine za (fun f1=>?_) fun f1=>?_
     ·refine ⟨⟨⟨hge,hlt⟩,hdl.symm⟩,Za,hdl.symm,?_⟩;rw [hd1];exact J7
     ·exact J7
    ·simp only [Yf] at g;obtain rfl:k=(fks s j).length:=Za;rw [frK_all];refine za (fun f1=>?_) fun f1=>?_
     ·have hvs:vv s p (j+1)=j:=if_pos f1;exact Gu
     ·have hvs:vv s p (j+1)=vv s p j:=by
       have h1:vv s p (j+1)= -1:=by simp only [vv,f1];rfl
       rw [h1];cases j with
       | zero=>rfl
       | succ i=>simp only [vv] at q2' ⊢;split at q2'<;>first | omega | (rename_i hh;rw [if_neg hh])
      exact Gu
   ·have hv:=vv_pick hj hji (.inr (Yc q2));exact GA
  ·have hv:=vv_pick hj hji (.inl (Zo q1));exact GA
 ·simp only [Yf] at h;obtain rfl:n=s.length:=Za;have hok:q9 s=true:=all_range.2 fun i hi2=>YV (hi i hi2);have hR:A.tup [ints p,num 0]=R:=by rw [<-hr,q8,uy,hok,<-hp];rfl
  subst hR;exact Mg
end
section
attribute [local simp, local push_cast] Ta yk zP aFk vT
theorem c_rsvalid (s:Sch) (hs:SmallS s):ACall Tryz.prog 46 [aS s] [] (num (we s)) []:=by
 refine zn mixed ttok Tryz.func46 Tryz.ntmps46 Tryz.results46 ?_;generalize hr:num (we s)=R;have hl:=hs.len;refine Zn ?_;refine za (fun h0=>?_) fun h0=>?_
 ·exact zl trivial (by rw [<-hr,we,if_pos (Yb h0)];rfl) Zb
 have h0': ¬(s.length:Int)>6:=Yc h0;have hM:we s=if uk (yT s) s.length≠0 then uk (yT s) s.length
  else if ferr (xr s) s≠0 then ferr (xr s) s else uy s:=by rw [we,if_neg h0']
 refine zq mixed ttok 3 [1] [1] Zw Zx s.length (fun n=> ∀i,i<n->yT s i=0) (fun _=>[]) (fun _=>[]) (fun i h=>absurd h (Yv _)) ?_ ?_
 ·exact Ya Zh Zh Zh
 intro I hI n hn hi;refine Zy ?_;refine za (fun h=>?_) fun h=>?_
 ·simp only [Yg] at h;have h':n<s.length:=Za;have hw:=zh h' Za;have hE:yT s n≠0->num (yT s n)=R:=fun hne=>by
   exact JG
  have hg:s.getD n default∈s:=zk h';refine ⟨Zu,?_⟩;refine zf [[0]] [] (c_rname2 (s.getD n default).name) ?_;refine Ze ?_;refine za (fun g1=>?_) fun g1=>?_
  ·have hc:yT s n=3:=if_pos g1;exact zl trivial Xb Zb
  refine ⟨Zu,?_⟩;refine zf [[6],[0]] [] (c_rfind s (s.getD n default).name Za) ?_;refine Ze ?_;refine ⟨ze Zf,?_⟩;refine za (fun g2=>?_) fun g2=>?_
  ·have g2':uU (byT s (s.getD n default).name)≠n:=by simpa [uU] using g2
   have hc:yT s n=5:=by rw [yT,if_neg (by rw [g1];decide),if_pos ((byT_self s n h').2 g2')]
   exact zl trivial Xb Zb
  have g2': ¬uU (byT s (s.getD n default).name)≠n:=by simpa [uU] using g2
  have hcB:yT s n=xB (s.getD n default):=by rw [yT,if_neg (by rw [g1];decide),if_neg (fun q=>g2' ((byT_self s n h').1 q))]
  refine ⟨Zu,?_⟩;refine zf [[0,3,1,1,2,6]] [] (c_rtable (s.getD n default) (hs.tab _ hg)) ?_;exact Nz
 simp only [Yf] at h;obtain rfl:n=s.length:=Za;have hM2:we s=if ferr (xr s) s≠0 then ferr (xr s) s else uy s:=by rw [hM,uJ hi,if_neg (by decide)]
 have htab: ∀t∈s,xB t=0:=fun t ht=>by
  obtain ⟨i,h1,h2⟩:=uV ht;rw [<-h2];exact tabErr_table (hi i h1)
 clear hI hM h hi hn I;refine zq mixed ttok 7 [1] [1] Zw Zx s.length (fun n=> ∀i,i<n->xr s (s.getD i default)=0) (fun _=>[]) (fun _=>[]) (fun i h=>absurd h (Yv _)) ?_ ?_
 ·exact Ya Zh Zh Zh
 intro I hI n hn hi;refine Zy ?_;refine za (fun h=>?_) fun h=>?_
 ·simp only [Yg] at h;have h':n<s.length:=Za;have hw:=zh h' Za;have hg:s.getD n default∈s:=zk h';have hE:xr s (s.getD n default)≠0->num (xr s (s.getD n default))=R:=fun hne=>by
   have:=xZ (xr s) s n h' hi hne;rw [<-hr,hM2,this,if_pos hne]
  have hT:=hs.tab _ hg;have hTf:=hT.fors;have hfs:=table_fors (htab _ hg);refine zq mixed ttok 8 [1,7] [1] Zw Zx (s.getD n default).foreigns.length (fun k=> ∀i,i<k->refM s (s.getD n default) ((s.getD n default).foreigns.getD i default)=0) (fun _=>[]) (fun _=>[]) (fun i h=>absurd h (Yv _)) ?_ ?_
  ·exact Ya Zh Zh Zh
  intro J hJ k hk hki;refine Zy ?_;refine ⟨Zu,?_⟩;refine za (fun g=>?_) fun g=>?_
  ·simp only [Yg] at g;have k':k<(s.getD n default).foreigns.length:=Za;have hwk:=zh k' Za;have hfm:=zk k';refine zf [[6],[0],[0]] [] (c_target s n k hl h' k') ?_;refine Ze ?_;have hE2:refM s (s.getD n default) ((s.getD n default).foreigns.getD k default)≠0->num (refM s (s.getD n default) ((s.getD n default).foreigns.getD k default))=R:=fun hne=>by
    have hc:xr s (s.getD n default)=refM s (s.getD n default) ((s.getD n default).foreigns.getD k default):=xZ (refM s (s.getD n default)) (s.getD n default).foreigns k k' hki hne;rw [<-hc];exact hE (by rw [hc];exact hne)
   have hz2:refM s (s.getD n default) ((s.getD n default).foreigns.getD k default)=0-> ∀i,i<k+1->refM s (s.getD n default) ((s.getD n default).foreigns.getD i default)=0:=fun hz i h2=>if h3:i=k then by rw [h3];exact hz else hki i Za
   have hcols:=hfs _ hfm;have hlc:=hT.forss _ hfm;generalize hf:(s.getD n default).foreigns.getD k default=f at hE2 hz2 hcols hlc;refine za (fun g1=>?_) fun g1=>?_
   ·have g1':byT s f.table<0:=Zc g1;have hc:refM s (s.getD n default) f=11:=if_pos g1';exact zl trivial XZ Zb
   have g1': ¬byT s f.table<0:=Zc g1;have hlt:byT s f.table<s.length:=xY _ _;have hcB:refM s (s.getD n default) f=if jm (s.getD n default) (s.getD (byT s f.table).toNat default) f.columns (s.getD (byT s f.table).toNat default).primary then 0 else 6:=if_neg g1'
   have hUm:s.getD (byT s f.table).toNat default∈s:=zk Za;have hprim:=table_prim (htab _ hUm);simp only [if_neg (show¬0>byT s f.table from Za)];generalize byT s f.table=bt at g1' hlt hcB hprim ⊢;generalize hU:s.getD bt.toNat default=U at hcB hprim;refine ⟨Za,Za,⟨Za,hlt⟩,ze Zf,?_⟩;refine za (fun g2=>?_) fun g2=>?_
   ·have hne:=ne_nat g2;have hc:refM s (s.getD n default) f=6:=by rw [hcB,jm,beq_false_of_ne hne];rfl
    exact zl trivial XZ Zb
   have hle:=kf g2;have hcC:refM s (s.getD n default) f=if (List.range f.columns.length).all (fun i=>x9 (s.getD n default) (f.columns.getD i default)==x9 U (U.primary.getD i default)) then 0 else 6:=by
    rw [hcB,jm,hle,beq_self_eq_true,Yo]
   refine zq mixed ttok 13 [1,7,8,9,11,12] [1] Zw Zx f.columns.length (fun j=> ∀i,i<j->(x9 (s.getD n default) (f.columns.getD i default)==x9 U (U.primary.getD i default))=true) (fun _=>[]) (fun _=>[]) (fun i h=>absurd h (Yv _)) ?_ ?_
   ·exact Ya Zh Zh Zh
   intro Q hQ j hj hji;refine Zy ?_;refine za (fun q=>?_) fun q=>?_
   ·simp only [Yg] at q;have j':j<f.columns.length:=Za;have hwj:=zh j' Za;obtain ⟨a0,a1⟩:=hcols _ (zk j');obtain ⟨b0,b1⟩:=hprim (U.primary.getD j default) (zk Za);refine ⟨Za,Za,⟨a0,a1⟩,⟨Za,hlt⟩,Za,⟨b0,by rw [hU];exact b1⟩,ze Zf,?_⟩;rw [hU];refine za (fun e=>?_) fun e=>?_
    ·have e':(x9 (s.getD n default) (f.columns.getD j default)==x9 U (U.primary.getD j default))=false:=by simpa [bne,x9] using e
     have hc:refM s (s.getD n default) f=6:=by rw [hcC,wW (n:=j) j' e'];rfl
     exact zl trivial XZ Zb
    ·have e':(x9 (s.getD n default) (f.columns.getD j default)==x9 U (U.primary.getD j default))=true:=by simpa [bne,x9] using e
     exact zp hQ j rfl j' (fun i h2=>if h3:i=j then by rw [h3];exact e' else hji i Za) (Zg hwj) (Zg hwj) (Zg hwj) (Zg hwj)
   ·simp only [Yf] at q;obtain rfl:j=f.columns.length:=Za;have hc:refM s (s.getD n default) f=0:=by rw [hcC,all_range.2 hji];rfl
    exact zp hJ k rfl k' (hz2 hc) (Zg hwk) (Zg hwk) (Zg hwk) (Zg hwk)
  ·simp only [Yf] at g;obtain rfl:k=(s.getD n default).foreigns.length:=Za;have hz:xr s (s.getD n default)=0:=yQ _ _ hki;exact zp hI n rfl h' (fun i h2=>if h3:i=n then by rw [h3];exact hz else hi i Za) (Zg hw) (Zg hw) (Zg hw) (Zg hw)
 simp only [Yf] at h;obtain rfl:n=s.length:=Za;clear hI;have hz:ferr (xr s) s=0:=yQ (xr s) s hi;have hall: ∀t∈s,∀f∈t.foreigns,0<=byT s f.table:=fun t ht f hf=>refM_at (wT (wT hz t ht) f hf);refine zf [[6]] [] (c_rorder s Za (fun t ht=>(hs.tab t ht).fors) hall) ?_;exact Ge
end
section
attribute [local simp, local push_cast] Ta yk zP aFk vT rTab rRow
theorem c_rfits (s:Sch) (inst:Inst) (hs:SmallS s) (hi:SmallI inst):ACall Tryz.prog 18 [aS s,z7 inst] [] (num (xN s inst)) []:=by
 refine zn mixed ttok Tryz.func18 Tryz.ntmps18 Tryz.results18 ?_;generalize hr:num (xN s inst)=R;have hl:=hs.len;have hli:=hi.len;refine Zn ?_;refine zf [[6]] [] (c_rsvalid s hs) ?_;refine Ze ?_;refine za (fun h0=>?_) fun h0=>?_
 ·exact Gf
 have h0': ¬we s≠0:=Zc h0;refine za (fun h1=>?_) fun h1=>?_
 ·exact zl trivial (by rw [<-hr,xN,if_neg h0',if_pos (neN_of h1)];rfl) Zb
 have hlen:=kf h1;have hM:xN s inst=uk (vm s inst) s.length:=by rw [xN,if_neg h0',if_neg (eqN_of h1)]
 refine zq mixed ttok 6 [2,3] [2,3] Zw Zx s.length (fun n=> ∀i,i<n->vm s inst i=0) (fun _=>[]) (fun _=>[]) (fun i h=>absurd h (Yv _)) ?_ ?_
 ·exact Ya Zh Zh Zh
 intro I hI n hn hii;refine Zy ?_;refine za (fun h=>?_) fun h=>?_
 ·simp only [Yg] at h;have h':n<s.length:=Za;have hw:=zh h' Za;have hE:vm s inst n≠0->num (vm s inst n)=R:=fun hne=>by
   have:=qj h' hii hne;rw [<-hr,hM,this]
  have hzero:vm s inst n=0-> ∀i,i<n+1->vm s inst i=0:=fun hz i h2=>if h3:i=n then by rw [h3];exact hz else hii i Za
  have hgt:s.getD n default∈s:=zk h';have hgl:inst.getD n default∈inst:=zk Za;have hll:=hi.tab _ hgl;have hlr:=hi.row _ hgl;have hTc:=(hs.tab _ hgt).cols;unfold vm at hE hzero;generalize hT:s.getD n default=T at hE hTc hzero;generalize hL:inst.getD n default=L at hE hll hlr hzero;refine ⟨Za,?_⟩;refine za (fun h2=>?_) fun h2=>?_
  ·have hc:tabF T L=8:=if_pos (Yb h2);exact zl trivial Xb Zb
  have hcT:tabF T L=ferr (yW T) L:=if_neg (Yc h2);rw [hcT] at hE hzero;refine zq mixed ttok 7 [2,3,6] [2,3] Zw Zx L.length (fun k=> ∀i,i<k->yW T (L.getD i default)=0) (fun _=>[]) (fun _=>[]) (fun i h=>absurd h (Yv _)) ?_ ?_
  ·exact Ya Zh Zh Zh
  intro J hJ k hk hki;simp -implicitDefEqProofs only [cst,hL,↓zb,push_cast,simprocAttr,tt];refine ⟨Za,?_⟩;refine za (fun g=>?_) fun g=>?_
  ·simp only [Yg] at g;have k':k<L.length:=Za;have hwk:=zh k' Za;have hrm:L.getD k default∈L:=zk k';have hrl:=hlr _ hrm;have hE2:yW T (L.getD k default)≠0->num (yW T (L.getD k default))=R:=fun hne=>by
    exact Gt
   have hzero2:yW T (L.getD k default)=0-> ∀i,i<k+1->yW T (L.getD i default)=0:=fun hz i h2=>if h3:i=k then by rw [h3];exact hz else hki i Za
   generalize hW:L.getD k default=W at hE2 hzero2 hrl;refine ⟨Za,Za,Za,?_⟩;rw [hT];refine za (fun h3=>?_) fun h3=>?_
   ·have hc:yW T W=9:=if_pos (neN_of h3);exact zl trivial XZ Zb
   have hWl:=kf h3;have hcW:yW T W=if (List.range W.length).all (fun j=> !badV (T.columns.getD j default) (W.getD j default)) then 0 else 4:=if_neg (eqN_of h3)
   refine zq mixed ttok 9 [2,3,6,7,8] [2,3] Zw Zx W.length (fun j=> ∀i,i<j->(!badV (T.columns.getD i default) (W.getD i default))=true) (fun _=>[]) (fun _=>[]) (fun i h=>absurd h (Yv _)) ?_ ?_
   ·exact Ya Zh Zh Zh
   intro Q hQ j hj hji;simp -implicitDefEqProofs only [cst,hL,hT,↓zb,push_cast,simprocAttr,tt];refine za (fun q=>?_) fun q=>?_
   ·simp only [Yg] at q;have j':j<W.length:=Za;have hwj:=zh j' Za;refine ⟨Zu,?_⟩;have hbad:badV (T.columns.getD j default) (W.getD j default)=true->num 4=R:=fun hb=>by
     exact KF
    have hgood:badV (T.columns.getD j default) (W.getD j default)=false-> ∀i,i<j+1->(!badV (T.columns.getD i default) (W.getD i default))=true:=fun hb i h2=>if h3:i=j then by rw [h3,hb];rfl else hji i Za
    refine zf [[0,0,0]] [] (qq (W.getD j default)) ?_;refine Zv hT ?_;refine za (fun v1=>?_) fun v1=>?_
    ·exact Gm
    refine ⟨Za,?_⟩;refine za (fun v2=>?_) fun v2=>?_
    ·refine ⟨Za,Za,Za,ze Zf,?_⟩;exact NM
    ·exact JT
   ·exact NV
  ·exact JF
 ·exact KH
end
end Go.Proofs.YtnmibokjpedkiaaGreatDoor
