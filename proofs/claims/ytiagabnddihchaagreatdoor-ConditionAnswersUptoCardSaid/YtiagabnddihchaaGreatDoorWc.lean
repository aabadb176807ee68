/- Conditions over finite domains (part Wc) -/
import Derived.Test.YtiagabnddihchaaGreatDoorWb
set_option maxRecDepth 100000
set_option maxHeartbeats 4000000
set_option linter.all false
namespace Go.Proofs.YtiagabnddihchaaGreatDoor
section
open Go.Am
attribute [local simp, local push_cast] num boo str ints aV aTab yC aS aT aC jL yY aFk vT rTab rRow
structure SmallI (i:Inst):Prop where
 len:i.length<=1000
 tab: ∀l∈i,l.length<=1000
 row: ∀l∈i,∀r∈l,r.length<=1000
end
section
open Go.Am
attribute [local simp, local push_cast] num boo str ints aV aTab yC aS aT aC jL yY aFk vT
theorem uy (l:List Int) (v:Int) (hl:l.length≤1000000000):ACall Tryz.prog 150 [ints l,num v] [] (boo (l.all fun x=>x==v)) []:=by
 refine zm mixed ttok Tryz.func150 Tryz.ntmps150 Tryz.results150 ?_
 generalize hr:boo (l.all fun x=>x==v)=R
 simp -implicitDefEqProofs only [argT,↓zb,push_cast,simprocAttr,tte]
 refine yl mixed ttok 5 [0,1] [] (by simp only [wH,ends,push_cast,simprocAttr];rfl) (by simp only [wI,ym,ends,push_cast,simprocAttr];rfl) l.length (fun n=> ∀i,i<n->(l.getD i default==v)=true) (fun _=>[]) (fun _=>[]) (fun i h=>absurd h (Nat.not_lt_zero _)) ?_ ?_
 ·exact Weak.keepL (by simp [cst,ends]) (by simp [cst,ends]) (by simp [cst,ends])
 intro I hI n hn hi
 simp -implicitDefEqProofs only [cst,↓zb,push_cast,simprocAttr,tte]
 refine za (fun h=>?_) fun h=>?_
 ·simp only [decide_eq_true_eq] at h
  have h':n<l.length:=by omega
  have hw:=zw h' (by omega)
  refine ⟨(by first | omega | trivial | (refine ⟨?_,?_⟩<;>first | omega | trivial | (refine ⟨?_,?_⟩<;>first | omega | trivial | (refine ⟨?_,?_⟩<;>first | omega | trivial | rfl)))),?_⟩
  refine za (fun g=>?_) fun g=>?_
  ·have:(l.all fun x=>x==v)=false:=by
    rw [List.all_eq_false];exact ⟨_,zx h',by simpa using g⟩
   exact zk trivial (by rw [<-hr,this];rfl) (by simp [ends])
  ·have g':(l.getD n default==v)=true:=by simpa using g
   exact yt hI n rfl h' (fun i h2=>if h3:i=n then by rw [h3];exact g' else hi i (by omega)) (by simp [hw,ends]) (by simp [hw,ends]) (by simp [hw,ends]) (by simp [hw,ends])
 ·simp only [decide_eq_false_iff_not] at h
  obtain rfl:n=l.length:=by omega
  have:(l.all fun x=>x==v)=true:=by
   rw [List.all_eq_true];intro x hx
   obtain ⟨i,h1,rfl⟩:=mem_getD hx
   exact hi i h1
  exact zk trivial (by rw [<-hr,this];rfl) (by simp [ends])
def yb (op n:Int):Bool:=
 if op<=5 then n==0 else if (((op==11 || op==13) || op==21) || op==24) || op==25 then n==1
 else if op==26 then n==3 else if op==28 then decide (n≥2) else n==2
theorem c_rkids (op n:Int):ACall Tryz.prog 63 [num op,num n] [] (boo (yb op n)) []:=by
 refine zm mixed ttok Tryz.func63 Tryz.ntmps63 Tryz.results63 ?_
 generalize hr:boo (yb op n)=R
 simp -implicitDefEqProofs only [argT,↓zb,push_cast,simprocAttr,tte]
 refine za (fun h1=>?_) fun h1=>?_
 ·exact zk trivial (by rw [<-hr,yb,if_pos (of_decide_eq_true h1)];rfl) (by simp [ends])
 have hk:yb op n=if (((op==11 || op==13) || op==21) || op==24) || op==25 then n==1 else if op==26 then n==3 else if op==28 then decide (n≥2) else n==2:=if_neg (of_decide_eq_false h1)
 repeat' first
  | exact zk trivial (by rw [<-hr,hk];simp only [*,Bool.true_or,Bool.or_true,Bool.or_false,Bool.false_or,Bool.false_eq_true,if_true,if_false,boo]) (by simp [ends])
  | (refine za (fun _=>?_) fun _=>?_)
theorem op_cases {op:Int} (h:isOp op=true): ∃n:Nat,n<29/\1<=n/\op=n:=by
 simp only [isOp,Bool.and_eq_true,decide_eq_true_eq] at h
 exact ⟨op.toNat,by omega,by omega,by omega⟩
set_option synthInstance.maxSize 4000 in
set_option synthInstance.maxHeartbeats 400000 in
theorem kids_tab0: ∀n∈List.range 29,n=0\/(n=1\/n=2\/n=3\/n=4\/n=5)/\(opTab.getD n default).kids=0\/(n=11\/n=13\/n=21\/n=24\/n=25)/\(opTab.getD n default).kids=1\/
 n=26/\(opTab.getD n default).kids=3\/n=28/\(opTab.getD n default).kids=2\/
 (n=6\/n=7\/n=8\/n=9\/n=10\/n=12\/n=14\/n=15\/n=16\/n=17\/n=18\/n=19\/n=20\/n=22\/n=23\/n=27)/\(opTab.getD n default).kids=2:=by decide
theorem kids_tab (n:Nat) (h1:n<29) (h2:1<=n):(((n:Int)<=5 ↔ (opTab.getD n default).kids=0)/\(((((n:Int)=11\/(n:Int)=13)\/(n:Int)=21)\/(n:Int)=24)\/(n:Int)=25 ↔ (opTab.getD n default).kids=1)/\
 ((n:Int)=26 ↔ (opTab.getD n default).kids=3)/\((opTab.getD n default).kids=0\/(opTab.getD n default).kids=1\/(opTab.getD n default).kids=2\/(opTab.getD n default).kids=3)/\
 ((n:Int)=28->(opTab.getD n default).kids=2)):=by
 have:=kids_tab0 n (by simpa using h1)
 generalize (opTab.getD n default).kids=k at this
 omega
theorem uC {e:Ex} (h:isOp e.op=true):yb e.op e.kids.length=yf e:=by
 obtain ⟨n,h1,h2,h3⟩:=op_cases h
 have hf:(ye e.op).kids=(opTab.getD n default).kids:=by rw [ye,h,if_pos rfl,opAt,h3,Int.toNat_natCast]
 obtain ⟨a1,a2,a3,a4,a5⟩:=kids_tab n h1 h2
 rw [yf,h,hf,Bool.true_and,yb,h3]
 generalize (opTab.getD n default).kids=k at a1 a2 a3 a4 a5
 generalize e.kids.length=m
 rw [Bool.eq_iff_iff]
 simp only [Bool.or_eq_true,Bool.and_eq_true,beq_iff_eq,decide_eq_true_eq]
 by_cases b1:(n:Int)<=5
 ·rw [if_pos b1];simp only [beq_iff_eq];have:=a1.1 b1;omega
 ·rw [if_neg b1]
  by_cases b2:((((n:Int)=11\/(n:Int)=13)\/(n:Int)=21)\/(n:Int)=24)\/(n:Int)=25
  ·rw [if_pos b2];simp only [beq_iff_eq];have:=a2.1 b2;omega
  ·rw [if_neg b2]
   by_cases b3:(n:Int)=26
   ·rw [if_pos b3];simp only [beq_iff_eq];have:=a3.1 b3;omega
   ·rw [if_neg b3]
    have c1: ¬k=0:=fun e=>b1 (a1.2 e)
    have c2: ¬k=1:=fun e=>b2 (a2.2 e)
    have c3: ¬k=3:=fun e=>b3 (a3.2 e)
    by_cases b4:(n:Int)=28
    ·rw [if_pos b4];simp only [decide_eq_true_eq];have:=a5 b4;omega
    ·rw [if_neg b4];simp only [beq_iff_eq];omega
end
section
open Go.Am
attribute [local simp, local push_cast] num boo str ints aV aTab yC aS aT aC jL yY aFk vT
theorem c_plain (e:Ex):ACall Tryz.prog 135 [aE e] [] (boo (isOp e.op&&zQ e)) []:=by
 refine zm mixed ttok Tryz.func135 Tryz.ntmps135 Tryz.results135 ?_
 generalize hr:boo (isOp e.op&&zQ e)=R
 have he:(ByteArray.mk #[]).toList=[]:=by simp [ByteArray.toList_eq]
 have he2:ByteArray.empty.toList=[]:=by simp [ByteArray.toList_eq]
 have hh:(([]:List UInt8)==[])=true:=rfl
 have h00:((0:Int)==0)=true:=rfl
 have hv1:zC ⟨1,e.num,ByteArray.empty⟩=(decide (e.num≥ -1000000000000)&&decide (e.num<=1000000000000)):=by simp [zC,he2]
 have hv2:zC ⟨2,e.num,ByteArray.empty⟩=((e.num==0) || (e.num==1)):=by simp [zC,he2]
 simp -implicitDefEqProofs only [argT,he,he2,hh,h00,↓zb,push_cast,simprocAttr,tte]
 refine za (fun k1=>?_) fun k1=>?_
 ·have hk:e.op=1:=by simpa using k1
  have g1:decide (e.op≥1)=true:=by rw [hk];decide
  have g2:decide (e.op<=28)=true:=by rw [hk];decide
  have hM:(isOp e.op&&zQ e)=((((((e.type==1 || e.type==2) || e.type==3)&&true)&&(e.num==0))&&(e.text.toList==[]))&&(e.col==0)):=by simp [zQ,isOp,okF,noT,noN,noX,noC,hk]
  refine za (fun a1=>?_) fun a1=>?_
  ·have ha:((e.type==1 || e.type==2) || e.type==3)=false:=by simp at a1 ⊢;omega
   exact zk trivial (by rw [<-hr,hM,ha];rfl) (by simp [ends])
  refine za (fun a2=>?_) fun a2=>?_
  ·have ha:((e.type==1 || e.type==2) || e.type==3)=false:=by simp at a2 ⊢;omega
   exact zk trivial (by rw [<-hr,hM,ha];rfl) (by simp [ends])
  have ha:((e.type==1 || e.type==2) || e.type==3)=true:=by simp at a1 a2 ⊢;omega
  rw [ha] at hM
  clear ha a1 a2 hk k1
  rw [g1,yg,g2,yg]
  repeat' first | (refine za (fun _=>?_) fun _=>?_) | exact zk trivial (by rw [<-hr,hM];simp only [*,Bool.true_and,Bool.and_true,Bool.false_and,Bool.and_false,boo]) (by simp [ends])
 refine za (fun k2=>?_) fun k2=>?_
 ·have hk:e.op=2:=by simpa using k2
  have g1:decide (e.op≥1)=true:=by rw [hk];decide
  have g2:decide (e.op<=28)=true:=by rw [hk];decide
  have hM:(isOp e.op&&zQ e)=(((((decide (e.num≥ -1000000000000)&&decide (e.num<=1000000000000))&&(e.type==0))&&true)&&(e.text.toList==[]))&&(e.col==0)):=by rw [<-hv1];simp [zQ,isOp,okF,noT,noN,noX,noC,hk]
  refine za (fun a1=>?_) fun a1=>?_
  ·have ha:decide (e.num≥ -1000000000000)=false:=by simp at a1 ⊢;omega
   exact zk trivial (by rw [<-hr,hM,ha];rfl) (by simp [ends])
  refine za (fun a2=>?_) fun a2=>?_
  ·have ha:decide (e.num≤1000000000000)=false:=by simp at a2 ⊢;omega
   exact zk trivial (by rw [<-hr,hM,ha,Bool.and_false];rfl) (by simp [ends])
  have ha:decide (e.num≥ -1000000000000)=true:=by simp at a1 ⊢;omega
  have ha2:decide (e.num<=1000000000000)=true:=by simp at a2 ⊢;omega
  rw [ha,ha2] at hM
  clear ha ha2 a1 a2 hk k1 k2 hv1 hv2
  rw [g1,yg,g2,yg]
  repeat' first | (refine za (fun _=>?_) fun _=>?_) | exact zk trivial (by rw [<-hr,hM];simp only [*,Bool.true_and,Bool.and_true,Bool.false_and,Bool.and_false,boo]) (by simp [ends])
 refine za (fun k3=>?_) fun k3=>?_
 ·have hk:e.op=3:=by simpa using k3
  have g1:decide (e.op≥1)=true:=by rw [hk];decide
  have g2:decide (e.op<=28)=true:=by rw [hk];decide
  have hM:(isOp e.op&&zQ e)=((((((e.num==0) || (e.num==1))&&(e.type==0))&&true)&&(e.text.toList==[]))&&(e.col==0)):=by rw [<-hv2];simp [zQ,isOp,okF,noT,noN,noX,noC,hk]
  have hT: ∀ha:((e.num==0) || (e.num==1))=true,(isOp e.op&&zQ e)=((((true&&(e.type==0))&&true)&&(e.text.toList==[]))&&(e.col==0)):=fun ha=>by rw [hM,ha]
  refine za (fun a1=>?_) fun a1=>?_
  ·refine za (fun a2=>?_) fun a2=>?_
   ·have ha:((e.num==0) || (e.num==1))=false:=by simp at a1 a2 ⊢;omega
    exact zk trivial (by rw [<-hr,hM,ha];rfl) (by simp [ends])
   ·replace hM:=hT (by simp at a2 ⊢;omega)
    clear hT a1 a2 hk k1 k2 k3 hv1 hv2
    rw [g1,yg,g2,yg]
    repeat' first | (refine za (fun _=>?_) fun _=>?_) | exact zk trivial (by rw [<-hr,hM];simp only [*,Bool.true_and,Bool.and_true,Bool.false_and,Bool.and_false,boo]) (by simp [ends])
  ·replace hM:=hT (by simp at a1 ⊢;omega)
   clear hT a1 hk k1 k2 k3 hv1 hv2
   rw [g1,yg,g2,yg]
   repeat' first | (refine za (fun _=>?_) fun _=>?_) | exact zk trivial (by rw [<-hr,hM];simp only [*,Bool.true_and,Bool.and_true,Bool.false_and,Bool.and_false,boo]) (by simp [ends])
 refine za (fun k4=>?_) fun k4=>?_
 ·have hk:e.op=4:=by simpa using k4
  have g1:decide (e.op≥1)=true:=by rw [hk];decide
  have g2:decide (e.op<=28)=true:=by rw [hk];decide
  have hM:(isOp e.op&&zQ e)=((((zC ⟨3,0,e.text⟩&&(e.type==0))&&(e.num==0))&&true)&&(e.col==0)):=by simp [zQ,isOp,okF,noT,noN,noX,noC,hk]
  refine zd [[0,0,0]] [] (jm ⟨3,0,e.text⟩) ?_
  simp -implicitDefEqProofs only [he,he2,hh,h00,↓zb,push_cast,simprocAttr,tte]
  refine za (fun a1=>?_) fun a1=>?_
  ·have ha:zC ⟨3,0,e.text⟩=false:=by simpa using a1
   exact zk trivial (by rw [<-hr,hM,ha];rfl) (by simp [ends])
  have ha:zC ⟨3,0,e.text⟩=true:=by simpa using a1
  rw [ha] at hM
  clear ha a1 hk k1 k2 k3 k4 hv1 hv2
  rw [g1,yg,g2,yg]
  repeat' first | (refine za (fun _=>?_) fun _=>?_) | exact zk trivial (by rw [<-hr,hM];simp only [*,Bool.true_and,Bool.and_true,Bool.false_and,Bool.and_false,boo]) (by simp [ends])
 refine za (fun k5=>?_) fun k5=>?_
 ·have hk:e.op=5:=by simpa using k5
  have g1:decide (e.op≥1)=true:=by rw [hk];decide
  have g2:decide (e.op<=28)=true:=by rw [hk];decide
  have hM:(isOp e.op&&zQ e)=((((true&&(e.type==0))&&(e.num==0))&&(e.text.toList==[]))&&true):=by simp [zQ,isOp,okF,noT,noN,noX,noC,hk]
  clear hk k1 k2 k3 k4 k5 hv1 hv2
  rw [g1,yg,g2,yg]
  repeat' first | (refine za (fun _=>?_) fun _=>?_) | exact zk trivial (by rw [<-hr,hM];simp only [*,Bool.true_and,Bool.and_true,Bool.false_and,Bool.and_false,boo]) (by simp [ends])
 have hk1: ¬e.op=1:=by simpa using k1
 have hk2: ¬e.op=2:=by simpa using k2
 have hk3: ¬e.op=3:=by simpa using k3
 have hk4: ¬e.op=4:=by simpa using k4
 have hk5: ¬e.op=5:=by simpa using k5
 have hM:(isOp e.op&&zQ e)=((((((decide (e.op≥1)&&decide (e.op<=28))&&true)&&(e.type==0))&&(e.num==0))&&(e.text.toList==[]))&&(e.col==0)):=by
  have:zQ e=((((true&&(e.type==0))&&(e.num==0))&&(e.text.toList==[]))&&(e.col==0)):=by simp [zQ,okF,noT,noN,noX,noC,hk1,hk2,hk3,hk4,hk5]
  rw [this,isOp];simp only [ge_iff_le,Bool.true_and,Bool.and_true,Bool.and_assoc]
 clear hk1 hk2 hk3 hk4 hk5 k1 k2 k3 k4 k5 hv1 hv2
 repeat' first | (refine za (fun _=>?_) fun _=>?_) | exact zk trivial (by rw [<-hr,hM];simp only [*,Bool.true_and,Bool.and_true,Bool.false_and,Bool.and_false,boo]) (by simp [ends])
end
section
open Go.Am
attribute [local simp, local push_cast] num boo str ints aV aTab yC aS aT aC jL yY aFk vT
def zK (op:Int):Bool:=((((op==6 || op==7) || op==8) || op==9) || op==10) || op==11
def zH (op:Int):Bool:=((op==22 || op==23) || op==24) || op==25
def zY (l:List Int) (v:Int):Bool:=l.all fun x=>x==v
def zq (ts:List Int) (e:Ex) (l:List Int):Int:=
 if e.op==1 then e.type else if e.op==2 then 1 else if e.op==3 then 2 else if e.op==4 then 3 else if e.op==5 then ts.getD e.col.toNat default
 else if zK e.op then (if zY l 1 then 1 else 0)
 else if e.op==12 then (if zY l 3 then 3 else 0)
 else if e.op==13 then (if zY l 3 then 1 else 0)
 else if e.op==21 then 2
 else if zH e.op then (if zY l 2 then 2 else 0)
 else if e.op==26 then (if (l.getD 0 default==2)&&(l.getD 1 default==l.getD 2 default) then l.getD 1 default else 0)
 else if e.op==27 then (if l.getD 0 default==l.getD 1 default then l.getD 0 default else 0)
 else (if zY l (l.getD 0 default) then 2 else 0)
theorem vW {b:Bool} {p q:Prop} (h:b=true) (x:p):wR b p q:=by subst h;exact yg _ _ ▸ x
theorem c_result (ts:List Int) (e:Ex) (l:List Int) (hl:l.length≤1000000000) (hc5:e.op=5→0≤e.col∧e.col<ts.length) (hc26:e.op=26→l.length=3) (hc27:e.op=27→l.length=2)
 (hE:isOp e.op=true->5<e.op->0<l.length) (ho:isOp e.op=true):ACall Tryz.prog 136 [ints ts,aE e,ints l] [] (num (zq ts e l)) []:=by
 refine zm mixed ttok Tryz.func136 Tryz.ntmps136 Tryz.results136 ?_
 generalize hr:num (zq ts e l)=R
 simp -implicitDefEqProofs only [argT,↓zb,push_cast,simprocAttr,tte]
 have hop:=hE ho
 refine za (fun h1=>?_) fun h1=>?_
 ·have hv:zq ts e l=e.type:=by simp only [zq,zK,zH,zY,h1,Bool.true_or,Bool.or_true,Bool.or_false,Bool.false_or,Bool.or_self,Bool.true_and,Bool.false_and,Bool.and_self,Bool.false_eq_true,if_true,if_false]
  exact zk trivial (by rw [<-hr,hv];rfl) (by simp [ends])
 refine za (fun h2=>?_) fun h2=>?_
 ·have hv:zq ts e l=1:=by simp only [zq,zK,zH,zY,h1,h2,Bool.true_or,Bool.or_true,Bool.or_false,Bool.false_or,Bool.or_self,Bool.true_and,Bool.false_and,Bool.and_self,Bool.false_eq_true,if_true,if_false]
  exact zk trivial (by rw [<-hr,hv];rfl) (by simp [ends])
 refine za (fun h3=>?_) fun h3=>?_
 ·have hv:zq ts e l=2:=by simp only [zq,zK,zH,zY,h1,h2,h3,Bool.true_or,Bool.or_true,Bool.or_false,Bool.false_or,Bool.or_self,Bool.true_and,Bool.false_and,Bool.and_self,Bool.false_eq_true,if_true,if_false]
  exact zk trivial (by rw [<-hr,hv];rfl) (by simp [ends])
 refine za (fun h4=>?_) fun h4=>?_
 ·have hv:zq ts e l=3:=by simp only [zq,zK,zH,zY,h1,h2,h3,h4,Bool.true_or,Bool.or_true,Bool.or_false,Bool.false_or,Bool.or_self,Bool.true_and,Bool.false_and,Bool.and_self,Bool.false_eq_true,if_true,if_false]
  exact zk trivial (by rw [<-hr,hv];rfl) (by simp [ends])
 refine za (fun h5=>?_) fun h5=>?_
 ·refine ⟨hc5 (by simpa using h5),?_⟩
  have hv:zq ts e l=ts.getD e.col.toNat default:=by simp only [zq,zK,zH,zY,h1,h2,h3,h4,h5,Bool.true_or,Bool.or_true,Bool.or_false,Bool.false_or,Bool.or_self,Bool.true_and,Bool.false_and,Bool.and_self,Bool.false_eq_true,if_true,if_false]
  exact zk trivial (by rw [<-hr,hv];rfl) (by simp [ends])
 refine za (fun h6=>?_) fun h6=>?_
 ·refine vW h6 ?_
  refine zd [[1],[0]] [] (uy l 1 hl) ?_
  simp -implicitDefEqProofs only [↓zb,push_cast,simprocAttr,tte]
  refine za (fun g=>?_) fun g=>?_
  ·have hv:zq ts e l=1:=by simp only [zq,zK,zH,zY,h1,h2,h3,h4,h5,h6,g,Bool.true_or,Bool.or_true,Bool.or_false,Bool.false_or,Bool.or_self,Bool.true_and,Bool.false_and,Bool.and_self,Bool.false_eq_true,if_true,if_false]
   exact zk trivial (by rw [<-hr,hv];rfl) (by simp [ends])
  ·have hv:zq ts e l=0:=by simp only [zq,zK,zH,zY,h1,h2,h3,h4,h5,h6,g,Bool.true_or,Bool.or_true,Bool.or_false,Bool.false_or,Bool.or_self,Bool.true_and,Bool.false_and,Bool.and_self,Bool.false_eq_true,if_true,if_false]
   exact zk trivial (by rw [<-hr,hv];rfl) (by simp [ends])
 refine za (fun h7=>?_) fun h7=>?_
 ·refine vW h7 ?_
  refine zd [[1],[0]] [] (uy l 1 hl) ?_
  simp -implicitDefEqProofs only [↓zb,push_cast,simprocAttr,tte]
  refine za (fun g=>?_) fun g=>?_
  ·have hv:zq ts e l=1:=by simp only [zq,zK,zH,zY,h1,h2,h3,h4,h5,h6,h7,g,Bool.true_or,Bool.or_true,Bool.or_false,Bool.false_or,Bool.or_self,Bool.true_and,Bool.false_and,Bool.and_self,Bool.false_eq_true,if_true,if_false]
   exact zk trivial (by rw [<-hr,hv];rfl) (by simp [ends])
  ·have hv:zq ts e l=0:=by simp only [zq,zK,zH,zY,h1,h2,h3,h4,h5,h6,h7,g,Bool.true_or,Bool.or_true,Bool.or_false,Bool.false_or,Bool.or_self,Bool.true_and,Bool.false_and,Bool.and_self,Bool.false_eq_true,if_true,if_false]
   exact zk trivial (by rw [<-hr,hv];rfl) (by simp [ends])
 refine za (fun h8=>?_) fun h8=>?_
 ·refine vW h8 ?_
  refine zd [[1],[0]] [] (uy l 1 hl) ?_
  simp -implicitDefEqProofs only [↓zb,push_cast,simprocAttr,tte]
  refine za (fun g=>?_) fun g=>?_
  ·have hv:zq ts e l=1:=by simp only [zq,zK,zH,zY,h1,h2,h3,h4,h5,h6,h7,h8,g,Bool.true_or,Bool.or_true,Bool.or_false,Bool.false_or,Bool.or_self,Bool.true_and,Bool.false_and,Bool.and_self,Bool.false_eq_true,if_true,if_false]
   exact zk trivial (by rw [<-hr,hv];rfl) (by simp [ends])
  ·have hv:zq ts e l=0:=by simp only [zq,zK,zH,zY,h1,h2,h3,h4,h5,h6,h7,h8,g,Bool.true_or,Bool.or_true,Bool.or_false,Bool.false_or,Bool.or_self,Bool.true_and,Bool.false_and,Bool.and_self,Bool.false_eq_true,if_true,if_false]
   exact zk trivial (by rw [<-hr,hv];rfl) (by simp [ends])
 refine za (fun h9=>?_) fun h9=>?_
 ·refine vW h9 ?_
  refine zd [[1],[0]] [] (uy l 1 hl) ?_
  simp -implicitDefEqProofs only [↓zb,push_cast,simprocAttr,tte]
  refine za (fun g=>?_) fun g=>?_
  ·have hv:zq ts e l=1:=by simp only [zq,zK,zH,zY,h1,h2,h3,h4,h5,h6,h7,h8,h9,g,Bool.true_or,Bool.or_true,Bool.or_false,Bool.false_or,Bool.or_self,Bool.true_and,Bool.false_and,Bool.and_self,Bool.false_eq_true,if_true,if_false]
   exact zk trivial (by rw [<-hr,hv];rfl) (by simp [ends])
  ·have hv:zq ts e l=0:=by simp only [zq,zK,zH,zY,h1,h2,h3,h4,h5,h6,h7,h8,h9,g,Bool.true_or,Bool.or_true,Bool.or_false,Bool.false_or,Bool.or_self,Bool.true_and,Bool.false_and,Bool.and_self,Bool.false_eq_true,if_true,if_false]
   exact zk trivial (by rw [<-hr,hv];rfl) (by simp [ends])
 refine za (fun h10=>?_) fun h10=>?_
 ·refine vW h10 ?_
  refine zd [[1],[0]] [] (uy l 1 hl) ?_
  simp -implicitDefEqProofs only [↓zb,push_cast,simprocAttr,tte]
  refine za (fun g=>?_) fun g=>?_
  ·have hv:zq ts e l=1:=by simp only [zq,zK,zH,zY,h1,h2,h3,h4,h5,h6,h7,h8,h9,h10,g,Bool.true_or,Bool.or_true,Bool.or_false,Bool.false_or,Bool.or_self,Bool.true_and,Bool.false_and,Bool.and_self,Bool.false_eq_true,if_true,if_false]
   exact zk trivial (by rw [<-hr,hv];rfl) (by simp [ends])
  ·have hv:zq ts e l=0:=by simp only [zq,zK,zH,zY,h1,h2,h3,h4,h5,h6,h7,h8,h9,h10,g,Bool.true_or,Bool.or_true,Bool.or_false,Bool.false_or,Bool.or_self,Bool.true_and,Bool.false_and,Bool.and_self,Bool.false_eq_true,if_true,if_false]
   exact zk trivial (by rw [<-hr,hv];rfl) (by simp [ends])
 refine za (fun h11=>?_) fun h11=>?_
 ·refine zd [[1],[0]] [] (uy l 1 hl) ?_
  simp -implicitDefEqProofs only [↓zb,push_cast,simprocAttr,tte]
  refine za (fun g=>?_) fun g=>?_
  ·have hv:zq ts e l=1:=by simp only [zq,zK,zH,zY,h1,h2,h3,h4,h5,h6,h7,h8,h9,h10,h11,g,Bool.true_or,Bool.or_true,Bool.or_false,Bool.false_or,Bool.or_self,Bool.true_and,Bool.false_and,Bool.and_self,Bool.false_eq_true,if_true,if_false]
   exact zk trivial (by rw [<-hr,hv];rfl) (by simp [ends])
  ·have hv:zq ts e l=0:=by simp only [zq,zK,zH,zY,h1,h2,h3,h4,h5,h6,h7,h8,h9,h10,h11,g,Bool.true_or,Bool.or_true,Bool.or_false,Bool.false_or,Bool.or_self,Bool.true_and,Bool.false_and,Bool.and_self,Bool.false_eq_true,if_true,if_false]
   exact zk trivial (by rw [<-hr,hv];rfl) (by simp [ends])
 refine za (fun h12=>?_) fun h12=>?_
 ·refine zd [[1],[0]] [] (uy l 3 hl) ?_
  simp -implicitDefEqProofs only [↓zb,push_cast,simprocAttr,tte]
  refine za (fun g=>?_) fun g=>?_
  ·have hv:zq ts e l=3:=by simp only [zq,zK,zH,zY,h1,h2,h3,h4,h5,h6,h7,h8,h9,h10,h11,h12,g,Bool.true_or,Bool.or_true,Bool.or_false,Bool.false_or,Bool.or_self,Bool.true_and,Bool.false_and,Bool.and_self,Bool.false_eq_true,if_true,if_false]
   exact zk trivial (by rw [<-hr,hv];rfl) (by simp [ends])
  ·have hv:zq ts e l=0:=by simp only [zq,zK,zH,zY,h1,h2,h3,h4,h5,h6,h7,h8,h9,h10,h11,h12,g,Bool.true_or,Bool.or_true,Bool.or_false,Bool.false_or,Bool.or_self,Bool.true_and,Bool.false_and,Bool.and_self,Bool.false_eq_true,if_true,if_false]
   exact zk trivial (by rw [<-hr,hv];rfl) (by simp [ends])
 refine za (fun h13=>?_) fun h13=>?_
 ·refine zd [[1],[0]] [] (uy l 3 hl) ?_
  simp -implicitDefEqProofs only [↓zb,push_cast,simprocAttr,tte]
  refine za (fun g=>?_) fun g=>?_
  ·have hv:zq ts e l=1:=by simp only [zq,zK,zH,zY,h1,h2,h3,h4,h5,h6,h7,h8,h9,h10,h11,h12,h13,g,Bool.true_or,Bool.or_true,Bool.or_false,Bool.false_or,Bool.or_self,Bool.true_and,Bool.false_and,Bool.and_self,Bool.false_eq_true,if_true,if_false]
   exact zk trivial (by rw [<-hr,hv];rfl) (by simp [ends])
  ·have hv:zq ts e l=0:=by simp only [zq,zK,zH,zY,h1,h2,h3,h4,h5,h6,h7,h8,h9,h10,h11,h12,h13,g,Bool.true_or,Bool.or_true,Bool.or_false,Bool.false_or,Bool.or_self,Bool.true_and,Bool.false_and,Bool.and_self,Bool.false_eq_true,if_true,if_false]
   exact zk trivial (by rw [<-hr,hv];rfl) (by simp [ends])
 refine za (fun h21=>?_) fun h21=>?_
 ·have hv:zq ts e l=2:=by simp only [zq,zK,zH,zY,h1,h2,h3,h4,h5,h6,h7,h8,h9,h10,h11,h12,h13,h21,Bool.true_or,Bool.or_true,Bool.or_false,Bool.false_or,Bool.or_self,Bool.true_and,Bool.false_and,Bool.and_self,Bool.false_eq_true,if_true,if_false]
  exact zk trivial (by rw [<-hr,hv];rfl) (by simp [ends])
 refine za (fun h22=>?_) fun h22=>?_
 ·refine vW h22 ?_
  refine zd [[1],[0]] [] (uy l 2 hl) ?_
  simp -implicitDefEqProofs only [↓zb,push_cast,simprocAttr,tte]
  refine za (fun g=>?_) fun g=>?_
  ·have hv:zq ts e l=2:=by simp only [zq,zK,zH,zY,h1,h2,h3,h4,h5,h6,h7,h8,h9,h10,h11,h12,h13,h21,h22,g,Bool.true_or,Bool.or_true,Bool.or_false,Bool.false_or,Bool.or_self,Bool.true_and,Bool.false_and,Bool.and_self,Bool.false_eq_true,if_true,if_false]
   exact zk trivial (by rw [<-hr,hv];rfl) (by simp [ends])
  ·have hv:zq ts e l=0:=by simp only [zq,zK,zH,zY,h1,h2,h3,h4,h5,h6,h7,h8,h9,h10,h11,h12,h13,h21,h22,g,Bool.true_or,Bool.or_true,Bool.or_false,Bool.false_or,Bool.or_self,Bool.true_and,Bool.false_and,Bool.and_self,Bool.false_eq_true,if_true,if_false]
   exact zk trivial (by rw [<-hr,hv];rfl) (by simp [ends])
 refine za (fun h23=>?_) fun h23=>?_
 ·refine vW h23 ?_
  refine zd [[1],[0]] [] (uy l 2 hl) ?_
  simp -implicitDefEqProofs only [↓zb,push_cast,simprocAttr,tte]
  refine za (fun g=>?_) fun g=>?_
  ·have hv:zq ts e l=2:=by simp only [zq,zK,zH,zY,h1,h2,h3,h4,h5,h6,h7,h8,h9,h10,h11,h12,h13,h21,h22,h23,g,Bool.true_or,Bool.or_true,Bool.or_false,Bool.false_or,Bool.or_self,Bool.true_and,Bool.false_and,Bool.and_self,Bool.false_eq_true,if_true,if_false]
   exact zk trivial (by rw [<-hr,hv];rfl) (by simp [ends])
  ·have hv:zq ts e l=0:=by simp only [zq,zK,zH,zY,h1,h2,h3,h4,h5,h6,h7,h8,h9,h10,h11,h12,h13,h21,h22,h23,g,Bool.true_or,Bool.or_true,Bool.or_false,Bool.false_or,Bool.or_self,Bool.true_and,Bool.false_and,Bool.and_self,Bool.false_eq_true,if_true,if_false]
   exact zk trivial (by rw [<-hr,hv];rfl) (by simp [ends])
 refine za (fun h24=>?_) fun h24=>?_
 ·refine vW h24 ?_
  refine zd [[1],[0]] [] (uy l 2 hl) ?_
  simp -implicitDefEqProofs only [↓zb,push_cast,simprocAttr,tte]
  refine za (fun g=>?_) fun g=>?_
  ·have hv:zq ts e l=2:=by simp only [zq,zK,zH,zY,h1,h2,h3,h4,h5,h6,h7,h8,h9,h10,h11,h12,h13,h21,h22,h23,h24,g,Bool.true_or,Bool.or_true,Bool.or_false,Bool.false_or,Bool.or_self,Bool.true_and,Bool.false_and,Bool.and_self,Bool.false_eq_true,if_true,if_false]
   exact zk trivial (by rw [<-hr,hv];rfl) (by simp [ends])
  ·have hv:zq ts e l=0:=by simp only [zq,zK,zH,zY,h1,h2,h3,h4,h5,h6,h7,h8,h9,h10,h11,h12,h13,h21,h22,h23,h24,g,Bool.true_or,Bool.or_true,Bool.or_false,Bool.false_or,Bool.or_self,Bool.true_and,Bool.false_and,Bool.and_self,Bool.false_eq_true,if_true,if_false]
   exact zk trivial (by rw [<-hr,hv];rfl) (by simp [ends])
 refine za (fun h25=>?_) fun h25=>?_
 ·refine zd [[1],[0]] [] (uy l 2 hl) ?_
  simp -implicitDefEqProofs only [↓zb,push_cast,simprocAttr,tte]
  refine za (fun g=>?_) fun g=>?_
  ·have hv:zq ts e l=2:=by simp only [zq,zK,zH,zY,h1,h2,h3,h4,h5,h6,h7,h8,h9,h10,h11,h12,h13,h21,h22,h23,h24,h25,g,Bool.true_or,Bool.or_true,Bool.or_false,Bool.false_or,Bool.or_self,Bool.true_and,Bool.false_and,Bool.and_self,Bool.false_eq_true,if_true,if_false]
   exact zk trivial (by rw [<-hr,hv];rfl) (by simp [ends])
  ·have hv:zq ts e l=0:=by simp only [zq,zK,zH,zY,h1,h2,h3,h4,h5,h6,h7,h8,h9,h10,h11,h12,h13,h21,h22,h23,h24,h25,g,Bool.true_or,Bool.or_true,Bool.or_false,Bool.false_or,Bool.or_self,Bool.true_and,Bool.false_and,Bool.and_self,Bool.false_eq_true,if_true,if_false]
   exact zk trivial (by rw [<-hr,hv];rfl) (by simp [ends])
 refine za (fun h26=>?_) fun h26=>?_
 ·have hlen:l.length=3:=hc26 (by simpa using h26)
  refine ⟨by omega,?_⟩
  refine za (fun a1=>?_) fun a1=>?_
  ·refine ⟨by omega,by omega,zh (by kernel_rfl),?_⟩
   refine za (fun a2=>?_) fun a2=>?_
   ·refine ⟨by omega,?_⟩
    have hv:zq ts e l=l.getD 1 default:=by simp only [zq,zK,zH,zY,h1,h2,h3,h4,h5,h6,h7,h8,h9,h10,h11,h12,h13,h21,h22,h23,h24,h25,h26,a1,a2,Bool.true_or,Bool.or_true,Bool.or_false,Bool.false_or,Bool.or_self,Bool.true_and,Bool.false_and,Bool.and_self,Bool.false_eq_true,if_true,if_false]
    exact zk trivial (by rw [<-hr,hv];rfl) (by simp [ends])
   ·have hv:zq ts e l=0:=by simp only [zq,zK,zH,zY,h1,h2,h3,h4,h5,h6,h7,h8,h9,h10,h11,h12,h13,h21,h22,h23,h24,h25,h26,a1,a2,Bool.true_or,Bool.or_true,Bool.or_false,Bool.false_or,Bool.or_self,Bool.true_and,Bool.false_and,Bool.and_self,Bool.false_eq_true,if_true,if_false]
    exact zk trivial (by rw [<-hr,hv];rfl) (by simp [ends])
  ·refine ⟨zh (by kernel_rfl),?_⟩
   have hv:zq ts e l=0:=by simp only [zq,zK,zH,zY,h1,h2,h3,h4,h5,h6,h7,h8,h9,h10,h11,h12,h13,h21,h22,h23,h24,h25,h26,a1,Bool.true_or,Bool.or_true,Bool.or_false,Bool.false_or,Bool.or_self,Bool.true_and,Bool.false_and,Bool.and_self,Bool.false_eq_true,if_true,if_false]
   exact zk trivial (by rw [<-hr,hv];rfl) (by simp [ends])
 refine za (fun h27=>?_) fun h27=>?_
 ·have hlen:l.length=2:=hc27 (by simpa using h27)
  refine ⟨by omega,by omega,zh (by kernel_rfl),?_⟩
  refine za (fun a1=>?_) fun a1=>?_
  ·refine ⟨by omega,?_⟩
   have hv:zq ts e l=l.getD 0 default:=by simp only [zq,zK,zH,zY,h1,h2,h3,h4,h5,h6,h7,h8,h9,h10,h11,h12,h13,h21,h22,h23,h24,h25,h26,h27,a1,Bool.true_or,Bool.or_true,Bool.or_false,Bool.false_or,Bool.or_self,Bool.true_and,Bool.false_and,Bool.and_self,Bool.false_eq_true,if_true,if_false]
   exact zk trivial (by rw [<-hr,hv];rfl) (by simp [ends])
  ·have hv:zq ts e l=0:=by simp only [zq,zK,zH,zY,h1,h2,h3,h4,h5,h6,h7,h8,h9,h10,h11,h12,h13,h21,h22,h23,h24,h25,h26,h27,a1,Bool.true_or,Bool.or_true,Bool.or_false,Bool.false_or,Bool.or_self,Bool.true_and,Bool.false_and,Bool.and_self,Bool.false_eq_true,if_true,if_false]
   exact zk trivial (by rw [<-hr,hv];rfl) (by simp [ends])
 have hgt:5<e.op:=by
  simp only [beq_eq_false_iff_ne,ne_eq] at h1 h2 h3 h4 h5
  simp only [isOp,Bool.and_eq_true,decide_eq_true_eq] at ho
  omega
 have hlen:=hE ho hgt
 refine ⟨by omega,?_⟩
 refine zd [[1],[0]] [] (uy l (l.getD 0 default) hl) ?_
 simp -implicitDefEqProofs only [↓zb,push_cast,simprocAttr,tte]
 refine za (fun g=>?_) fun g=>?_
 ·have hv:zq ts e l=2:=by simp only [zq,zK,zH,zY,h1,h2,h3,h4,h5,h6,h7,h8,h9,h10,h11,h12,h13,h21,h22,h23,h24,h25,h26,h27,g,Bool.true_or,Bool.or_true,Bool.or_false,Bool.false_or,Bool.or_self,Bool.true_and,Bool.false_and,Bool.and_self,Bool.false_eq_true,if_true,if_false]
  exact zk trivial (by rw [<-hr,hv];rfl) (by simp [ends])
 ·have hv:zq ts e l=0:=by simp only [zq,zK,zH,zY,h1,h2,h3,h4,h5,h6,h7,h8,h9,h10,h11,h12,h13,h21,h22,h23,h24,h25,h26,h27,g,Bool.true_or,Bool.or_true,Bool.or_false,Bool.false_or,Bool.or_self,Bool.true_and,Bool.false_and,Bool.and_self,Bool.false_eq_true,if_true,if_false]
  exact zk trivial (by rw [<-hr,hv];rfl) (by simp [ends])
end
section
open Go.Am
attribute [local simp, local push_cast] num boo str ints aV aTab yC aS aT aC jL yY aFk vT
def ownR (ts:List Int) (e:Ex) (l:List Int):Int×Int:=
 if !(isOp e.op&&zQ e) then (0,1)
 else if !yf e then (0,9)
 else if (e.op==5&&(decide (e.col<0) || decide (e.col≥ts.length))) then (0,3)
 else if (decide (zq ts e l<1) || decide (zq ts e l>3)) then (0,4)
 else (zq ts e l,0)
def isT (k:Int):Prop:=1<=k/\k<=3
theorem own_tab0: ∀n∈List.range 29,
 n=0\/(n=1\/n=5)/\(opTab.getD n default).types=0\/n=2/\(opTab.getD n default).types=0/\(opTab.getD n default).own=1\/n=3/\(opTab.getD n default).types=0/\(opTab.getD n default).own=2\/
 n=4/\(opTab.getD n default).types=0/\(opTab.getD n default).own=3\/(6<=n/\n<=11)/\(opTab.getD n default).types=1/\(opTab.getD n default).own=1\/n=12/\(opTab.getD n default).types=2/\(opTab.getD n default).own=3\/
 n=13/\(opTab.getD n default).types=2/\(opTab.getD n default).own=1\/n=21/\(opTab.getD n default).types=5/\(opTab.getD n default).own=2\/(22<=n/\n<=25)/\(opTab.getD n default).types=3/\(opTab.getD n default).own=2\/
 n=26/\(opTab.getD n default).types=6/\(opTab.getD n default).own=0\/n=27/\(opTab.getD n default).types=4/\(opTab.getD n default).own=0\/((14<=n/\n<=20)\/n=28)/\(opTab.getD n default).types=4/\(opTab.getD n default).own=2:=by decide
theorem okF_type {e:Ex} (h:zQ e=true) (h1:e.op=1):1<=e.type/\e.type<=3:=by
 simp [zQ,okF,h1] at h;omega
theorem own_eq (ts:List Int) (e:Ex) (l:List Int) (hl:l.length=e.kids.length) (hk: ∀x∈l,isT x):ownM ts e l=ownR ts e l:=by
 unfold ownM ownR
 by_cases ho':isOp e.op=false
 ·simp [ho']
 have ho:isOp e.op=true:=by simpa using ho'
 by_cases hc':zQ e=false
 ·simp [hc']
 have hc:zQ e=true:=by simpa using hc'
 by_cases hn':yf e=false
 ·simp [hn',ho,hc]
 have hn:yf e=true:=by simpa using hn'
 by_cases h3:(e.op==5&&(decide (e.col<0) || decide (e.col≥ts.length)))=true
 ·rw [ho,hc,hn,h3];rfl
 have h3':(e.op==5&&(decide (e.col<0) || decide (e.col≥ts.length)))=false:=by simpa using h3
 rw [ho,hc,hn,h3']
 simp only [Bool.not_true,Bool.or_self,Bool.false_eq_true,if_false,Bool.and_self]
 have hcount:=vD hn
 obtain ⟨n,n1,n2,n3⟩:=op_cases ho
 have hf:ye e.op=opTab.getD n default:=by rw [ye,ho,if_pos rfl,opAt,n3,Int.toNat_natCast]
 have ht:=own_tab0 n (by simpa using n1)
 have hkt:=kids_tab0 n (by simpa using n1)
 rw [hf] at hcount ⊢
 generalize hO:opTab.getD n default=o at ht hkt hcount
 obtain ⟨w,kn,ty,ow⟩:=o
 simp only at ht hkt hcount
 unfold fitM zq
 rcases ht with h | ⟨h,ht⟩ | ⟨h,ht,ht2⟩ | ⟨h,ht,ht2⟩ | ⟨h,ht,ht2⟩ | ⟨h,ht,ht2⟩ | ⟨h,ht,ht2⟩ | ⟨h,ht,ht2⟩ | ⟨h,ht,ht2⟩ | ⟨h,ht,ht2⟩ | ⟨h,ht,ht2⟩ | ⟨h,ht,ht2⟩ | ⟨h,ht,ht2⟩
 ·omega
 ·rcases h with h | h
  ·have he:e.op=1:=by omega
   have:=okF_type hc he
   have h4: ¬e.type<1:=by omega
   have h5: ¬3<e.type:=by omega
   simp [he,ht,h4,h5]
  ·have he:e.op=5:=by omega
   simp only [he,ht]
   generalize ts.getD e.col.toNat default=v
   simp [vN]
   split<;>split<;>(try rfl)<;>(exfalso;omega)
 ·have he:e.op=2:=by omega
  simp [he,ht,ht2]
 ·have he:e.op=3:=by omega
  simp [he,ht,ht2]
 ·have he:e.op=4:=by omega
  simp [he,ht,ht2]
 ·have hno:zK e.op=true:=by simp [zK];omega
  have e1: ¬e.op=1:=by omega
  have e2: ¬e.op=2:=by omega
  have e3: ¬e.op=3:=by omega
  have e4: ¬e.op=4:=by omega
  have e5: ¬e.op=5:=by omega
  by_cases ha:(l.all fun x=>x==1)=true
  ·simp [e1,e2,e3,e4,e5,hno,ht,ht2,ha,zY]
  ·have ha':(l.all fun x=>x==1)=false:=by simpa using ha
   simp [e1,e2,e3,e4,e5,hno,ht,ht2,ha',zY]
 ·have he:e.op=12:=by omega
  by_cases ha:(l.all fun x=>x==3)=true
  ·simp [he,zK,ht,ht2,ha,zY]
  ·have ha':(l.all fun x=>x==3)=false:=by simpa using ha
   simp [he,zK,ht,ht2,ha',zY]
 ·have he:e.op=13:=by omega
  by_cases ha:(l.all fun x=>x==3)=true
  ·simp [he,zK,ht,ht2,ha,zY]
  ·have ha':(l.all fun x=>x==3)=false:=by simpa using ha
   simp [he,zK,ht,ht2,ha',zY]
 ·have he:e.op=21:=by omega
  simp [he,zK,ht,ht2]
 ·have hno:zK e.op=false:=by simp [zK];omega
  have htr:zH e.op=true:=by simp [zH];omega
  have e1: ¬e.op=1:=by omega
  have e2: ¬e.op=2:=by omega
  have e3: ¬e.op=3:=by omega
  have e4: ¬e.op=4:=by omega
  have e5: ¬e.op=5:=by omega
  have e12: ¬e.op=12:=by omega
  have e13: ¬e.op=13:=by omega
  have e21: ¬e.op=21:=by omega
  by_cases ha:(l.all fun x=>x==2)=true
  ·simp [e1,e2,e3,e4,e5,e12,e13,e21,hno,htr,ht,ht2,ha,zY]
  ·have ha':(l.all fun x=>x==2)=false:=by simpa using ha
   simp [e1,e2,e3,e4,e5,e12,e13,e21,hno,htr,ht,ht2,ha',zY]
 ·have he:e.op=26:=by omega
  have hl3:l.length=3:=by omega
  obtain ⟨a,b,c,rfl⟩: ∃a b c,l=[a,b,c]:=by
   match l,hl3 with
   | [a,b,c],_=>exact ⟨a,b,c,rfl⟩
  have hb:isT b:=hk b (by simp)
  have h4: ¬b<1:=by have:=hb.1;omega
  have h5: ¬3<b:=by have:=hb.2;omega
  simp only [he,ht,ht2]
  by_cases q1:a=2<;>by_cases q2:b=c<;>simp [zK,zH,q1,q2]<;>(have hb1:=hb.1;have hb2:=hb.2;omega)
 ·have he:e.op=27:=by omega
  have hl2:l.length=2:=by omega
  obtain ⟨a,b,rfl⟩: ∃a b,l=[a,b]:=by
   match l,hl2 with
   | [a,b],_=>exact ⟨a,b,rfl⟩
  have hb:isT a:=hk a (by simp)
  have h4: ¬a<1:=by have:=hb.1;omega
  have h5: ¬3<a:=by have:=hb.2;omega
  simp only [he,ht,ht2]
  by_cases q2:a=b
  ·subst q2;simp [zK,zH,h4,h5]
  ·have q3: ¬b=a:=fun e=>q2 e.symm
   simp [zK,zH,q2,q3]
 ·have hno:zK e.op=false:=by simp [zK];omega
  have htr:zH e.op=false:=by simp [zH];omega
  have e1: ¬e.op=1:=by omega
  have e2: ¬e.op=2:=by omega
  have e3: ¬e.op=3:=by omega
  have e4: ¬e.op=4:=by omega
  have e5: ¬e.op=5:=by omega
  have e12: ¬e.op=12:=by omega
  have e13: ¬e.op=13:=by omega
  have e21: ¬e.op=21:=by omega
  have e26: ¬e.op=26:=by omega
  have e27: ¬e.op=27:=by omega
  by_cases ha:(l.all fun x=>x==l.getD 0 default)=true
  ·simp only [zY,ha]
   simp [e1,e2,e3,e4,e5,e12,e13,e21,e26,e27,hno,htr,ht,ht2]
  ·have ha':(l.all fun x=>x==l.getD 0 default)=false:=by simpa using ha
   simp only [zY,ha']
   simp [e1,e2,e3,e4,e5,e12,e13,e21,e26,e27,hno,htr,ht,ht2]
theorem own_isT (ts:List Int) (e:Ex) (l:List Int) (h:(ownR ts e l).2=0):isT (ownR ts e l).1:=by
 unfold ownR at h ⊢
 split at h
 ·cases h
 ·split at h
  ·cases h
  ·split at h
   ·cases h
   ·split at h
    ·cases h
    ·rename_i h4
     rw [if_neg (by assumption),if_neg (by assumption),if_neg (by assumption),if_neg (by assumption)]
     simp only [Bool.or_eq_true,decide_eq_true_eq,not_or] at h4
     exact ⟨by omega,by omega⟩
theorem typK_isT {ts:List Int} {e:Ex} {rs:List (Int×Int)} (h:(typK (ownR ts) e rs).2=0):isT (typK (ownR ts) e rs).1:=by
 unfold typK at h ⊢
 split
 ·rename_i h1;rw [if_pos h1] at h;exact own_isT _ _ _ h
 ·rename_i h1;rw [if_neg h1] at h;exact absurd h h1
theorem typ_isT {ts:List Int} {e:Ex} (h:(typG (ownR ts) e).2=0):isT (typG (ownR ts) e).1:=by
 rw [vI] at h ⊢;exact typK_isT h
theorem typ_eq (ts:List Int): ∀e:Ex,typG (ownM ts) e=typG (ownR ts) e:=xj (p:=fun e=>typG (ownM ts) e=typG (ownR ts) e) fun e ih=>by
 rw [vI,vI]
 have hm:e.kids.map (typG (ownM ts))=e.kids.map (typG (ownR ts)):=List.map_congr_left fun k hk=>ih k hk
 rw [hm,typK,typK]
 split
 ·rename_i h
  refine own_eq ts e _ (by simp) fun x hx=>?_
  simp only [List.map_map,List.mem_map,Function.comp] at hx
  obtain ⟨k,hk,rfl⟩:=hx
  have:=ferr_zero h _ (List.mem_map.2 ⟨k,hk,rfl⟩)
  exact typ_isT this
 ·rfl
theorem c_typed (ts:List Int) (hts:ts.length<=1000000000): ∀e:Ex,Ok12 e->ACall Tryz.prog 113 [ints ts,aE e] [] (yY (typG (ownR ts) e)) []:=
 xj (p:=fun e=>Ok12 e->ACall Tryz.prog 113 [ints ts,aE e] [] (yY (typG (ownR ts) e)) []) fun e ih ho=>by
 refine zm mixed ttok Tryz.func113 Tryz.ntmps113 Tryz.results113 ?_
 generalize hr:yY (typG (ownR ts) e)=R
 have hl:=ho.kids
 simp -implicitDefEqProofs only [argT,↓zb,push_cast,simprocAttr,tte]
 refine yl mixed ttok 7 [0,3] [3] (by simp only [wH,ends,push_cast,simprocAttr];rfl) (by simp only [wI,ym,ends,push_cast,simprocAttr];rfl) e.kids.length (fun n=> ∀i,i<n->(typG (ownR ts) (e.kids.getD i default)).2=0) (fun n=>[(6,.vec 500 n)]) (fun n=>[(500,.vec 3 1 (zg rI (wC (ownR ts) e n)) 0)]) (fun i h=>absurd h (Nat.not_lt_zero _)) ?_ ?_
 ·exact (Weak.nilL 6 500 3 1 rfl rfl).trans (Weak.keepL (by simp [cst,ends]) (by simp [cst,wC,ends]) (by simp [cst,ends]))
 intro I hI n hn hi
 have hl2:=ku (ownR ts) e n hn
 simp -implicitDefEqProofs only [cst,↓zb,push_cast,simprocAttr,tte]
 refine za (fun h=>?_) fun h=>?_
 ·simp only [decide_eq_true_eq] at h
  have h':n<e.kids.length:=by omega
  have hw:=zw h' (by omega)
  have hs:=tysTo_succ (ownR ts) e n h'
  refine ⟨(by first | omega | trivial | (refine ⟨?_,?_⟩<;>first | omega | trivial | (refine ⟨?_,?_⟩<;>first | omega | trivial | (refine ⟨?_,?_⟩<;>first | omega | trivial | rfl)))),?_⟩
  refine zd [[1],[0,0,0,0,0,6]] [] (ih _ (zx h') (ho.kid (zx h'))) ?_
  simp -implicitDefEqProofs only [yY,↓zb,push_cast,simprocAttr,tte]
  refine za (fun g=>?_) fun g=>?_
  ·have g':(typG (ownR ts) (e.kids.getD n default)).2≠0:=by simpa using g
   have hf:ferr Prod.snd (e.kids.map (typG (ownR ts)))=(typG (ownR ts) (e.kids.getD n default)).2:=by rw [jf];exact ferr_at _ _ n h' hi g'
   have hE:typG (ownR ts) e=(0,(typG (ownR ts) (e.kids.getD n default)).2):=by rw [vI (ownR ts) e,typK,hf,if_neg g']
   exact zF trivial (by rw [<-hr,hE];rfl) (by simp [ends])
  ·have g':(typG (ownR ts) (e.kids.getD n default)).2=0:=by simpa using g
   refine ⟨⟨hl2.symm,by rw [hl2];omega⟩,?_⟩
   exact yt hI n rfl h' (fun i h2=>if h3:i=n then by rw [h3];exact g' else hi i (by omega)) (by simp [hw,hs,hl2,zy,ends]) (by simp [hw,hs,hl2,zy,ends]) (by simp [hw,hs,hl2,zy,ends]) (by simp [hw,hs,hl2,zy,ends])
 simp only [decide_eq_false_iff_not] at h
 obtain rfl:n=e.kids.length:=by omega
 clear hI
 have hf:ferr Prod.snd (e.kids.map (typG (ownR ts)))=0:=by rw [jf];exact j8 _ _ hi
 have hT:wC (ownR ts) e e.kids.length=(e.kids.map (typG (ownR ts))).map Prod.fst:=by rw [wC,List.take_length,List.map_map];rfl
 have hM:typG (ownR ts) e=ownR ts e (wC (ownR ts) e e.kids.length):=by rw [vI (ownR ts) e,typK,if_pos hf,hT]
 rw [hM] at hr
 generalize wC (ownR ts) e e.kids.length=l at hl2 hr ⊢
 refine zd [[0,0,0,0,0,6]] [] (c_plain e) ?_
 simp -implicitDefEqProofs only [↓zb,push_cast,simprocAttr,tte]
 refine za (fun h1=>?_) fun h1=>?_
 ·have hv:ownR ts e l=(0,1):=if_pos h1
  exact zF trivial (by rw [<-hr,hv];rfl) (by simp [ends])
 have ho2:isOp e.op=true/\zQ e=true:=by simpa using h1
 have hv1:ownR ts e l=if !yf e then (0,9)
  else if (e.op==5&&(decide (e.col<0) || decide (e.col≥ts.length))) then (0,3)
  else if (decide (zq ts e l<1) || decide (zq ts e l>3)) then (0,4) else (zq ts e l,0):=if_neg (by rw [h1];decide)
 have hkc:=uC ho2.1
 refine ⟨hl2.symm,?_⟩
 refine zd [[0],[0]] [] (c_rkids e.op e.kids.length) ?_
 simp -implicitDefEqProofs only [↓zb,push_cast,simprocAttr,tte]
 rw [hkc]
 refine za (fun h2=>?_) fun h2=>?_
 ·have hv:ownR ts e l=(0,9):=by rw [hv1,if_pos h2]
  exact zF trivial (by rw [<-hr,hv];rfl) (by simp [ends])
 have hcnt:yf e=true:=by simpa using h2
 have hv2:ownR ts e l=if (e.op==5&&(decide (e.col<0) || decide (e.col≥ts.length))) then (0,3)
  else if (decide (zq ts e l<1) || decide (zq ts e l>3)) then (0,4) else (zq ts e l,0):=by rw [hv1,if_neg (by rw [h2];decide)]
 have hcount:=vD hcnt
 obtain ⟨n,n1,n2,n3⟩:=op_cases ho2.1
 have hf:ye e.op=opTab.getD n default:=by rw [ye,ho2.1,if_pos rfl,opAt,n3,Int.toNat_natCast]
 have hkt:=kids_tab0 n (by simpa using n1)
 rw [hf] at hcount
 generalize hO:opTab.getD n default=o at hkt hcount
 have c26:e.op=26->l.length=3:=by omega
 have c27:e.op=27->l.length=2:=by omega
 have cE:isOp e.op=true->5<e.op->0<l.length:=by omega
 refine za (fun h3=>?_) fun h3=>?_
 ·have h3':e.op=5:=by simpa using h3
  refine za (fun h4=>?_) fun h4=>?_
  ·have hv:ownR ts e l=(0,3):=by rw [hv2,h3,h4];rfl
   exact zF trivial (by rw [<-hr,hv];rfl) (by simp [ends])
  refine za (fun h5=>?_) fun h5=>?_
  ·have hv:ownR ts e l=(0,3):=by rw [hv2,h3,h4,h5];rfl
   exact zF trivial (by rw [<-hr,hv];rfl) (by simp [ends])
  have hv3:ownR ts e l=if (decide (zq ts e l<1) || decide (zq ts e l>3)) then (0,4) else (zq ts e l,0):=by rw [hv2,h3,h4,h5];rfl
  have hcol:0<=e.col/\e.col<ts.length:=by simp only [decide_eq_false_iff_not] at h4 h5;omega
  refine zd [[1],[0,0,0,0,0,6],[1]] [] (c_result ts e l (by omega) (fun _=>hcol) c26 c27 cE ho2.1) ?_
  simp -implicitDefEqProofs only [↓zb,push_cast,simprocAttr,tte]
  refine za (fun r1=>?_) fun r1=>?_
  ·have hv:ownR ts e l=(0,4):=by rw [hv3,r1];rfl
   exact zF trivial (by rw [<-hr,hv];rfl) (by simp [ends])
  refine za (fun r2=>?_) fun r2=>?_
  ·have hv:ownR ts e l=(0,4):=by rw [hv3,r2,Bool.or_true];rfl
   exact zF trivial (by rw [<-hr,hv];rfl) (by simp [ends])
  have hv:ownR ts e l=(zq ts e l,0):=by rw [hv3,r1,r2];rfl
  exact zF trivial (by rw [<-hr,hv];rfl) (by simp [ends])
 have h3': ¬e.op=5:=by simpa using h3
 have hv3:ownR ts e l=if (decide (zq ts e l<1) || decide (zq ts e l>3)) then (0,4) else (zq ts e l,0):=by rw [hv2,h3];rfl
 refine zd [[1],[0,0,0,0,0,6],[1]] [] (c_result ts e l (by omega) (fun h=>absurd h h3') c26 c27 cE ho2.1) ?_
 simp -implicitDefEqProofs only [↓zb,push_cast,simprocAttr,tte]
 refine za (fun r1=>?_) fun r1=>?_
 ·have hv:ownR ts e l=(0,4):=by rw [hv3,r1];rfl
  exact zF trivial (by rw [<-hr,hv];rfl) (by simp [ends])
 refine za (fun r2=>?_) fun r2=>?_
 ·have hv:ownR ts e l=(0,4):=by rw [hv3,r2,Bool.or_true];rfl
  exact zF trivial (by rw [<-hr,hv];rfl) (by simp [ends])
 have hv:ownR ts e l=(zq ts e l,0):=by rw [hv3,r1,r2];rfl
 exact zF trivial (by rw [<-hr,hv];rfl) (by simp [ends])
theorem c_rtype (ts:List Int) (hts:ts.length<=1000000000) (e:Ex) (ho:Ok12 e):ACall Tryz.prog 88 [ints ts,aE e] [] (yY (xD (ownM ts) e)) []:=by
 refine zm mixed ttok Tryz.func88 Tryz.ntmps88 Tryz.results88 ?_
 generalize hr:yY (xD (ownM ts) e)=R
 simp -implicitDefEqProofs only [argT,↓zb,push_cast,simprocAttr,tte]
 refine zd [[0,0,0,0,0,6]] [] (c_size02 e ho) ?_
 simp -implicitDefEqProofs only [↓zb,push_cast,simprocAttr,tte]
 refine za (fun h=>?_) fun h=>?_
 ·have hv:xD (ownM ts) e=(0,8):=if_pos (of_decide_eq_true h)
  exact zF trivial (by rw [<-hr,hv];rfl) (by simp [ends])
 have h': ¬we e>200:=of_decide_eq_false h
 refine zd [[0,0,0,0,0,6]] [] (c_rdepth e ho) ?_
 simp -implicitDefEqProofs only [↓zb,push_cast,simprocAttr,tte]
 refine za (fun g=>?_) fun g=>?_
 ·have hv:xD (ownM ts) e=(0,13):=by rw [xD,if_neg h',if_pos (of_decide_eq_true g)]
  exact zF trivial (by rw [<-hr,hv];rfl) (by simp [ends])
 have g': ¬xk e>24:=of_decide_eq_false g
 refine zd [[1],[0,0,0,0,0,6]] [] (c_typed ts hts e ho) ?_
 have hv:xD (ownM ts) e=typG (ownR ts) e:=by rw [xD,if_neg h',if_neg g',typ_eq]
 simp -implicitDefEqProofs only [yY,↓zb,push_cast,simprocAttr,tte]
 exact zF trivial (by rw [<-hr,hv];rfl) (by simp [ends])
end
end Go.Proofs.YtiagabnddihchaaGreatDoor
