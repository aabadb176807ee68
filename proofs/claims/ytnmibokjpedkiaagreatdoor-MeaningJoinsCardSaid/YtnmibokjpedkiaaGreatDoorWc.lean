/- Joins of two tables: a proof over an abstract machine of our own (part Wc) -/
import Derived.Test.YtnmibokjpedkiaaGreatDoorWb
set_option maxRecDepth 100000
set_option maxHeartbeats 4000000
set_option linter.all false
namespace Go.Proofs.YtnmibokjpedkiaaGreatDoor
section
open Go.Am
attribute [local simp, local push_cast] num boo str ints aV aTab zv aS aT aC zR zL aFk vT rTab rRow
def badV (c:Col) (v:Val):Bool:= !zJ v || ((v.kind !=0)&&(v.kind !=c.type))
def yK (t:Tbl) (r:Row):Int:=if (r.length:Int)≠t.columns.length then 9 else if (List.range r.length).all (fun j=> !badV (t.columns.getD j default) (r.getD j default)) then 0 else 4
def tabF (t:Tbl) (l:Tab2):Int:=if (l.length:Int)>200 then 8 else ferr (yK t) l
def uf (s:Sch) (i:Inst) (n:Nat):Int:=tabF (s.getD n default) (i.getD n default)
def x6 (s:Sch) (i:Inst):Int:=
 if xr s≠0 then xr s else if (i.length:Int)≠s.length then 9 else ve (uf s i) s.length
structure SmallI (i:Inst):Prop where
 len:i.length<=1000
 tab: ∀l∈i,l.length<=1000
 row: ∀l∈i,∀r∈l,r.length<=1000
theorem eqN_of {a b:Nat} (h:((a:Int) !=(b:Int))=false): ¬(a:Int)≠b:=by have:=ky h;omega
theorem neN_of {a b:Nat} (h:((a:Int) !=(b:Int))=true):(a:Int)≠b:=by have:=ne_nat h;omega
theorem c_fits (s:Sch) (inst:Inst) (hs:SmallS s) (hi:SmallI inst):ACall Tryz.prog 17 [aS s,zv inst] [] (num (x6 s inst)) []:=by
 refine zn mixed ttok Tryz.func17 Tryz.ntmps17 Tryz.results17 ?_
 generalize hr:num (x6 s inst)=R
 have hl:=hs.len
 have hli:=hi.len
 simp -implicitDefEqProofs only [argT,↓zb,push_cast,simprocAttr,tte]
 refine ze [[6]] [] (c_svalid s hs) ?_
 simp -implicitDefEqProofs only [↓zb,push_cast,simprocAttr,tte]
 refine za (fun h0=>?_) fun h0=>?_
 ·have h0':xr s≠0:=by simpa using h0
  exact zi trivial (by rw [<-hr,x6,if_pos h0'];rfl) (by simp [ends])
 have h0': ¬xr s≠0:=by simpa using h0
 refine za (fun h1=>?_) fun h1=>?_
 ·exact zi trivial (by rw [<-hr,x6,if_neg h0',if_pos (neN_of h1)];rfl) (by simp [ends])
 have hlen:=ky h1
 have hM:x6 s inst=ve (uf s inst) s.length:=by rw [x6,if_neg h0',if_neg (eqN_of h1)]
 refine zo mixed ttok 27 [2,3,25,26] [2,3] (by simp only [zC,ends,push_cast,simprocAttr];rfl) (by simp only [zH,zp,ends,push_cast,simprocAttr];rfl) s.length (fun n=> ∀i,i<n->uf s inst i=0) (fun _=>[]) (fun _=>[]) (fun i h=>absurd h (Nat.not_lt_zero _)) ?_ ?_
 ·exact Weak.keepL (by simp [cst,ends]) (by simp [cst,ends]) (by simp [cst,ends])
 intro I hI n hn hii
 simp -implicitDefEqProofs only [cst,↓zb,push_cast,simprocAttr,tte]
 refine za (fun h=>?_) fun h=>?_
 ·simp only [decide_eq_true_eq] at h
  have h':n<s.length:=by omega
  have hw:=zj h' (by omega)
  have hE:uf s inst n≠0->num (uf s inst n)=R:=fun hne=>by
   have:=jq h' hii hne
   rw [<-hr,hM,this]
  have hzero:uf s inst n=0-> ∀i,i<n+1->uf s inst i=0:=fun hz i h2=>if h3:i=n then by rw [h3];exact hz else hii i (by omega)
  have hgt:s.getD n default∈s:=zk h'
  have hgl:inst.getD n default∈inst:=zk (by omega)
  have hll:=hi.tab _ hgl
  have hlr:=hi.row _ hgl
  have hTc:=(hs.tab _ hgt).cols
  unfold uf at hE hzero
  generalize hT:s.getD n default=T at hE hTc hzero
  generalize hL:inst.getD n default=L at hE hll hlr hzero
  refine ⟨(by first | omega | trivial | (refine ⟨?_,?_⟩<;>first | omega | trivial | (refine ⟨?_,?_⟩<;>first | omega | trivial | (refine ⟨?_,?_⟩<;>first | omega | trivial | rfl)))),by omega,?_⟩
  refine za (fun h2=>?_) fun h2=>?_
  ·have hc:tabF T L=8:=if_pos (of_decide_eq_true h2)
   exact zi trivial (by rw [<-hE (by rw [hc];decide),hc];rfl) (by simp [ends])
  have hcT:tabF T L=ferr (yK T) L:=if_neg (of_decide_eq_false h2)
  rw [hcT] at hE hzero
  refine ⟨by omega,?_⟩
  refine zo mixed ttok 45 [2,3,7,25,26,27,43,44] [2,3,7] (by simp only [zC,ends,push_cast,simprocAttr];rfl) (by simp only [zH,zp,ends,push_cast,simprocAttr];rfl) L.length (fun k=> ∀i,i<k->yK T (L.getD i default)=0) (fun _=>[]) (fun _=>[]) (fun i h=>absurd h (Nat.not_lt_zero _)) ?_ ?_
  ·exact Weak.keepL (by simp [cst,ends]) (by simp [cst,ends]) (by simp [cst,ends])
  intro J hJ k hk hki
  simp -implicitDefEqProofs only [cst,↓zb,push_cast,simprocAttr,tte]
  refine za (fun g=>?_) fun g=>?_
  ·simp only [decide_eq_true_eq] at g
   have k':k<L.length:=by omega
   have hwk:=zj k' (by omega)
   have hrm:L.getD k default∈L:=zk k'
   have hrl:=hlr _ hrm
   have hE2:yK T (L.getD k default)≠0->num (yK T (L.getD k default))=R:=fun hne=>by
    have:=xK (yK T) L k k' hki hne
    rw [<-hE (by rw [this];exact hne),this]
   have hzero2:yK T (L.getD k default)=0-> ∀i,i<k+1->yK T (L.getD i default)=0:=fun hz i h2=>if h3:i=k then by rw [h3];exact hz else hki i (by omega)
   generalize hW:L.getD k default=W at hE2 hzero2 hrl
   refine ⟨(by first | omega | trivial | (refine ⟨?_,?_⟩<;>first | omega | trivial | (refine ⟨?_,?_⟩<;>first | omega | trivial | (refine ⟨?_,?_⟩<;>first | omega | trivial | rfl)))),?_⟩
   refine za (fun h3=>?_) fun h3=>?_
   ·have hc:yK T W=9:=if_pos (neN_of h3)
    exact zi trivial (by rw [<-hE2 (by rw [hc];decide),hc];rfl) (by simp [ends])
   have hWl:=ky h3
   have hcW:yK T W=if (List.range W.length).all (fun j=> !badV (T.columns.getD j default) (W.getD j default)) then 0 else 4:=if_neg (eqN_of h3)
   refine zo mixed ttok 57 [2,3,7,25,26,27,43,44,45,55,56] [2,3,7] (by simp only [zC,ends,push_cast,simprocAttr];rfl) (by simp only [zH,zp,ends,push_cast,simprocAttr];rfl) W.length (fun j=> ∀i,i<j->(!badV (T.columns.getD i default) (W.getD i default))=true) (fun _=>[]) (fun _=>[]) (fun i h=>absurd h (Nat.not_lt_zero _)) ?_ ?_
   ·exact Weak.keepL (by simp [cst,ends]) (by simp [cst,ends]) (by simp [cst,ends])
   intro Q hQ j hj hji
   simp -implicitDefEqProofs only [cst,↓zb,push_cast,simprocAttr,tte]
   refine za (fun q=>?_) fun q=>?_
   ·simp only [decide_eq_true_eq] at q
    have j':j<W.length:=by omega
    have hwj:=zj j' (by omega)
    refine ⟨(by first | omega | trivial | (refine ⟨?_,?_⟩<;>first | omega | trivial | (refine ⟨?_,?_⟩<;>first | omega | trivial | (refine ⟨?_,?_⟩<;>first | omega | trivial | rfl)))),?_⟩
    have hbad:badV (T.columns.getD j default) (W.getD j default)=true->num 4=R:=fun hb=>by
     have:yK T W=4:=by rw [hcW,xG (n:=j) j' (by rw [hb];rfl)];rfl
     rw [<-hE2 (by rw [this];decide),this]
    have hgood:badV (T.columns.getD j default) (W.getD j default)=false-> ∀i,i<j+1->(!badV (T.columns.getD i default) (W.getD i default))=true:=fun hb i h2=>if h3:i=j then by rw [h3,hb];rfl else hji i (by omega)
    refine ze [[0,0,0]] [] (um (W.getD j default)) ?_
    simp -implicitDefEqProofs only [↓zb,push_cast,simprocAttr,tte]
    refine za (fun v1=>?_) fun v1=>?_
    ·refine ⟨zf (by kernel_rfl),?_⟩
     exact zi trivial (hbad (by rw [badV,v1,Bool.true_or])) (by simp [ends])
    refine za (fun v2=>?_) fun v2=>?_
    ·refine ⟨by omega,zf (by kernel_rfl),?_⟩
     refine za (fun v3=>?_) fun v3=>?_
     ·exact zi trivial (hbad (by rw [badV,v2,v3];simp)) (by simp [ends])
     ·exact zq hQ j rfl j' (hgood (by rw [badV,v1,v3];simp)) (by simp [hwj,ends]) (by simp [hwj,ends]) (by simp [hwj,ends]) (by simp [hwj,ends])
    ·refine ⟨zf (by kernel_rfl),?_⟩
     exact zq hQ j rfl j' (hgood (by rw [badV,v1,v2];simp)) (by simp [hwj,ends]) (by simp [hwj,ends]) (by simp [hwj,ends]) (by simp [hwj,ends])
   ·simp only [decide_eq_false_iff_not] at q
    obtain rfl:j=W.length:=by omega
    have hz:yK T W=0:=by rw [hcW,all_range.2 hji];rfl
    exact zq hJ k rfl k' (hzero2 hz) (by simp [hwk,ends]) (by simp [hwk,ends]) (by simp [hwk,ends]) (by simp [hwk,ends])
  ·simp only [decide_eq_false_iff_not] at g
   obtain rfl:k=L.length:=by omega
   exact zq hI n rfl h' (hzero (yT (yK T) L hki)) (by simp [hw,ends]) (by simp [hw,ends]) (by simp [hw,ends]) (by simp [hw,ends])
 ·simp only [decide_eq_false_iff_not] at h
  obtain rfl:n=s.length:=by omega
  exact zi trivial (by rw [<-hr,hM,vr hii];rfl) (by simp [ends])
end
section
open Go.Am
attribute [local simp, local push_cast] num boo str ints aV aTab zv aS aT aC zR zL aFk vT
theorem jv (l:List Int) (v:Int) (hl:l.length≤1000000000):ACall Tryz.prog 237 [ints l,num v] [] (boo (l.all fun x=>x==v)) []:=by
 refine zn mixed ttok Tryz.func237 Tryz.ntmps237 Tryz.results237 ?_
 generalize hr:boo (l.all fun x=>x==v)=R
 simp -implicitDefEqProofs only [argT,↓zb,push_cast,simprocAttr,tte]
 refine zo mixed ttok 5 [0,1] [] (by simp only [zC,ends,push_cast,simprocAttr];rfl) (by simp only [zH,zp,ends,push_cast,simprocAttr];rfl) l.length (fun n=> ∀i,i<n->(l.getD i default==v)=true) (fun _=>[]) (fun _=>[]) (fun i h=>absurd h (Nat.not_lt_zero _)) ?_ ?_
 ·exact Weak.keepL (by simp [cst,ends]) (by simp [cst,ends]) (by simp [cst,ends])
 intro I hI n hn hi
 simp -implicitDefEqProofs only [cst,↓zb,push_cast,simprocAttr,tte]
 refine za (fun h=>?_) fun h=>?_
 ·simp only [decide_eq_true_eq] at h
  have h':n<l.length:=by omega
  have hw:=zj h' (by omega)
  refine ⟨(by first | omega | trivial | (refine ⟨?_,?_⟩<;>first | omega | trivial | (refine ⟨?_,?_⟩<;>first | omega | trivial | (refine ⟨?_,?_⟩<;>first | omega | trivial | rfl)))),?_⟩
  refine za (fun g=>?_) fun g=>?_
  ·have:(l.all fun x=>x==v)=false:=by
    rw [List.all_eq_false];exact ⟨_,zk h',by simpa using g⟩
   exact zi trivial (by rw [<-hr,this];rfl) (by simp [ends])
  ·have g':(l.getD n default==v)=true:=by simpa using g
   exact zq hI n rfl h' (fun i h2=>if h3:i=n then by rw [h3];exact g' else hi i (by omega)) (by simp [hw,ends]) (by simp [hw,ends]) (by simp [hw,ends]) (by simp [hw,ends])
 ·simp only [decide_eq_false_iff_not] at h
  obtain rfl:n=l.length:=by omega
  have:(l.all fun x=>x==v)=true:=by
   rw [List.all_eq_true];intro x hx
   obtain ⟨i,h1,rfl⟩:=u5 hx
   exact hi i h1
  exact zi trivial (by rw [<-hr,this];rfl) (by simp [ends])
def yk (op n:Int):Bool:=
 if op<=5 then n==0 else if (((op==11 || op==13) || op==21) || op==24) || op==25 then n==1
 else if op==26 then n==3 else if op==28 then decide (n≥2) else n==2
theorem c_rkids (op n:Int):ACall Tryz.prog 132 [num op,num n] [] (boo (yk op n)) []:=by
 refine zn mixed ttok Tryz.func132 Tryz.ntmps132 Tryz.results132 ?_
 generalize hr:boo (yk op n)=R
 simp -implicitDefEqProofs only [argT,↓zb,push_cast,simprocAttr,tte]
 refine za (fun h1=>?_) fun h1=>?_
 ·exact zi trivial (by rw [<-hr,yk,if_pos (of_decide_eq_true h1)];rfl) (by simp [ends])
 have hk:yk op n=if (((op==11 || op==13) || op==21) || op==24) || op==25 then n==1 else if op==26 then n==3 else if op==28 then decide (n≥2) else n==2:=if_neg (of_decide_eq_false h1)
 repeat' first
  | exact zi trivial (by rw [<-hr,hk];simp only [*,Bool.true_or,Bool.or_true,Bool.or_false,Bool.false_or,Bool.false_eq_true,if_true,if_false,boo]) (by simp [ends])
  | (refine za (fun _=>?_) fun _=>?_)
theorem op_cases {op:Int} (h:isOp op=true): ∃n:Nat,n<29/\1<=n/\op=n:=by
 simp only [isOp,Bool.and_eq_true,decide_eq_true_eq] at h
 exact ⟨op.toNat,by omega,by omega,by omega⟩
set_option synthInstance.maxSize 4000 in
set_option synthInstance.maxHeartbeats 400000 in
theorem kids_tab0: ∀n∈List.range 29,n=0\/(n=1\/n=2\/n=3\/n=4\/n=5)/\(opTab.getD n default).kids=0\/(n=11\/n=13\/n=21\/n=24\/n=25)/\(opTab.getD n default).kids=1\/
 n=26/\(opTab.getD n default).kids=3\/n=28/\(opTab.getD n default).kids=2\/
 (n=6\/n=7\/n=8\/n=9\/n=10\/n=12\/n=14\/n=15\/n=16\/n=17\/n=18\/n=19\/n=20\/n=22\/n=23\/n=27)/\(opTab.getD n default).kids=2:=by decide
theorem kids_tab (n:Nat) (h1:n<29) (h2:1<=n):(((n:Int)<=5 ↔ (opTab.getD n default).kids=0)/\(((((n:Int)=11\/(n:Int)=13)\/(n:Int)=21)\/(n:Int)=24)\/(n:Int)=25 ↔ (opTab.getD n default).kids=1)/\
 ((n:Int)=26 ↔ (opTab.getD n default).kids=3)/\((opTab.getD n default).kids=0\/(opTab.getD n default).kids=1\/(opTab.getD n default).kids=2\/(opTab.getD n default).kids=3)/\
 ((n:Int)=28->(opTab.getD n default).kids=2)):=by
 have:=kids_tab0 n (by simpa using h1)
 generalize (opTab.getD n default).kids=k at this
 omega
theorem jE {e:Ex} (h:isOp e.op=true):yk e.op e.kids.length=yA e:=by
 obtain ⟨n,h1,h2,h3⟩:=op_cases h
 have hf:(y9 e.op).kids=(opTab.getD n default).kids:=by rw [y9,h,if_pos rfl,opAt,h3,Int.toNat_natCast]
 obtain ⟨a1,a2,a3,a4,a5⟩:=kids_tab n h1 h2
 rw [yA,h,hf,Bool.true_and,yk,h3]
 generalize (opTab.getD n default).kids=k at a1 a2 a3 a4 a5
 generalize e.kids.length=m
 rw [Bool.eq_iff_iff]
 simp only [Bool.or_eq_true,Bool.and_eq_true,beq_iff_eq,decide_eq_true_eq]
 by_cases b1:(n:Int)<=5
 ·rw [if_pos b1];simp only [beq_iff_eq];have:=a1.1 b1;omega
 ·rw [if_neg b1]
  by_cases b2:((((n:Int)=11\/(n:Int)=13)\/(n:Int)=21)\/(n:Int)=24)\/(n:Int)=25
  ·rw [if_pos b2];simp only [beq_iff_eq];have:=a2.1 b2;omega
  ·rw [if_neg b2]
   by_cases b3:(n:Int)=26
   ·rw [if_pos b3];simp only [beq_iff_eq];have:=a3.1 b3;omega
   ·rw [if_neg b3]
    have c1: ¬k=0:=fun e=>b1 (a1.2 e)
    have c2: ¬k=1:=fun e=>b2 (a2.2 e)
    have c3: ¬k=3:=fun e=>b3 (a3.2 e)
    by_cases b4:(n:Int)=28
    ·rw [if_pos b4];simp only [decide_eq_true_eq];have:=a5 b4;omega
    ·rw [if_neg b4];simp only [beq_iff_eq];omega
end
section
open Go.Am
attribute [local simp, local push_cast] num boo str ints aV aTab zv aS aT aC zR zL aFk vT
theorem c_plain (e:Ex):ACall Tryz.prog 219 [aE e] [] (boo (isOp e.op&&yd e)) []:=by
 refine zn mixed ttok Tryz.func219 Tryz.ntmps219 Tryz.results219 ?_
 generalize hr:boo (isOp e.op&&yd e)=R
 have he:(ByteArray.mk #[]).toList=[]:=by simp [ByteArray.toList_eq]
 have he2:ByteArray.empty.toList=[]:=by simp [ByteArray.toList_eq]
 have hh:(([]:List UInt8)==[])=true:=rfl
 have h00:((0:Int)==0)=true:=rfl
 have hv1:zJ ⟨1,e.num,ByteArray.empty⟩=(decide (e.num≥ -1000000000000)&&decide (e.num<=1000000000000)):=by simp [zJ,he2]
 have hv2:zJ ⟨2,e.num,ByteArray.empty⟩=((e.num==0) || (e.num==1)):=by simp [zJ,he2]
 simp -implicitDefEqProofs only [argT,he,he2,hh,h00,↓zb,push_cast,simprocAttr,tte]
 refine za (fun k1=>?_) fun k1=>?_
 ·have hk:e.op=1:=by simpa using k1
  have g1:decide (e.op≥1)=true:=by rw [hk];decide
  have g2:decide (e.op<=28)=true:=by rw [hk];decide
  have hM:(isOp e.op&&yd e)=((((((e.type==1 || e.type==2) || e.type==3)&&true)&&(e.num==0))&&(e.text.toList==[]))&&(e.col==0)):=by simp [yd,isOp,okF,noT,noN,noX,noC,hk]
  refine za (fun a1=>?_) fun a1=>?_
  ·have ha:((e.type==1 || e.type==2) || e.type==3)=false:=by simp at a1 ⊢;omega
   exact zi trivial (by rw [<-hr,hM,ha];rfl) (by simp [ends])
  refine za (fun a2=>?_) fun a2=>?_
  ·have ha:((e.type==1 || e.type==2) || e.type==3)=false:=by simp at a2 ⊢;omega
   exact zi trivial (by rw [<-hr,hM,ha];rfl) (by simp [ends])
  have ha:((e.type==1 || e.type==2) || e.type==3)=true:=by simp at a1 a2 ⊢;omega
  rw [ha] at hM
  clear ha a1 a2 hk k1
  rw [g1,yn,g2,yn]
  repeat' first | (refine za (fun _=>?_) fun _=>?_) | exact zi trivial (by rw [<-hr,hM];simp only [*,Bool.true_and,Bool.and_true,Bool.false_and,Bool.and_false,boo]) (by simp [ends])
 refine za (fun k2=>?_) fun k2=>?_
 ·have hk:e.op=2:=by simpa using k2
  have g1:decide (e.op≥1)=true:=by rw [hk];decide
  have g2:decide (e.op<=28)=true:=by rw [hk];decide
  have hM:(isOp e.op&&yd e)=(((((decide (e.num≥ -1000000000000)&&decide (e.num<=1000000000000))&&(e.type==0))&&true)&&(e.text.toList==[]))&&(e.col==0)):=by rw [<-hv1];simp [yd,isOp,okF,noT,noN,noX,noC,hk]
  refine za (fun a1=>?_) fun a1=>?_
  ·have ha:decide (e.num≥ -1000000000000)=false:=by simp at a1 ⊢;omega
   exact zi trivial (by rw [<-hr,hM,ha];rfl) (by simp [ends])
  refine za (fun a2=>?_) fun a2=>?_
  ·have ha:decide (e.num≤1000000000000)=false:=by simp at a2 ⊢;omega
   exact zi trivial (by rw [<-hr,hM,ha,Bool.and_false];rfl) (by simp [ends])
  have ha:decide (e.num≥ -1000000000000)=true:=by simp at a1 ⊢;omega
  have ha2:decide (e.num<=1000000000000)=true:=by simp at a2 ⊢;omega
  rw [ha,ha2] at hM
  clear ha ha2 a1 a2 hk k1 k2 hv1 hv2
  rw [g1,yn,g2,yn]
  repeat' first | (refine za (fun _=>?_) fun _=>?_) | exact zi trivial (by rw [<-hr,hM];simp only [*,Bool.true_and,Bool.and_true,Bool.false_and,Bool.and_false,boo]) (by simp [ends])
 refine za (fun k3=>?_) fun k3=>?_
 ·have hk:e.op=3:=by simpa using k3
  have g1:decide (e.op≥1)=true:=by rw [hk];decide
  have g2:decide (e.op<=28)=true:=by rw [hk];decide
  have hM:(isOp e.op&&yd e)=((((((e.num==0) || (e.num==1))&&(e.type==0))&&true)&&(e.text.toList==[]))&&(e.col==0)):=by rw [<-hv2];simp [yd,isOp,okF,noT,noN,noX,noC,hk]
  have hT: ∀ha:((e.num==0) || (e.num==1))=true,(isOp e.op&&yd e)=((((true&&(e.type==0))&&true)&&(e.text.toList==[]))&&(e.col==0)):=fun ha=>by rw [hM,ha]
  refine za (fun a1=>?_) fun a1=>?_
  ·refine za (fun a2=>?_) fun a2=>?_
   ·have ha:((e.num==0) || (e.num==1))=false:=by simp at a1 a2 ⊢;omega
    exact zi trivial (by rw [<-hr,hM,ha];rfl) (by simp [ends])
   ·replace hM:=hT (by simp at a2 ⊢;omega)
    clear hT a1 a2 hk k1 k2 k3 hv1 hv2
    rw [g1,yn,g2,yn]
    repeat' first | (refine za (fun _=>?_) fun _=>?_) | exact zi trivial (by rw [<-hr,hM];simp only [*,Bool.true_and,Bool.and_true,Bool.false_and,Bool.and_false,boo]) (by simp [ends])
  ·replace hM:=hT (by simp at a1 ⊢;omega)
   clear hT a1 hk k1 k2 k3 hv1 hv2
   rw [g1,yn,g2,yn]
   repeat' first | (refine za (fun _=>?_) fun _=>?_) | exact zi trivial (by rw [<-hr,hM];simp only [*,Bool.true_and,Bool.and_true,Bool.false_and,Bool.and_false,boo]) (by simp [ends])
 refine za (fun k4=>?_) fun k4=>?_
 ·have hk:e.op=4:=by simpa using k4
  have g1:decide (e.op≥1)=true:=by rw [hk];decide
  have g2:decide (e.op<=28)=true:=by rw [hk];decide
  have hM:(isOp e.op&&yd e)=((((zJ ⟨3,0,e.text⟩&&(e.type==0))&&(e.num==0))&&true)&&(e.col==0)):=by simp [yd,isOp,okF,noT,noN,noX,noC,hk]
  refine ze [[0,0,0]] [] (kG ⟨3,0,e.text⟩) ?_
  simp -implicitDefEqProofs only [he,he2,hh,h00,↓zb,push_cast,simprocAttr,tte]
  refine za (fun a1=>?_) fun a1=>?_
  ·have ha:zJ ⟨3,0,e.text⟩=false:=by simpa using a1
   exact zi trivial (by rw [<-hr,hM,ha];rfl) (by simp [ends])
  have ha:zJ ⟨3,0,e.text⟩=true:=by simpa using a1
  rw [ha] at hM
  clear ha a1 hk k1 k2 k3 k4 hv1 hv2
  rw [g1,yn,g2,yn]
  repeat' first | (refine za (fun _=>?_) fun _=>?_) | exact zi trivial (by rw [<-hr,hM];simp only [*,Bool.true_and,Bool.and_true,Bool.false_and,Bool.and_false,boo]) (by simp [ends])
 refine za (fun k5=>?_) fun k5=>?_
 ·have hk:e.op=5:=by simpa using k5
  have g1:decide (e.op≥1)=true:=by rw [hk];decide
  have g2:decide (e.op<=28)=true:=by rw [hk];decide
  have hM:(isOp e.op&&yd e)=((((true&&(e.type==0))&&(e.num==0))&&(e.text.toList==[]))&&true):=by simp [yd,isOp,okF,noT,noN,noX,noC,hk]
  clear hk k1 k2 k3 k4 k5 hv1 hv2
  rw [g1,yn,g2,yn]
  repeat' first | (refine za (fun _=>?_) fun _=>?_) | exact zi trivial (by rw [<-hr,hM];simp only [*,Bool.true_and,Bool.and_true,Bool.false_and,Bool.and_false,boo]) (by simp [ends])
 have hk1: ¬e.op=1:=by simpa using k1
 have hk2: ¬e.op=2:=by simpa using k2
 have hk3: ¬e.op=3:=by simpa using k3
 have hk4: ¬e.op=4:=by simpa using k4
 have hk5: ¬e.op=5:=by simpa using k5
 have hM:(isOp e.op&&yd e)=((((((decide (e.op≥1)&&decide (e.op<=28))&&true)&&(e.type==0))&&(e.num==0))&&(e.text.toList==[]))&&(e.col==0)):=by
  have:yd e=((((true&&(e.type==0))&&(e.num==0))&&(e.text.toList==[]))&&(e.col==0)):=by simp [yd,okF,noT,noN,noX,noC,hk1,hk2,hk3,hk4,hk5]
  rw [this,isOp];simp only [ge_iff_le,Bool.true_and,Bool.and_true,Bool.and_assoc]
 clear hk1 hk2 hk3 hk4 hk5 k1 k2 k3 k4 k5 hv1 hv2
 repeat' first | (refine za (fun _=>?_) fun _=>?_) | exact zi trivial (by rw [<-hr,hM];simp only [*,Bool.true_and,Bool.and_true,Bool.false_and,Bool.and_false,boo]) (by simp [ends])
end
section
open Go.Am
attribute [local simp, local push_cast] num boo str ints aV aTab zv aS aT aC zR zL aFk vT
def zO (op:Int):Bool:=((((op==6 || op==7) || op==8) || op==9) || op==10) || op==11
def zK (op:Int):Bool:=((op==22 || op==23) || op==24) || op==25
def ye (l:List Int) (v:Int):Bool:=l.all fun x=>x==v
def zr (ts:List Int) (e:Ex) (l:List Int):Int:=
 if e.op==1 then e.type else if e.op==2 then 1 else if e.op==3 then 2 else if e.op==4 then 3 else if e.op==5 then ts.getD e.col.toNat default
 else if zO e.op then (if ye l 1 then 1 else 0)
 else if e.op==12 then (if ye l 3 then 3 else 0)
 else if e.op==13 then (if ye l 3 then 1 else 0)
 else if e.op==21 then 2
 else if zK e.op then (if ye l 2 then 2 else 0)
 else if e.op==26 then (if (l.getD 0 default==2)&&(l.getD 1 default==l.getD 2 default) then l.getD 1 default else 0)
 else if e.op==27 then (if l.getD 0 default==l.getD 1 default then l.getD 0 default else 0)
 else (if ye l (l.getD 0 default) then 2 else 0)
theorem uT {b:Bool} {p q:Prop} (h:b=true) (x:p):vi b p q:=by subst h;exact yn _ _ ▸ x
theorem c_result (ts:List Int) (e:Ex) (l:List Int) (hl:l.length≤1000000000) (hc5:e.op=5→0≤e.col∧e.col<ts.length) (hc26:e.op=26→l.length=3) (hc27:e.op=27→l.length=2)
 (hE:isOp e.op=true->5<e.op->0<l.length) (ho:isOp e.op=true):ACall Tryz.prog 220 [ints ts,aE e,ints l] [] (num (zr ts e l)) []:=by
 refine zn mixed ttok Tryz.func220 Tryz.ntmps220 Tryz.results220 ?_
 generalize hr:num (zr ts e l)=R
 simp -implicitDefEqProofs only [argT,↓zb,push_cast,simprocAttr,tte]
 have hop:=hE ho
 refine za (fun h1=>?_) fun h1=>?_
 ·have hv:zr ts e l=e.type:=by simp only [zr,zO,zK,ye,h1,Bool.true_or,Bool.or_true,Bool.or_false,Bool.false_or,Bool.or_self,Bool.true_and,Bool.false_and,Bool.and_self,Bool.false_eq_true,if_true,if_false]
  exact zi trivial (by rw [<-hr,hv];rfl) (by simp [ends])
 refine za (fun h2=>?_) fun h2=>?_
 ·have hv:zr ts e l=1:=by simp only [zr,zO,zK,ye,h1,h2,Bool.true_or,Bool.or_true,Bool.or_false,Bool.false_or,Bool.or_self,Bool.true_and,Bool.false_and,Bool.and_self,Bool.false_eq_true,if_true,if_false]
  exact zi trivial (by rw [<-hr,hv];rfl) (by simp [ends])
 refine za (fun h3=>?_) fun h3=>?_
 ·have hv:zr ts e l=2:=by simp only [zr,zO,zK,ye,h1,h2,h3,Bool.true_or,Bool.or_true,Bool.or_false,Bool.false_or,Bool.or_self,Bool.true_and,Bool.false_and,Bool.and_self,Bool.false_eq_true,if_true,if_false]
  exact zi trivial (by rw [<-hr,hv];rfl) (by simp [ends])
 refine za (fun h4=>?_) fun h4=>?_
 ·have hv:zr ts e l=3:=by simp only [zr,zO,zK,ye,h1,h2,h3,h4,Bool.true_or,Bool.or_true,Bool.or_false,Bool.false_or,Bool.or_self,Bool.true_and,Bool.false_and,Bool.and_self,Bool.false_eq_true,if_true,if_false]
  exact zi trivial (by rw [<-hr,hv];rfl) (by simp [ends])
 refine za (fun h5=>?_) fun h5=>?_
 ·refine ⟨hc5 (by simpa using h5),?_⟩
  have hv:zr ts e l=ts.getD e.col.toNat default:=by simp only [zr,zO,zK,ye,h1,h2,h3,h4,h5,Bool.true_or,Bool.or_true,Bool.or_false,Bool.false_or,Bool.or_self,Bool.true_and,Bool.false_and,Bool.and_self,Bool.false_eq_true,if_true,if_false]
  exact zi trivial (by rw [<-hr,hv];rfl) (by simp [ends])
 refine za (fun h6=>?_) fun h6=>?_
 ·refine uT h6 ?_
  refine ze [[1],[0]] [] (jv l 1 hl) ?_
  simp -implicitDefEqProofs only [↓zb,push_cast,simprocAttr,tte]
  refine za (fun g=>?_) fun g=>?_
  ·have hv:zr ts e l=1:=by simp only [zr,zO,zK,ye,h1,h2,h3,h4,h5,h6,g,Bool.true_or,Bool.or_true,Bool.or_false,Bool.false_or,Bool.or_self,Bool.true_and,Bool.false_and,Bool.and_self,Bool.false_eq_true,if_true,if_false]
   exact zi trivial (by rw [<-hr,hv];rfl) (by simp [ends])
  ·have hv:zr ts e l=0:=by simp only [zr,zO,zK,ye,h1,h2,h3,h4,h5,h6,g,Bool.true_or,Bool.or_true,Bool.or_false,Bool.false_or,Bool.or_self,Bool.true_and,Bool.false_and,Bool.and_self,Bool.false_eq_true,if_true,if_false]
   exact zi trivial (by rw [<-hr,hv];rfl) (by simp [ends])
 refine za (fun h7=>?_) fun h7=>?_
 ·refine uT h7 ?_
  refine ze [[1],[0]] [] (jv l 1 hl) ?_
  simp -implicitDefEqProofs only [↓zb,push_cast,simprocAttr,tte]
  refine za (fun g=>?_) fun g=>?_
  ·have hv:zr ts e l=1:=by simp only [zr,zO,zK,ye,h1,h2,h3,h4,h5,h6,h7,g,Bool.true_or,Bool.or_true,Bool.or_false,Bool.false_or,Bool.or_self,Bool.true_and,Bool.false_and,Bool.and_self,Bool.false_eq_true,if_true,if_false]
   exact zi trivial (by rw [<-hr,hv];rfl) (by simp [ends])
  ·have hv:zr ts e l=0:=by simp only [zr,zO,zK,ye,h1,h2,h3,h4,h5,h6,h7,g,Bool.true_or,Bool.or_true,Bool.or_false,Bool.false_or,Bool.or_self,Bool.true_and,Bool.false_and,Bool.and_self,Bool.false_eq_true,if_true,if_false]
   exact zi trivial (by rw [<-hr,hv];rfl) (by simp [ends])
 refine za (fun h8=>?_) fun h8=>?_
 ·refine uT h8 ?_
  refine ze [[1],[0]] [] (jv l 1 hl) ?_
  simp -implicitDefEqProofs only [↓zb,push_cast,simprocAttr,tte]
  refine za (fun g=>?_) fun g=>?_
  ·have hv:zr ts e l=1:=by simp only [zr,zO,zK,ye,h1,h2,h3,h4,h5,h6,h7,h8,g,Bool.true_or,Bool.or_true,Bool.or_false,Bool.false_or,Bool.or_self,Bool.true_and,Bool.false_and,Bool.and_self,Bool.false_eq_true,if_true,if_false]
   exact zi trivial (by rw [<-hr,hv];rfl) (by simp [ends])
  ·have hv:zr ts e l=0:=by simp only [zr,zO,zK,ye,h1,h2,h3,h4,h5,h6,h7,h8,g,Bool.true_or,Bool.or_true,Bool.or_false,Bool.false_or,Bool.or_self,Bool.true_and,Bool.false_and,Bool.and_self,Bool.false_eq_true,if_true,if_false]
   exact zi trivial (by rw [<-hr,hv];rfl) (by simp [ends])
 refine za (fun h9=>?_) fun h9=>?_
 ·refine uT h9 ?_
  refine ze [[1],[0]] [] (jv l 1 hl) ?_
  simp -implicitDefEqProofs only [↓zb,push_cast,simprocAttr,tte]
  refine za (fun g=>?_) fun g=>?_
  ·have hv:zr ts e l=1:=by simp only [zr,zO,zK,ye,h1,h2,h3,h4,h5,h6,h7,h8,h9,g,Bool.true_or,Bool.or_true,Bool.or_false,Bool.false_or,Bool.or_self,Bool.true_and,Bool.false_and,Bool.and_self,Bool.false_eq_true,if_true,if_false]
   exact zi trivial (by rw [<-hr,hv];rfl) (by simp [ends])
  ·have hv:zr ts e l=0:=by simp only [zr,zO,zK,ye,h1,h2,h3,h4,h5,h6,h7,h8,h9,g,Bool.true_or,Bool.or_true,Bool.or_false,Bool.false_or,Bool.or_self,Bool.true_and,Bool.false_and,Bool.and_self,Bool.false_eq_true,if_true,if_false]
   exact zi trivial (by rw [<-hr,hv];rfl) (by simp [ends])
 refine za (fun h10=>?_) fun h10=>?_
 ·refine uT h10 ?_
  refine ze [[1],[0]] [] (jv l 1 hl) ?_
  simp -implicitDefEqProofs only [↓zb,push_cast,simprocAttr,tte]
  refine za (fun g=>?_) fun g=>?_
  ·have hv:zr ts e l=1:=by simp only [zr,zO,zK,ye,h1,h2,h3,h4,h5,h6,h7,h8,h9,h10,g,Bool.true_or,Bool.or_true,Bool.or_false,Bool.false_or,Bool.or_self,Bool.true_and,Bool.false_and,Bool.and_self,Bool.false_eq_true,if_true,if_false]
   exact zi trivial (by rw [<-hr,hv];rfl) (by simp [ends])
  ·have hv:zr ts e l=0:=by simp only [zr,zO,zK,ye,h1,h2,h3,h4,h5,h6,h7,h8,h9,h10,g,Bool.true_or,Bool.or_true,Bool.or_false,Bool.false_or,Bool.or_self,Bool.true_and,Bool.false_and,Bool.and_self,Bool.false_eq_true,if_true,if_false]
   exact zi trivial (by rw [<-hr,hv];rfl) (by simp [ends])
 refine za (fun h11=>?_) fun h11=>?_
 ·refine ze [[1],[0]] [] (jv l 1 hl) ?_
  simp -implicitDefEqProofs only [↓zb,push_cast,simprocAttr,tte]
  refine za (fun g=>?_) fun g=>?_
  ·have hv:zr ts e l=1:=by simp only [zr,zO,zK,ye,h1,h2,h3,h4,h5,h6,h7,h8,h9,h10,h11,g,Bool.true_or,Bool.or_true,Bool.or_false,Bool.false_or,Bool.or_self,Bool.true_and,Bool.false_and,Bool.and_self,Bool.false_eq_true,if_true,if_false]
   exact zi trivial (by rw [<-hr,hv];rfl) (by simp [ends])
  ·have hv:zr ts e l=0:=by simp only [zr,zO,zK,ye,h1,h2,h3,h4,h5,h6,h7,h8,h9,h10,h11,g,Bool.true_or,Bool.or_true,Bool.or_false,Bool.false_or,Bool.or_self,Bool.true_and,Bool.false_and,Bool.and_self,Bool.false_eq_true,if_true,if_false]
   exact zi trivial (by rw [<-hr,hv];rfl) (by simp [ends])
 refine za (fun h12=>?_) fun h12=>?_
 ·refine ze [[1],[0]] [] (jv l 3 hl) ?_
  simp -implicitDefEqProofs only [↓zb,push_cast,simprocAttr,tte]
  refine za (fun g=>?_) fun g=>?_
  ·have hv:zr ts e l=3:=by simp only [zr,zO,zK,ye,h1,h2,h3,h4,h5,h6,h7,h8,h9,h10,h11,h12,g,Bool.true_or,Bool.or_true,Bool.or_false,Bool.false_or,Bool.or_self,Bool.true_and,Bool.false_and,Bool.and_self,Bool.false_eq_true,if_true,if_false]
   exact zi trivial (by rw [<-hr,hv];rfl) (by simp [ends])
  ·have hv:zr ts e l=0:=by simp only [zr,zO,zK,ye,h1,h2,h3,h4,h5,h6,h7,h8,h9,h10,h11,h12,g,Bool.true_or,Bool.or_true,Bool.or_false,Bool.false_or,Bool.or_self,Bool.true_and,Bool.false_and,Bool.and_self,Bool.false_eq_true,if_true,if_false]
   exact zi trivial (by rw [<-hr,hv];rfl) (by simp [ends])
 refine za (fun h13=>?_) fun h13=>?_
 ·refine ze [[1],[0]] [] (jv l 3 hl) ?_
  simp -implicitDefEqProofs only [↓zb,push_cast,simprocAttr,tte]
  refine za (fun g=>?_) fun g=>?_
  ·have hv:zr ts e l=1:=by simp only [zr,zO,zK,ye,h1,h2,h3,h4,h5,h6,h7,h8,h9,h10,h11,h12,h13,g,Bool.true_or,Bool.or_true,Bool.or_false,Bool.false_or,Bool.or_self,Bool.true_and,Bool.false_and,Bool.and_self,Bool.false_eq_true,if_true,if_false]
   exact zi trivial (by rw [<-hr,hv];rfl) (by simp [ends])
  ·have hv:zr ts e l=0:=by simp only [zr,zO,zK,ye,h1,h2,h3,h4,h5,h6,h7,h8,h9,h10,h11,h12,h13,g,Bool.true_or,Bool.or_true,Bool.or_false,Bool.false_or,Bool.or_self,Bool.true_and,Bool.false_and,Bool.and_self,Bool.false_eq_true,if_true,if_false]
   exact zi trivial (by rw [<-hr,hv];rfl) (by simp [ends])
 refine za (fun h21=>?_) fun h21=>?_
 ·have hv:zr ts e l=2:=by simp only [zr,zO,zK,ye,h1,h2,h3,h4,h5,h6,h7,h8,h9,h10,h11,h12,h13,h21,Bool.true_or,Bool.or_true,Bool.or_false,Bool.false_or,Bool.or_self,Bool.true_and,Bool.false_and,Bool.and_self,Bool.false_eq_true,if_true,if_false]
  exact zi trivial (by rw [<-hr,hv];rfl) (by simp [ends])
 refine za (fun h22=>?_) fun h22=>?_
 ·refine uT h22 ?_
  refine ze [[1],[0]] [] (jv l 2 hl) ?_
  simp -implicitDefEqProofs only [↓zb,push_cast,simprocAttr,tte]
  refine za (fun g=>?_) fun g=>?_
  ·have hv:zr ts e l=2:=by simp only [zr,zO,zK,ye,h1,h2,h3,h4,h5,h6,h7,h8,h9,h10,h11,h12,h13,h21,h22,g,Bool.true_or,Bool.or_true,Bool.or_false,Bool.false_or,Bool.or_self,Bool.true_and,Bool.false_and,Bool.and_self,Bool.false_eq_true,if_true,if_false]
   exact zi trivial (by rw [<-hr,hv];rfl) (by simp [ends])
  ·have hv:zr ts e l=0:=by simp only [zr,zO,zK,ye,h1,h2,h3,h4,h5,h6,h7,h8,h9,h10,h11,h12,h13,h21,h22,g,Bool.true_or,Bool.or_true,Bool.or_false,Bool.false_or,Bool.or_self,Bool.true_and,Bool.false_and,Bool.and_self,Bool.false_eq_true,if_true,if_false]
   exact zi trivial (by rw [<-hr,hv];rfl) (by simp [ends])
 refine za (fun h23=>?_) fun h23=>?_
 ·refine uT h23 ?_
  refine ze [[1],[0]] [] (jv l 2 hl) ?_
  simp -implicitDefEqProofs only [↓zb,push_cast,simprocAttr,tte]
  refine za (fun g=>?_) fun g=>?_
  ·have hv:zr ts e l=2:=by simp only [zr,zO,zK,ye,h1,h2,h3,h4,h5,h6,h7,h8,h9,h10,h11,h12,h13,h21,h22,h23,g,Bool.true_or,Bool.or_true,Bool.or_false,Bool.false_or,Bool.or_self,Bool.true_and,Bool.false_and,Bool.and_self,Bool.false_eq_true,if_true,if_false]
   exact zi trivial (by rw [<-hr,hv];rfl) (by simp [ends])
  ·have hv:zr ts e l=0:=by simp only [zr,zO,zK,ye,h1,h2,h3,h4,h5,h6,h7,h8,h9,h10,h11,h12,h13,h21,h22,h23,g,Bool.true_or,Bool.or_true,Bool.or_false,Bool.false_or,Bool.or_self,Bool.true_and,Bool.false_and,Bool.and_self,Bool.false_eq_true,if_true,if_false]
   exact zi trivial (by rw [<-hr,hv];rfl) (by simp [ends])
 refine za (fun h24=>?_) fun h24=>?_
 ·refine uT h24 ?_
  refine ze [[1],[0]] [] (jv l 2 hl) ?_
  simp -implicitDefEqProofs only [↓zb,push_cast,simprocAttr,tte]
  refine za (fun g=>?_) fun g=>?_
  ·have hv:zr ts e l=2:=by simp only [zr,zO,zK,ye,h1,h2,h3,h4,h5,h6,h7,h8,h9,h10,h11,h12,h13,h21,h22,h23,h24,g,Bool.true_or,Bool.or_true,Bool.or_false,Bool.false_or,Bool.or_self,Bool.true_and,Bool.false_and,Bool.and_self,Bool.false_eq_true,if_true,if_false]
   exact zi trivial (by rw [<-hr,hv];rfl) (by simp [ends])
  ·have hv:zr ts e l=0:=by simp only [zr,zO,zK,ye,h1,h2,h3,h4,h5,h6,h7,h8,h9,h10,h11,h12,h13,h21,h22,h23,h24,g,Bool.true_or,Bool.or_true,Bool.or_false,Bool.false_or,Bool.or_self,Bool.true_and,Bool.false_and,Bool.and_self,Bool.false_eq_true,if_true,if_false]
   exact zi trivial (by rw [<-hr,hv];rfl) (by simp [ends])
 refine za (fun h25=>?_) fun h25=>?_
 ·refine ze [[1],[0]] [] (jv l 2 hl) ?_
  simp -implicitDefEqProofs only [↓zb,push_cast,simprocAttr,tte]
  refine za (fun g=>?_) fun g=>?_
  ·have hv:zr ts e l=2:=by simp only [zr,zO,zK,ye,h1,h2,h3,h4,h5,h6,h7,h8,h9,h10,h11,h12,h13,h21,h22,h23,h24,h25,g,Bool.true_or,Bool.or_true,Bool.or_false,Bool.false_or,Bool.or_self,Bool.true_and,Bool.false_and,Bool.and_self,Bool.false_eq_true,if_true,if_false]
   exact zi trivial (by rw [<-hr,hv];rfl) (by simp [ends])
  ·have hv:zr ts e l=0:=by simp only [zr,zO,zK,ye,h1,h2,h3,h4,h5,h6,h7,h8,h9,h10,h11,h12,h13,h21,h22,h23,h24,h25,g,Bool.true_or,Bool.or_true,Bool.or_false,Bool.false_or,Bool.or_self,Bool.true_and,Bool.false_and,Bool.and_self,Bool.false_eq_true,if_true,if_false]
   exact zi trivial (by rw [<-hr,hv];rfl) (by simp [ends])
 refine za (fun h26=>?_) fun h26=>?_
 ·have hlen:l.length=3:=hc26 (by simpa using h26)
  refine ⟨by omega,?_⟩
  refine za (fun a1=>?_) fun a1=>?_
  ·refine ⟨by omega,by omega,zf (by kernel_rfl),?_⟩
   refine za (fun a2=>?_) fun a2=>?_
   ·refine ⟨by omega,?_⟩
    have hv:zr ts e l=l.getD 1 default:=by simp only [zr,zO,zK,ye,h1,h2,h3,h4,h5,h6,h7,h8,h9,h10,h11,h12,h13,h21,h22,h23,h24,h25,h26,a1,a2,Bool.true_or,Bool.or_true,Bool.or_false,Bool.false_or,Bool.or_self,Bool.true_and,Bool.false_and,Bool.and_self,Bool.false_eq_true,if_true,if_false]
    exact zi trivial (by rw [<-hr,hv];rfl) (by simp [ends])
   ·have hv:zr ts e l=0:=by simp only [zr,zO,zK,ye,h1,h2,h3,h4,h5,h6,h7,h8,h9,h10,h11,h12,h13,h21,h22,h23,h24,h25,h26,a1,a2,Bool.true_or,Bool.or_true,Bool.or_false,Bool.false_or,Bool.or_self,Bool.true_and,Bool.false_and,Bool.and_self,Bool.false_eq_true,if_true,if_false]
    exact zi trivial (by rw [<-hr,hv];rfl) (by simp [ends])
  ·refine ⟨zf (by kernel_rfl),?_⟩
   have hv:zr ts e l=0:=by simp only [zr,zO,zK,ye,h1,h2,h3,h4,h5,h6,h7,h8,h9,h10,h11,h12,h13,h21,h22,h23,h24,h25,h26,a1,Bool.true_or,Bool.or_true,Bool.or_false,Bool.false_or,Bool.or_self,Bool.true_and,Bool.false_and,Bool.and_self,Bool.false_eq_true,if_true,if_false]
   exact zi trivial (by rw [<-hr,hv];rfl) (by simp [ends])
 refine za (fun h27=>?_) fun h27=>?_
 ·have hlen:l.length=2:=hc27 (by simpa using h27)
  refine ⟨by omega,by omega,zf (by kernel_rfl),?_⟩
  refine za (fun a1=>?_) fun a1=>?_
  ·refine ⟨by omega,?_⟩
   have hv:zr ts e l=l.getD 0 default:=by simp only [zr,zO,zK,ye,h1,h2,h3,h4,h5,h6,h7,h8,h9,h10,h11,h12,h13,h21,h22,h23,h24,h25,h26,h27,a1,Bool.true_or,Bool.or_true,Bool.or_false,Bool.false_or,Bool.or_self,Bool.true_and,Bool.false_and,Bool.and_self,Bool.false_eq_true,if_true,if_false]
   exact zi trivial (by rw [<-hr,hv];rfl) (by simp [ends])
  ·have hv:zr ts e l=0:=by simp only [zr,zO,zK,ye,h1,h2,h3,h4,h5,h6,h7,h8,h9,h10,h11,h12,h13,h21,h22,h23,h24,h25,h26,h27,a1,Bool.true_or,Bool.or_true,Bool.or_false,Bool.false_or,Bool.or_self,Bool.true_and,Bool.false_and,Bool.and_self,Bool.false_eq_true,if_true,if_false]
   exact zi trivial (by rw [<-hr,hv];rfl) (by simp [ends])
 have hgt:5<e.op:=by
  simp only [beq_eq_false_iff_ne,ne_eq] at h1 h2 h3 h4 h5
  simp only [isOp,Bool.and_eq_true,decide_eq_true_eq] at ho
  omega
 have hlen:=hE ho hgt
 refine ⟨by omega,?_⟩
 refine ze [[1],[0]] [] (jv l (l.getD 0 default) hl) ?_
 simp -implicitDefEqProofs only [↓zb,push_cast,simprocAttr,tte]
 refine za (fun g=>?_) fun g=>?_
 ·have hv:zr ts e l=2:=by simp only [zr,zO,zK,ye,h1,h2,h3,h4,h5,h6,h7,h8,h9,h10,h11,h12,h13,h21,h22,h23,h24,h25,h26,h27,g,Bool.true_or,Bool.or_true,Bool.or_false,Bool.false_or,Bool.or_self,Bool.true_and,Bool.false_and,Bool.and_self,Bool.false_eq_true,if_true,if_false]
  exact zi trivial (by rw [<-hr,hv];rfl) (by simp [ends])
 ·have hv:zr ts e l=0:=by simp only [zr,zO,zK,ye,h1,h2,h3,h4,h5,h6,h7,h8,h9,h10,h11,h12,h13,h21,h22,h23,h24,h25,h26,h27,g,Bool.true_or,Bool.or_true,Bool.or_false,Bool.false_or,Bool.or_self,Bool.true_and,Bool.false_and,Bool.and_self,Bool.false_eq_true,if_true,if_false]
  exact zi trivial (by rw [<-hr,hv];rfl) (by simp [ends])
end
section
open Go.Am
attribute [local simp, local push_cast] num boo str ints aV aTab zv aS aT aC zR zL aFk vT
def ownR (ts:List Int) (e:Ex) (l:List Int):Int×Int:=
 if !(isOp e.op&&yd e) then (0,1)
 else if !yA e then (0,9)
 else if (e.op==5&&(decide (e.col<0) || decide (e.col≥ts.length))) then (0,3)
 else if (decide (zr ts e l<1) || decide (zr ts e l>3)) then (0,4)
 else (zr ts e l,0)
def isT (k:Int):Prop:=1<=k/\k<=3
theorem own_tab0: ∀n∈List.range 29,
 n=0\/(n=1\/n=5)/\(opTab.getD n default).types=0\/n=2/\(opTab.getD n default).types=0/\(opTab.getD n default).own=1\/n=3/\(opTab.getD n default).types=0/\(opTab.getD n default).own=2\/
 n=4/\(opTab.getD n default).types=0/\(opTab.getD n default).own=3\/(6<=n/\n<=11)/\(opTab.getD n default).types=1/\(opTab.getD n default).own=1\/n=12/\(opTab.getD n default).types=2/\(opTab.getD n default).own=3\/
 n=13/\(opTab.getD n default).types=2/\(opTab.getD n default).own=1\/n=21/\(opTab.getD n default).types=5/\(opTab.getD n default).own=2\/(22<=n/\n<=25)/\(opTab.getD n default).types=3/\(opTab.getD n default).own=2\/
 n=26/\(opTab.getD n default).types=6/\(opTab.getD n default).own=0\/n=27/\(opTab.getD n default).types=4/\(opTab.getD n default).own=0\/((14<=n/\n<=20)\/n=28)/\(opTab.getD n default).types=4/\(opTab.getD n default).own=2:=by decide
theorem okF_type {e:Ex} (h:yd e=true) (h1:e.op=1):1<=e.type/\e.type<=3:=by
 simp [yd,okF,h1] at h;omega
theorem own_eq (ts:List Int) (e:Ex) (l:List Int) (hl:l.length=e.kids.length) (hk: ∀x∈l,isT x):ownM ts e l=ownR ts e l:=by
 unfold ownM ownR
 by_cases ho':isOp e.op=false
 ·simp [ho']
 have ho:isOp e.op=true:=by simpa using ho'
 by_cases hc':yd e=false
 ·simp [hc']
 have hc:yd e=true:=by simpa using hc'
 by_cases hn':yA e=false
 ·simp [hn',ho,hc]
 have hn:yA e=true:=by simpa using hn'
 by_cases h3:(e.op==5&&(decide (e.col<0) || decide (e.col≥ts.length)))=true
 ·rw [ho,hc,hn,h3];rfl
 have h3':(e.op==5&&(decide (e.col<0) || decide (e.col≥ts.length)))=false:=by simpa using h3
 rw [ho,hc,hn,h3']
 simp only [Bool.not_true,Bool.or_self,Bool.false_eq_true,if_false,Bool.and_self]
 have hcount:=uG hn
 obtain ⟨n,n1,n2,n3⟩:=op_cases ho
 have hf:y9 e.op=opTab.getD n default:=by rw [y9,ho,if_pos rfl,opAt,n3,Int.toNat_natCast]
 have ht:=own_tab0 n (by simpa using n1)
 have hkt:=kids_tab0 n (by simpa using n1)
 rw [hf] at hcount ⊢
 generalize hO:opTab.getD n default=o at ht hkt hcount
 obtain ⟨w,kn,ty,ow⟩:=o
 simp only at ht hkt hcount
 unfold fitM zr
 rcases ht with h | ⟨h,ht⟩ | ⟨h,ht,ht2⟩ | ⟨h,ht,ht2⟩ | ⟨h,ht,ht2⟩ | ⟨h,ht,ht2⟩ | ⟨h,ht,ht2⟩ | ⟨h,ht,ht2⟩ | ⟨h,ht,ht2⟩ | ⟨h,ht,ht2⟩ | ⟨h,ht,ht2⟩ | ⟨h,ht,ht2⟩ | ⟨h,ht,ht2⟩
 ·omega
 ·rcases h with h | h
  ·have he:e.op=1:=by omega
   have:=okF_type hc he
   have h4: ¬e.type<1:=by omega
   have h5: ¬3<e.type:=by omega
   simp [he,ht,h4,h5]
  ·have he:e.op=5:=by omega
   simp only [he,ht]
   generalize ts.getD e.col.toNat default=v
   simp [kT]
   split<;>split<;>(try rfl)<;>(exfalso;omega)
 ·have he:e.op=2:=by omega
  simp [he,ht,ht2]
 ·have he:e.op=3:=by omega
  simp [he,ht,ht2]
 ·have he:e.op=4:=by omega
  simp [he,ht,ht2]
 ·have hno:zO e.op=true:=by simp [zO];omega
  have e1: ¬e.op=1:=by omega
  have e2: ¬e.op=2:=by omega
  have e3: ¬e.op=3:=by omega
  have e4: ¬e.op=4:=by omega
  have e5: ¬e.op=5:=by omega
  by_cases ha:(l.all fun x=>x==1)=true
  ·simp [e1,e2,e3,e4,e5,hno,ht,ht2,ha,ye]
  ·have ha':(l.all fun x=>x==1)=false:=by simpa using ha
   simp [e1,e2,e3,e4,e5,hno,ht,ht2,ha',ye]
 ·have he:e.op=12:=by omega
  by_cases ha:(l.all fun x=>x==3)=true
  ·simp [he,zO,ht,ht2,ha,ye]
  ·have ha':(l.all fun x=>x==3)=false:=by simpa using ha
   simp [he,zO,ht,ht2,ha',ye]
 ·have he:e.op=13:=by omega
  by_cases ha:(l.all fun x=>x==3)=true
  ·simp [he,zO,ht,ht2,ha,ye]
  ·have ha':(l.all fun x=>x==3)=false:=by simpa using ha
   simp [he,zO,ht,ht2,ha',ye]
 ·have he:e.op=21:=by omega
  simp [he,zO,ht,ht2]
 ·have hno:zO e.op=false:=by simp [zO];omega
  have htr:zK e.op=true:=by simp [zK];omega
  have e1: ¬e.op=1:=by omega
  have e2: ¬e.op=2:=by omega
  have e3: ¬e.op=3:=by omega
  have e4: ¬e.op=4:=by omega
  have e5: ¬e.op=5:=by omega
  have e12: ¬e.op=12:=by omega
  have e13: ¬e.op=13:=by omega
  have e21: ¬e.op=21:=by omega
  by_cases ha:(l.all fun x=>x==2)=true
  ·simp [e1,e2,e3,e4,e5,e12,e13,e21,hno,htr,ht,ht2,ha,ye]
  ·have ha':(l.all fun x=>x==2)=false:=by simpa using ha
   simp [e1,e2,e3,e4,e5,e12,e13,e21,hno,htr,ht,ht2,ha',ye]
 ·have he:e.op=26:=by omega
  have hl3:l.length=3:=by omega
  obtain ⟨a,b,c,rfl⟩: ∃a b c,l=[a,b,c]:=by
   match l,hl3 with
   | [a,b,c],_=>exact ⟨a,b,c,rfl⟩
  have hb:isT b:=hk b (by simp)
  have h4: ¬b<1:=by have:=hb.1;omega
  have h5: ¬3<b:=by have:=hb.2;omega
  simp only [he,ht,ht2]
  by_cases q1:a=2<;>by_cases q2:b=c<;>simp [zO,zK,q1,q2]<;>(have hb1:=hb.1;have hb2:=hb.2;omega)
 ·have he:e.op=27:=by omega
  have hl2:l.length=2:=by omega
  obtain ⟨a,b,rfl⟩: ∃a b,l=[a,b]:=by
   match l,hl2 with
   | [a,b],_=>exact ⟨a,b,rfl⟩
  have hb:isT a:=hk a (by simp)
  have h4: ¬a<1:=by have:=hb.1;omega
  have h5: ¬3<a:=by have:=hb.2;omega
  simp only [he,ht,ht2]
  by_cases q2:a=b
  ·subst q2;simp [zO,zK,h4,h5]
  ·have q3: ¬b=a:=fun e=>q2 e.symm
   simp [zO,zK,q2,q3]
 ·have hno:zO e.op=false:=by simp [zO];omega
  have htr:zK e.op=false:=by simp [zK];omega
  have e1: ¬e.op=1:=by omega
  have e2: ¬e.op=2:=by omega
  have e3: ¬e.op=3:=by omega
  have e4: ¬e.op=4:=by omega
  have e5: ¬e.op=5:=by omega
  have e12: ¬e.op=12:=by omega
  have e13: ¬e.op=13:=by omega
  have e21: ¬e.op=21:=by omega
  have e26: ¬e.op=26:=by omega
  have e27: ¬e.op=27:=by omega
  by_cases ha:(l.all fun x=>x==l.getD 0 default)=true
  ·simp only [ye,ha]
   simp [e1,e2,e3,e4,e5,e12,e13,e21,e26,e27,hno,htr,ht,ht2]
  ·have ha':(l.all fun x=>x==l.getD 0 default)=false:=by simpa using ha
   simp only [ye,ha']
   simp [e1,e2,e3,e4,e5,e12,e13,e21,e26,e27,hno,htr,ht,ht2]
theorem own_isT (ts:List Int) (e:Ex) (l:List Int) (h:(ownR ts e l).2=0):isT (ownR ts e l).1:=by
 unfold ownR at h ⊢
 split at h
 ·cases h
 ·split at h
  ·cases h
  ·split at h
   ·cases h
   ·split at h
    ·cases h
    ·rename_i h4
     rw [if_neg (by assumption),if_neg (by assumption),if_neg (by assumption),if_neg (by assumption)]
     simp only [Bool.or_eq_true,decide_eq_true_eq,not_or] at h4
     exact ⟨by omega,by omega⟩
theorem typK_isT {ts:List Int} {e:Ex} {rs:List (Int×Int)} (h:(typK (ownR ts) e rs).2=0):isT (typK (ownR ts) e rs).1:=by
 unfold typK at h ⊢
 split
 ·rename_i h1;rw [if_pos h1] at h;exact own_isT _ _ _ h
 ·rename_i h1;rw [if_neg h1] at h;exact absurd h h1
theorem typ_isT {ts:List Int} {e:Ex} (h:(typG (ownR ts) e).2=0):isT (typG (ownR ts) e).1:=by
 rw [jy] at h ⊢;exact typK_isT h
theorem typ_eq (ts:List Int): ∀e:Ex,typG (ownM ts) e=typG (ownR ts) e:=uY (p:=fun e=>typG (ownM ts) e=typG (ownR ts) e) fun e ih=>by
 rw [jy,jy]
 have hm:e.kids.map (typG (ownM ts))=e.kids.map (typG (ownR ts)):=List.map_congr_left fun k hk=>ih k hk
 rw [hm,typK,typK]
 split
 ·rename_i h
  refine own_eq ts e _ (by simp) fun x hx=>?_
  simp only [List.map_map,List.mem_map,Function.comp] at hx
  obtain ⟨k,hk,rfl⟩:=hx
  have:=xF h _ (List.mem_map.2 ⟨k,hk,rfl⟩)
  exact typ_isT this
 ·rfl
theorem c_typed (ts:List Int) (hts:ts.length<=1000000000): ∀e:Ex,Ok12 e->ACall Tryz.prog 195 [ints ts,aE e] [] (zL (typG (ownR ts) e)) []:=
 uY (p:=fun e=>Ok12 e->ACall Tryz.prog 195 [ints ts,aE e] [] (zL (typG (ownR ts) e)) []) fun e ih ho=>by
 refine zn mixed ttok Tryz.func195 Tryz.ntmps195 Tryz.results195 ?_
 generalize hr:zL (typG (ownR ts) e)=R
 have hl:=ho.kids
 simp -implicitDefEqProofs only [argT,↓zb,push_cast,simprocAttr,tte]
 refine zo mixed ttok 7 [0,3] [3] (by simp only [zC,ends,push_cast,simprocAttr];rfl) (by simp only [zH,zp,ends,push_cast,simprocAttr];rfl) e.kids.length (fun n=> ∀i,i<n->(typG (ownR ts) (e.kids.getD i default)).2=0) (fun n=>[(6,.vec 500 n)]) (fun n=>[(500,.vec 3 1 (zd rI (vE (ownR ts) e n)) 0)]) (fun i h=>absurd h (Nat.not_lt_zero _)) ?_ ?_
 ·exact (Weak.nilL 6 500 3 1 rfl rfl).trans (Weak.keepL (by simp [cst,ends]) (by simp [cst,vE,ends]) (by simp [cst,ends]))
 intro I hI n hn hi
 have hl2:=qF (ownR ts) e n hn
 simp -implicitDefEqProofs only [cst,↓zb,push_cast,simprocAttr,tte]
 refine za (fun h=>?_) fun h=>?_
 ·simp only [decide_eq_true_eq] at h
  have h':n<e.kids.length:=by omega
  have hw:=zj h' (by omega)
  have hs:=tysTo_succ (ownR ts) e n h'
  refine ⟨(by first | omega | trivial | (refine ⟨?_,?_⟩<;>first | omega | trivial | (refine ⟨?_,?_⟩<;>first | omega | trivial | (refine ⟨?_,?_⟩<;>first | omega | trivial | rfl)))),?_⟩
  refine ze [[1],[0,0,0,0,0,6]] [] (ih _ (zk h') (ho.kid (zk h'))) ?_
  simp -implicitDefEqProofs only [zL,↓zb,push_cast,simprocAttr,tte]
  refine za (fun g=>?_) fun g=>?_
  ·have g':(typG (ownR ts) (e.kids.getD n default)).2≠0:=by simpa using g
   have hf:ferr Prod.snd (e.kids.map (typG (ownR ts)))=(typG (ownR ts) (e.kids.getD n default)).2:=by rw [wp];exact xK _ _ n h' hi g'
   have hE:typG (ownR ts) e=(0,(typG (ownR ts) (e.kids.getD n default)).2):=by rw [jy (ownR ts) e,typK,hf,if_neg g']
   exact zN trivial (by rw [<-hr,hE];rfl) (by simp [ends])
  ·have g':(typG (ownR ts) (e.kids.getD n default)).2=0:=by simpa using g
   refine ⟨⟨hl2.symm,by rw [hl2];omega⟩,?_⟩
   exact zq hI n rfl h' (fun i h2=>if h3:i=n then by rw [h3];exact g' else hi i (by omega)) (by simp [hw,hs,hl2,zh,ends]) (by simp [hw,hs,hl2,zh,ends]) (by simp [hw,hs,hl2,zh,ends]) (by simp [hw,hs,hl2,zh,ends])
 simp only [decide_eq_false_iff_not] at h
 obtain rfl:n=e.kids.length:=by omega
 clear hI
 have hf:ferr Prod.snd (e.kids.map (typG (ownR ts)))=0:=by rw [wp];exact yT _ _ hi
 have hT:vE (ownR ts) e e.kids.length=(e.kids.map (typG (ownR ts))).map Prod.fst:=by rw [vE,List.take_length,List.map_map];rfl
 have hM:typG (ownR ts) e=ownR ts e (vE (ownR ts) e e.kids.length):=by rw [jy (ownR ts) e,typK,if_pos hf,hT]
 rw [hM] at hr
 generalize vE (ownR ts) e e.kids.length=l at hl2 hr ⊢
 refine ze [[0,0,0,0,0,6]] [] (c_plain e) ?_
 simp -implicitDefEqProofs only [↓zb,push_cast,simprocAttr,tte]
 refine za (fun h1=>?_) fun h1=>?_
 ·have hv:ownR ts e l=(0,1):=if_pos h1
  exact zN trivial (by rw [<-hr,hv];rfl) (by simp [ends])
 have ho2:isOp e.op=true/\yd e=true:=by simpa using h1
 have hv1:ownR ts e l=if !yA e then (0,9)
  else if (e.op==5&&(decide (e.col<0) || decide (e.col≥ts.length))) then (0,3)
  else if (decide (zr ts e l<1) || decide (zr ts e l>3)) then (0,4) else (zr ts e l,0):=if_neg (by rw [h1];decide)
 have hkc:=jE ho2.1
 refine ⟨hl2.symm,?_⟩
 refine ze [[0],[0]] [] (c_rkids e.op e.kids.length) ?_
 simp -implicitDefEqProofs only [↓zb,push_cast,simprocAttr,tte]
 rw [hkc]
 refine za (fun h2=>?_) fun h2=>?_
 ·have hv:ownR ts e l=(0,9):=by rw [hv1,if_pos h2]
  exact zN trivial (by rw [<-hr,hv];rfl) (by simp [ends])
 have hcnt:yA e=true:=by simpa using h2
 have hv2:ownR ts e l=if (e.op==5&&(decide (e.col<0) || decide (e.col≥ts.length))) then (0,3)
  else if (decide (zr ts e l<1) || decide (zr ts e l>3)) then (0,4) else (zr ts e l,0):=by rw [hv1,if_neg (by rw [h2];decide)]
 have hcount:=uG hcnt
 obtain ⟨n,n1,n2,n3⟩:=op_cases ho2.1
 have hf:y9 e.op=opTab.getD n default:=by rw [y9,ho2.1,if_pos rfl,opAt,n3,Int.toNat_natCast]
 have hkt:=kids_tab0 n (by simpa using n1)
 rw [hf] at hcount
 generalize hO:opTab.getD n default=o at hkt hcount
 have c26:e.op=26->l.length=3:=by omega
 have c27:e.op=27->l.length=2:=by omega
 have cE:isOp e.op=true->5<e.op->0<l.length:=by omega
 refine za (fun h3=>?_) fun h3=>?_
 ·have h3':e.op=5:=by simpa using h3
  refine za (fun h4=>?_) fun h4=>?_
  ·have hv:ownR ts e l=(0,3):=by rw [hv2,h3,h4];rfl
   exact zN trivial (by rw [<-hr,hv];rfl) (by simp [ends])
  refine za (fun h5=>?_) fun h5=>?_
  ·have hv:ownR ts e l=(0,3):=by rw [hv2,h3,h4,h5];rfl
   exact zN trivial (by rw [<-hr,hv];rfl) (by simp [ends])
  have hv3:ownR ts e l=if (decide (zr ts e l<1) || decide (zr ts e l>3)) then (0,4) else (zr ts e l,0):=by rw [hv2,h3,h4,h5];rfl
  have hcol:0<=e.col/\e.col<ts.length:=by simp only [decide_eq_false_iff_not] at h4 h5;omega
  refine ze [[1],[0,0,0,0,0,6],[1]] [] (c_result ts e l (by omega) (fun _=>hcol) c26 c27 cE ho2.1) ?_
  simp -implicitDefEqProofs only [↓zb,push_cast,simprocAttr,tte]
  refine za (fun r1=>?_) fun r1=>?_
  ·have hv:ownR ts e l=(0,4):=by rw [hv3,r1];rfl
   exact zN trivial (by rw [<-hr,hv];rfl) (by simp [ends])
  refine za (fun r2=>?_) fun r2=>?_
  ·have hv:ownR ts e l=(0,4):=by rw [hv3,r2,Bool.or_true];rfl
   exact zN trivial (by rw [<-hr,hv];rfl) (by simp [ends])
  have hv:ownR ts e l=(zr ts e l,0):=by rw [hv3,r1,r2];rfl
  exact zN trivial (by rw [<-hr,hv];rfl) (by simp [ends])
 have h3': ¬e.op=5:=by simpa using h3
 have hv3:ownR ts e l=if (decide (zr ts e l<1) || decide (zr ts e l>3)) then (0,4) else (zr ts e l,0):=by rw [hv2,h3];rfl
 refine ze [[1],[0,0,0,0,0,6],[1]] [] (c_result ts e l (by omega) (fun h=>absurd h h3') c26 c27 cE ho2.1) ?_
 simp -implicitDefEqProofs only [↓zb,push_cast,simprocAttr,tte]
 refine za (fun r1=>?_) fun r1=>?_
 ·have hv:ownR ts e l=(0,4):=by rw [hv3,r1];rfl
  exact zN trivial (by rw [<-hr,hv];rfl) (by simp [ends])
 refine za (fun r2=>?_) fun r2=>?_
 ·have hv:ownR ts e l=(0,4):=by rw [hv3,r2,Bool.or_true];rfl
  exact zN trivial (by rw [<-hr,hv];rfl) (by simp [ends])
 have hv:ownR ts e l=(zr ts e l,0):=by rw [hv3,r1,r2];rfl
 exact zN trivial (by rw [<-hr,hv];rfl) (by simp [ends])
theorem c_rtype (ts:List Int) (hts:ts.length<=1000000000) (e:Ex) (ho:Ok12 e):ACall Tryz.prog 158 [ints ts,aE e] [] (zL (yC (ownM ts) e)) []:=by
 refine zn mixed ttok Tryz.func158 Tryz.ntmps158 Tryz.results158 ?_
 generalize hr:zL (yC (ownM ts) e)=R
 simp -implicitDefEqProofs only [argT,↓zb,push_cast,simprocAttr,tte]
 refine ze [[0,0,0,0,0,6]] [] (gw e ho) ?_
 simp -implicitDefEqProofs only [↓zb,push_cast,simprocAttr,tte]
 refine za (fun h=>?_) fun h=>?_
 ·have hv:yC (ownM ts) e=(0,8):=if_pos (of_decide_eq_true h)
  exact zN trivial (by rw [<-hr,hv];rfl) (by simp [ends])
 have h': ¬wD e>200:=of_decide_eq_false h
 refine ze [[0,0,0,0,0,6]] [] (c_rdepth e ho) ?_
 simp -implicitDefEqProofs only [↓zb,push_cast,simprocAttr,tte]
 refine za (fun g=>?_) fun g=>?_
 ·have hv:yC (ownM ts) e=(0,13):=by rw [yC,if_neg h',if_pos (of_decide_eq_true g)]
  exact zN trivial (by rw [<-hr,hv];rfl) (by simp [ends])
 have g': ¬xA e>24:=of_decide_eq_false g
 refine ze [[1],[0,0,0,0,0,6]] [] (c_typed ts hts e ho) ?_
 have hv:yC (ownM ts) e=typG (ownR ts) e:=by rw [yC,if_neg h',if_neg g',typ_eq]
 simp -implicitDefEqProofs only [zL,↓zb,push_cast,simprocAttr,tte]
 exact zN trivial (by rw [<-hr,hv];rfl) (by simp [ends])
end
section
open Go.Am
attribute [local simp, local push_cast] num boo str ints aV aTab zv aS aT aC zR zL aFk vT
def rS (w:ByteArray):List D:=[.lit (.string w)]
attribute [local simp, local push_cast] rS
theorem c_reserved:ACall Tryz.prog 155 [] [] (.d (.sl 1 (zd rS words))) []:=by
 refine zn mixed ttok Tryz.func155 Tryz.ntmps155 Tryz.results155 ?_
 generalize hr:A.d (.sl 1 (zd rS words))=R
 simp -implicitDefEqProofs only [argT,↓zb,push_cast,simprocAttr,tte]
 refine zu [1] rfl (by simp) (by simp [zc]<;>omega) ?_ (by first | rfl | simp [ends] | (subst_vars;simp [ends])) (by simp [ends]) (by simp [ends])
 exact hr
def goodR (s:ByteArray):Bool:=(vh s).all fun c=> !badM c
def uc (s:ByteArray):Bool:=(((decide (1<=s.size)&&decide (s.size<=16))&&letM ((s.data.getD 0 0).toNat:Nat))&&goodR s)&& !(words.any fun w=>w.toList==s.toList)
theorem c_rname (s:ByteArray):ACall Tryz.prog 88 [str s] [] (boo (uc s)) []:=by
 refine zn mixed ttok Tryz.func88 Tryz.ntmps88 Tryz.results88 ?_
 generalize hr:boo (uc s)=R
 have hr0:=hr
 simp -implicitDefEqProofs only [argT,↓zb,push_cast,simprocAttr,tte]
 refine za (fun h1=>?_) fun h1=>?_
 ·have:uc s=false:=by rw [uc,decide_eq_false (by have:=of_decide_eq_true h1;omega)];rfl
  exact zi trivial (by rw [<-hr,this];rfl) (by simp [ends])
 have h1':1<=s.size:=by have:=of_decide_eq_false h1;omega
 refine za (fun h2=>?_) fun h2=>?_
 ·have:uc s=false:=by rw [uc,decide_eq_false (p:=s.size≤16) (by have:=of_decide_eq_true h2;omega),Bool.and_false];rfl
  exact zi trivial (by rw [<-hr,this];rfl) (by simp [ends])
 have h2':s.size<=16:=by have:=of_decide_eq_false h2;omega
 refine ⟨by omega,?_⟩
 refine za (fun h3=>?_) fun h3=>?_
 ·have:uc s=false:=by rw [uc,letM,decide_eq_false (p:=((s.data.getD 0 0).toNat:Int)≥97) (by have:=of_decide_eq_true h3;omega),Bool.false_and,Bool.and_false];rfl
  exact zi trivial (by rw [<-hr,this];rfl) (by simp [ends])
 refine ⟨by omega,?_⟩
 refine za (fun h4=>?_) fun h4=>?_
 ·have:uc s=false:=by rw [uc,letM,decide_eq_false (p:=((s.data.getD 0 0).toNat:Int)≤122) (by have:=of_decide_eq_true h4;omega),Bool.and_false,Bool.and_false];rfl
  exact zi trivial (by rw [<-hr,this];rfl) (by simp [ends])
 have hM:uc s=(goodR s&& !(words.any fun w=>w.toList==s.toList)):=by
  rw [uc,letM,decide_eq_true h1',decide_eq_true h2',decide_eq_true (p:=((s.data.getD 0 0).toNat:Int)≥97) (by have:=of_decide_eq_false h3;omega),decide_eq_true (p:=((s.data.getD 0 0).toNat:Int)<=122) (by have:=of_decide_eq_false h4;omega)];rfl
 clear h1 h2 h3 h4
 refine zo mixed ttok 3 [0] [] (by simp only [zC,ends,push_cast,simprocAttr];rfl) (by simp only [zH,zp,ends,push_cast,simprocAttr];rfl) s.size (fun n=>((vh s).drop n).all (fun c=> !badM c)=goodR s) (fun _=>[]) (fun _=>[]) rfl ?_ ?_
 ·exact Weak.keepL (by simp [cst,ends]) (by simp [cst,ends]) (by simp [cst,ends])
 intro I hI n hn hi
 simp -implicitDefEqProofs only [cst,↓zb,push_cast,simprocAttr,tte]
 refine za (fun k=>?_) fun k=>?_
 ·simp only [decide_eq_true_eq] at k
  have k':n<s.size:=by omega
  have hw:=zj k' (by omega)
  rw [z8 _ n (by rw [vC];exact k'),List.all_cons,bytesI_getD s n k'] at hi
  have bad:badM ((s.data.getD n 0).toNat:Nat)=true->uc s=false:=fun h=>by rw [hM,<-hi,h];rfl
  have good:badM ((s.data.getD n 0).toNat:Nat)=false->((vh s).drop (n+1)).all (fun c=> !badM c)=goodR s:=fun h=>by rw [<-hi,h];rfl
  clear hM hr
  have bad':badM ((s.data.getD n 0).toNat:Nat)=true->boo false=R:=fun h=>by rw [<-hr0,bad h]
  clear bad hr0
  generalize (((s.data.getD n 0).toNat:Nat):Int)=c at bad' good ⊢
  refine ⟨(by first | omega | trivial | (refine ⟨?_,?_⟩<;>first | omega | trivial | (refine ⟨?_,?_⟩<;>first | omega | trivial | (refine ⟨?_,?_⟩<;>first | omega | trivial | rfl)))),?_⟩
  repeat' first
   | refine za (fun _=>?_) fun _=>?_
   | exact zi trivial (bad' (by simp only [badM,letM,Bool.and_eq_true,Bool.or_eq_true,Bool.not_eq_true',Bool.and_eq_false_iff,Bool.or_eq_false_iff,Bool.not_eq_false',decide_eq_true_eq,decide_eq_false_iff_not,bne_iff_ne,bne_eq_false_iff_eq,ne_eq] at *;omega)) (by simp [ends])
   | exact zq hI n rfl k' (good (by simp only [badM,letM,Bool.and_eq_true,Bool.or_eq_true,Bool.not_eq_true',Bool.and_eq_false_iff,Bool.or_eq_false_iff,Bool.not_eq_false',decide_eq_true_eq,decide_eq_false_iff_not,bne_iff_ne,bne_eq_false_iff_eq,ne_eq] at *;omega)) (by simp [hw,ends]) (by simp [hw,ends]) (by simp [hw,ends]) (by simp [hw,ends])
   | refine ⟨(by first | omega | trivial | (refine ⟨?_,?_⟩<;>first | omega | trivial | (refine ⟨?_,?_⟩<;>first | omega | trivial | (refine ⟨?_,?_⟩<;>first | omega | trivial | rfl)))),?_⟩
 simp only [decide_eq_false_iff_not] at k
 obtain rfl:n=s.size:=by omega
 rw [List.drop_eq_nil_of_le (by rw [vC];omega)] at hi
 have hM2:uc s= !(words.any fun w=>w.toList==s.toList):=by rw [hM,<-hi];rfl
 clear hM hI hi hn k I
 refine ze [] [] (c_reserved) ?_
 simp -implicitDefEqProofs only [↓zb,push_cast,simprocAttr,tte]
 generalize hwd:words=W at hM2
 have hWl:W.length=52:=by rw [<-hwd];rfl
 clear hwd
 refine zo mixed ttok 5 [0,4] [] (by simp only [zC,ends,push_cast,simprocAttr];rfl) (by simp only [zH,zp,ends,push_cast,simprocAttr];rfl) W.length (fun n=> ∀i,i<n->((W.getD i default).toList==s.toList)=false) (fun _=>[]) (fun _=>[]) (fun i h=>absurd h (Nat.not_lt_zero _)) ?_ ?_
 ·exact Weak.keepL (by simp [cst,ends]) (by simp [cst,ends]) (by simp [cst,ends])
 intro I hI n hn hi
 simp -implicitDefEqProofs only [cst,↓zb,push_cast,simprocAttr,tte]
 refine za (fun k=>?_) fun k=>?_
 ·simp only [decide_eq_true_eq] at k
  have k':n<W.length:=by omega
  have hw:=zj k' (by omega)
  refine ⟨(by first | omega | trivial | (refine ⟨?_,?_⟩<;>first | omega | trivial | (refine ⟨?_,?_⟩<;>first | omega | trivial | (refine ⟨?_,?_⟩<;>first | omega | trivial | rfl)))),?_⟩
  refine za (fun g=>?_) fun g=>?_
  ·have:(W.any fun w=>w.toList==s.toList)=true:=List.any_eq_true.2 ⟨_,zk k',g⟩
   exact zi trivial (by rw [<-hr0,hM2,this];rfl) (by simp [ends])
  ·exact zq hI n rfl k' (fun i h2=>if h3:i=n then by rw [h3];exact g else hi i (by omega)) (by simp [hw,ends]) (by simp [hw,ends]) (by simp [hw,ends]) (by simp [hw,ends])
 simp only [decide_eq_false_iff_not] at k
 obtain rfl:n=W.length:=by omega
 have:(W.any fun w=>w.toList==s.toList)=false:=by
  rw [List.any_eq_false]
  intro x hx
  obtain ⟨i,h1,rfl⟩:=u5 hx
  rw [hi i h1];decide
 exact zi trivial (by rw [<-hr0,hM2,this];rfl) (by simp [ends])
theorem contains_iff (L p:List UInt8):Lib.contains L p=true ↔ ∃a b,L=a++(p++b):=by
 unfold Lib.contains
 rw [decide_eq_true_eq]
 rcases Lib.index_spec L p with ⟨h1,h2⟩ | ⟨i,h1,h2,h3,_⟩
 ·constructor
  ·intro h;omega
  ·rintro ⟨a,b,rfl⟩
   have:=h2 a.length (by simp)
   simp only [Lib.occAt,List.drop_left] at this
   rw [List.isPrefixOf_iff_prefix.2 (List.prefix_append p b)] at this
   cases this
 ·constructor
  ·intro _
   simp only [Lib.occAt] at h3
   have h4:=List.isPrefixOf_iff_prefix.1 h3
   obtain ⟨b,hb⟩:=h4
   exact ⟨L.take i,b,by rw [hb,List.take_append_drop]⟩
  ·intro _;omega
theorem cut32: ∀(w s:List UInt8) (x y:List UInt8),(32:UInt8) ∉ w->(32:UInt8) ∉ s->w++32::x=s++32::y->w=s
 | [],[],_,_,_,_,_=>rfl
 | [],c::s,_,_,_,hs,h=>by simp at h;exact absurd (by rw [h.1];simp) hs
 | c::w,[],_,_,hw,_,h=>by simp at h;exact absurd (by rw [h.1];simp) hw
 | c::w,d::s,x,y,hw,hs,h=>by
   simp only [List.cons_append,List.cons.injEq] at h
   rw [h.1,cut32 w s x y (fun hm=>hw (by simp [hm])) (fun hm=>hs (by simp [hm])) h.2]
theorem jump32: ∀(w a x y:List UInt8),(32:UInt8) ∉ w->w++32::x=a++32::y-> ∃c,a=w++c/\32::x=c++32::y
 | [],a,x,y,_,h=>⟨a,rfl,h⟩
 | c::w,[],x,y,hw,h=>by simp at h;exact absurd (by rw [h.1];simp) hw
 | c::w,d::a,x,y,hw,h=>by
   simp only [List.cons_append,List.cons.injEq] at h
   obtain ⟨c',h1,h2⟩:=jump32 w a x y (fun hm=>hw (by simp [hm])) h.2
   exact ⟨c',by rw [h.1,h1];rfl,h2⟩
def gc:List (List UInt8)->List UInt8
 | []=>[]
 | w::ws=>w++32::gc ws
theorem in_join (s:List UInt8) (hs:(32:UInt8) ∉ s): ∀ws:List (List UInt8),(∀w∈ws,(32:UInt8) ∉ w)→((∃a b,32::gc ws=a++((32::(s++[32]))++b)) ↔ s∈ws)
 | [],_=>by
   constructor
   ·rintro ⟨a,b,h⟩
    have:=congrArg List.length h
    simp [gc] at this
    omega
   ·intro h;simp at h
 | w::ws,hw=>by
   have hw0:(32:UInt8) ∉ w:=hw w (by simp)
   have ih:=in_join s hs ws (fun v hv=>hw v (by simp [hv]))
   constructor
   ·rintro ⟨a,b,h⟩
    cases a with
    | nil=>
      simp only [gc,List.nil_append,List.cons_append,List.cons.injEq,true_and,List.append_assoc] at h
      have:=cut32 w s _ _ hw0 hs h
      simp [this]
    | cons x a=>
      simp only [gc,List.cons_append,List.cons.injEq] at h
      obtain ⟨c,h1,h2⟩:=jump32 w a _ _ hw0 h.2
      exact List.mem_cons_of_mem _ (ih.1 ⟨c,b,by rw [h2];rfl⟩)
   ·intro h
    rcases List.mem_cons.1 h with rfl | h
    ·exact ⟨[],gc ws,by simp [gc]⟩
    ·obtain ⟨a,b,h2⟩:=ih.2 h
     exact ⟨32::(w++a),b,by rw [gc,h2];simp⟩
theorem resv_join:resv.data.toList=32::gc (words.map (·.data.toList)):=by decide
theorem words_32: ∀w∈words.map (·.data.toList),(32:UInt8) ∉ w:=by decide
theorem hasW_eq (s:ByteArray) (hg:goodR s=true):hasW s=words.any fun w=>w.toList==s.toList:=by
 have h32:(32:UInt8) ∉ s.data.toList:=by
  intro hm
  have:=List.all_eq_true.1 hg (((32:UInt8).toNat:Nat):Int) (List.mem_map.2 ⟨32,hm,rfl⟩)
  revert this;decide
 rw [Bool.eq_iff_iff,hasW,contains_iff,resv_join]
 have hd:(⟨#[32]⟩++s++⟨#[32]⟩:ByteArray).data.toList=32::(s.data.toList++[32]):=by
  simp [ByteArray.data_append]
 rw [hd]
 refine (in_join s.data.toList h32 _ words_32).trans ?_
 simp only [List.mem_map,List.any_eq_true,beq_iff_eq,ByteArray.toList_eq]
theorem name_eq (s:ByteArray):uc s=ud s:=by
 have h0:s.data[0]?.getD 0=s.data.getD 0 0:=by rw [Array.getD_eq_getD_getElem?]
 have h1:(!(s.toList==[] || decide (s.size>16)))=(decide (1<=s.size)&&decide (s.size<=16)):=by
  have:(s.toList==[])=decide (s.size=0):=by
   rw [Bool.eq_iff_iff,ByteArray.toList_eq]
   simp only [beq_iff_eq,decide_eq_true_eq]
   rw [<-List.length_eq_zero_iff,Array.length_toList];rfl
  rw [this,Bool.eq_iff_iff]
  simp only [Bool.not_eq_true',Bool.or_eq_false_iff,Bool.and_eq_true,decide_eq_false_iff_not,decide_eq_true_eq]
  omega
 unfold uc ud
 rw [h0,h1,show ((vh s).all fun c=> !badM c)=goodR s from rfl]
 by_cases hg:goodR s=true
 ·rw [hasW_eq s hg,hg,Bool.and_true,Bool.and_true]
 ·have:goodR s=false:=by simpa using hg
  rw [this];simp
theorem c_rname2 (s:ByteArray):ACall Tryz.prog 88 [str s] [] (boo (ud s)) []:=by rw [<-name_eq];exact c_rname s
end
section
open Go.Am
attribute [local simp, local push_cast] num boo str ints aV aTab zv aS aT aC zR zL aFk vT
theorem okKey_false {c:Nat} {l:List Int} {n:Nat} (h:n<l.length) (hn:okAt c l n=false):yG c l=false:=by rw [yG,xG h hn];rfl
theorem c_listed (t:Tbl) (l:List Int) (hl:l.length≤1000000000):ACall Tryz.prog 157 [aT t,ints l] [] (boo (yG t.columns.length l)) []:=by
 refine zn mixed ttok Tryz.func157 Tryz.ntmps157 Tryz.results157 ?_
 generalize hr:boo (yG t.columns.length l)=R
 simp -implicitDefEqProofs only [argT,↓zb,push_cast,simprocAttr,tte]
 refine zo mixed ttok 5 [1,2] [2] (by simp only [zC,ends,push_cast,simprocAttr];rfl) (by simp only [zH,zp,ends,push_cast,simprocAttr];rfl) l.length (fun n=> ∀i,i<n->okAt t.columns.length l i=true) (fun _=>[]) (fun _=>[]) (fun i h=>absurd h (Nat.not_lt_zero _)) ?_ ?_
 ·exact Weak.keepL (by simp [cst,ends]) (by simp [cst,ends]) (by simp [cst,ends])
 intro I hI n hn hi
 simp -implicitDefEqProofs only [cst,↓zb,push_cast,simprocAttr,tte]
 refine za (fun h=>?_) fun h=>?_
 ·simp only [decide_eq_true_eq] at h
  have h':n<l.length:=by omega
  have hw:=zj h' (by omega)
  have hbad:okAt t.columns.length l n=false->boo false=R:=fun hb=>by rw [<-hr,okKey_false h' hb]
  refine ⟨(by first | omega | trivial | (refine ⟨?_,?_⟩<;>first | omega | trivial | (refine ⟨?_,?_⟩<;>first | omega | trivial | (refine ⟨?_,?_⟩<;>first | omega | trivial | rfl)))),?_⟩
  refine za (fun g1=>?_) fun g1=>?_
  ·refine ⟨zf (by kernel_rfl),?_⟩
   exact zi trivial (hbad (by rw [okAt,decide_eq_false (by have:=of_decide_eq_true g1;omega)];rfl)) (by simp [ends])
  refine ⟨(by first | omega | trivial | (refine ⟨?_,?_⟩<;>first | omega | trivial | (refine ⟨?_,?_⟩<;>first | omega | trivial | (refine ⟨?_,?_⟩<;>first | omega | trivial | rfl)))),zf (by kernel_rfl),?_⟩
  refine za (fun g2=>?_) fun g2=>?_
  ·exact zi trivial (hbad (by rw [okAt,decide_eq_false (p:=l.getD n default<t.columns.length) (by have:=of_decide_eq_true g2;omega),Bool.and_false];rfl)) (by simp [ends])
  have hin:(decide (0<=l.getD n default)&&decide (l.getD n default<t.columns.length))=true:=by
   have:=of_decide_eq_false g1;have:=of_decide_eq_false g2
   simp only [Bool.and_eq_true,decide_eq_true_eq];omega
  refine zo mixed ttok 6 [1,2,5] [2] (by simp only [zC,ends,push_cast,simprocAttr];rfl) (by simp only [zH,zp,ends,push_cast,simprocAttr];rfl) n (fun k=> ∀i,i<k->l.getD i default≠l.getD n default) (fun _=>[]) (fun _=>[]) (fun i h=>absurd h (Nat.not_lt_zero _)) ?_ ?_
  ·exact Weak.keepL (by simp [cst,ends]) (by simp [cst,ends]) (by simp [cst,ends])
  intro J hJ k hk hki
  simp -implicitDefEqProofs only [cst,↓zb,push_cast,simprocAttr,tte]
  refine za (fun q=>?_) fun q=>?_
  ·simp only [decide_eq_true_eq] at q
   have q':k<n:=by omega
   have hwk:=zj q' (by omega)
   refine ⟨(by first | omega | trivial | (refine ⟨?_,?_⟩<;>first | omega | trivial | (refine ⟨?_,?_⟩<;>first | omega | trivial | (refine ⟨?_,?_⟩<;>first | omega | trivial | rfl)))),(by first | omega | trivial | (refine ⟨?_,?_⟩<;>first | omega | trivial | (refine ⟨?_,?_⟩<;>first | omega | trivial | (refine ⟨?_,?_⟩<;>first | omega | trivial | rfl)))),zf (by kernel_rfl),?_⟩
   refine za (fun e=>?_) fun e=>?_
   ·have he:l.getD k default=l.getD n default:=by simpa using e
    exact zi trivial (hbad (by
     have:(l.take n).contains (l.getD n default)=true:=by
      rw [<-he,List.contains_iff_mem]
      have hk2:k<(l.take n).length:=by simp;omega
      have:=List.getElem_mem hk2
      rw [List.getElem_take] at this
      rwa [List.getD_eq_getElem?_getD,List.getElem?_eq_getElem (by omega)]
     rw [okAt,this,Bool.not_true,Bool.and_false])) (by simp [ends])
   ·have he:l.getD k default≠l.getD n default:=by simpa using e
    exact zq hJ k rfl q' (fun i h2=>if h3:i=k then by rw [h3];exact he else hki i (by omega)) (by simp [hwk,ends]) (by simp [hwk,ends]) (by simp [hwk,ends]) (by simp [hwk,ends])
  ·simp only [decide_eq_false_iff_not] at q
   obtain rfl:k=n:=by omega
   have hok:okAt t.columns.length l k=true:=by
    rw [okAt,hin,Bool.true_and,Bool.not_eq_true',<-Bool.not_eq_true,List.contains_iff_mem]
    intro hm
    obtain ⟨i,hi3,he⟩:=List.getElem_of_mem hm
    have hi4:i<k:=by simp at hi3;omega
    rw [List.getElem_take] at he
    refine hki i hi4 ?_
    rw [<-he,List.getD_eq_getElem?_getD,List.getElem?_eq_getElem (by omega)];rfl
   exact zq hI k rfl h' (fun i h2=>if h3:i=k then by rw [h3];exact hok else hi i (by omega)) (by simp [hw,ends]) (by simp [hw,ends]) (by simp [hw,ends]) (by simp [hw,ends])
 ·simp only [decide_eq_false_iff_not] at h
  obtain rfl:n=l.length:=by omega
  have:yG t.columns.length l=decide ((l.length:Int)>0):=by
   rw [yG,all_range.2 hi,Bool.true_and]
   cases l<;>simp
  exact zi trivial (by rw [<-hr,this];rfl) (by simp [ends])
theorem c_target (s:Sch) (i j:Nat) (hs:s.length<=1000) (hi:i<s.length) (hj:j<(s.getD i default).foreigns.length):ACall Tryz.prog 90 [aS s,num i,num j] [] (zR (byT s ((s.getD i default).foreigns.getD j default).table)) []:=by
 refine zn mixed ttok Tryz.func90 Tryz.ntmps90 Tryz.results90 ?_
 generalize hr:zR (byT s ((s.getD i default).foreigns.getD j default).table)=R
 simp -implicitDefEqProofs only [argT,↓zb,push_cast,simprocAttr,tte]
 refine za (fun h=>absurd (of_decide_eq_true h) (by omega)) fun _=>?_
 refine za (fun h=>absurd (of_decide_eq_true h) (by omega)) fun _=>?_
 refine za (fun h=>absurd (of_decide_eq_true h) (by omega)) fun _=>?_
 refine ⟨by omega,?_⟩
 refine za (fun h=>absurd (of_decide_eq_true h) (by omega)) fun _=>?_
 refine ⟨by omega,by omega,?_⟩
 refine ze [[6],[0]] [] (gx s ((s.getD i default).foreigns.getD j default).table (by omega)) ?_
 simp -implicitDefEqProofs only [↓zb,push_cast,simprocAttr,tte]
 refine ⟨zf (by kernel_rfl),?_⟩
 exact zN trivial (by rw [<-hr];rfl) (by simp [ends])
theorem kX {α:Type} [Inhabited α] (p:α->Bool): ∀(l:List α) (i:Nat),i<l.length->p (l.getD i default)=true->0<=fidx p l/\fidx p l<=i
 | [],i,h,_=>by simp at h
 | x::l,0,_,hp=>by simp at hp;simp [fidx,hp]
 | x::l,i+1,h,hp=>by
   have:=kX p l i (by simpa using h) (by simpa using hp)
   simp only [fidx]
   split
   ·omega
   ·rw [if_neg (by omega)];omega
theorem byC_self (l:List Col) (i:Nat) (h:i<l.length):(vH (byC l (l.getD i default).name)<i) ↔ vH (byC l (l.getD i default).name)≠i:=by
 have:0<=byC l (l.getD i default).name/\byC l (l.getD i default).name<=i:=kX (fun t:Col=>t.name.toList==(l.getD i default).name.toList) l i h (by simp)
 unfold vH
 rw [if_neg (by omega)]
 omega
theorem byT_self (l:Sch) (i:Nat) (h:i<l.length):(vH (byT l (l.getD i default).name)<i) ↔ vH (byT l (l.getD i default).name)≠i:=by
 have:0<=byT l (l.getD i default).name/\byT l (l.getD i default).name<=i:=kX (fun t:Tbl=>t.name.toList==(l.getD i default).name.toList) l i h (by simp)
 unfold vH
 rw [if_neg (by omega)]
 omega
theorem c_rtable (t:Tbl) (ht:SmallT t):ACall Tryz.prog 89 [aT t] [] (num (yZ t)) []:=by
 refine zn mixed ttok Tryz.func89 Tryz.ntmps89 Tryz.results89 ?_
 generalize hr:num (yZ t)=R
 simp -implicitDefEqProofs only [argT,↓zb,push_cast,simprocAttr,tte]
 have hcl:=ht.cols
 have hkl:=ht.chk
 have hpl:=ht.prim
 have hul:=ht.uniq
 have hfl:=ht.fors
 have hbig:bigT t=true->retx (some (True,A.d (D.lit (Value.int .i64 8)))) ⟨[],[(1,vT t)]⟩ R []:=fun hb=>zi trivial (by rw [<-hr,yZ,if_pos hb];rfl) (by simp [ends])
 simp only [vT] at hbig
 refine za (fun h1=>?_) fun h1=>?_
 ·exact hbig (by rw [bigT,h1];simp only [Bool.true_or])
 refine za (fun h2=>?_) fun h2=>?_
 ·exact hbig (by rw [bigT,h2];simp only [Bool.or_true,Bool.true_or])
 refine za (fun h3=>?_) fun h3=>?_
 ·exact hbig (by rw [bigT,h3];simp only [Bool.or_true,Bool.true_or])
 refine za (fun h4=>?_) fun h4=>?_
 ·exact hbig (by rw [bigT,h4];simp only [Bool.or_true])
 clear hbig
 have hb: ¬bigT t=true:=by rw [bigT,h1,h2,h3,h4];decide
 refine za (fun h5=>?_) fun h5=>?_
 ·have h5':t.columns.length=0:=by simpa using h5
  exact zi trivial (by rw [<-hr,yZ,if_neg hb,if_pos h5'];rfl) (by simp [ends])
 have h5': ¬t.columns.length=0:=by simpa using h5
 have hM:yZ t=if ve (yH t) t.columns.length≠0 then ve (yH t) t.columns.length
  else if xm t≠0 then xm t else ferr (xg t) t.checks:=by rw [yZ,if_neg hb,if_neg h5']
 clear h1 h2 h3 h4 h5
 refine zo mixed ttok 3 [1] [1] (by simp only [zC,ends,push_cast,simprocAttr];rfl) (by simp only [zH,zp,ends,push_cast,simprocAttr];rfl) t.columns.length (fun n=> ∀i,i<n->yH t i=0) (fun _=>[]) (fun _=>[]) (fun i h=>absurd h (Nat.not_lt_zero _)) ?_ ?_
 ·exact Weak.keepL (by simp [cst,ends]) (by simp [cst,ends]) (by simp [cst,ends])
 intro I hI n hn hi
 simp -implicitDefEqProofs only [cst,↓zb,push_cast,simprocAttr,tte]
 refine za (fun h=>?_) fun h=>?_
 ·simp only [decide_eq_true_eq] at h
  have h':n<t.columns.length:=by omega
  have hw:=zj h' (by omega)
  have hE:yH t n≠0->num (yH t n)=R:=fun hne=>by
   have:=jq h' hi hne
   rw [<-hr,hM,this,if_pos hne]
  refine ⟨(by first | omega | trivial | (refine ⟨?_,?_⟩<;>first | omega | trivial | (refine ⟨?_,?_⟩<;>first | omega | trivial | (refine ⟨?_,?_⟩<;>first | omega | trivial | rfl)))),?_⟩
  refine ze [[0]] [] (c_rname2 (t.columns.getD n default).name) ?_
  simp -implicitDefEqProofs only [↓zb,push_cast,simprocAttr,tte]
  refine za (fun g1=>?_) fun g1=>?_
  ·have hc:yH t n=3:=if_pos g1
   exact zi trivial (by rw [<-hE (by rw [hc];decide),hc];rfl) (by simp [ends])
  refine ze [[0,3,1,1,2,6],[0]] [] (c_rcolumn t (t.columns.getD n default).name (by omega)) ?_
  simp -implicitDefEqProofs only [↓zb,push_cast,simprocAttr,tte]
  refine za (fun g2=>?_) fun g2=>?_
  ·have g2':vH (byC t.columns (t.columns.getD n default).name)≠n:=by simpa [vH] using g2
   have hc:yH t n=5:=by rw [yH,if_neg (by rw [g1];decide),if_pos ((byC_self t.columns n h').2 g2')]
   exact zi trivial (by rw [<-hE (by rw [hc];decide),hc];rfl) (by simp [ends])
  have g2': ¬vH (byC t.columns (t.columns.getD n default).name)≠n:=by simpa [vH] using g2
  have hcB:yH t n=if vj (t.columns.getD n default).type then 4 else 0:=by
   rw [yH,if_neg (by rw [g1];decide),if_neg (fun q=>g2' ((byC_self t.columns n h').1 q))]
  have hbt:vj (t.columns.getD n default).type=(decide ((t.columns.getD n default).type<1) || decide ((t.columns.getD n default).type>3)):=by
   rw [Bool.eq_iff_iff]
   simp only [vj,Bool.and_eq_true,Bool.or_eq_true,bne_iff_ne,ne_eq,decide_eq_true_eq]
   omega
  have hinv:vj (t.columns.getD n default).type=false-> ∀i,i<n+1->yH t i=0:=fun hb i h2=>if h3:i=n then by rw [h3,hcB,hb];rfl else hi i (by omega)
  refine za (fun g3=>?_) fun g3=>?_
  ·have hc:yH t n=4:=by rw [hcB,hbt,g3];rfl
   exact zi trivial (by rw [<-hE (by rw [hc];decide),hc];rfl) (by simp [ends])
  refine za (fun g4=>?_) fun g4=>?_
  ·have hc:yH t n=4:=by rw [hcB,hbt,g4,Bool.or_true];rfl
   exact zi trivial (by rw [<-hE (by rw [hc];decide),hc];rfl) (by simp [ends])
  exact zq hI n rfl h' (hinv (by rw [hbt,g3,g4];rfl)) (by simp [hw,ends]) (by simp [hw,ends]) (by simp [hw,ends]) (by simp [hw,ends])
 simp only [decide_eq_false_iff_not] at h
 obtain rfl:n=t.columns.length:=by omega
 clear hI
 have hM2:yZ t=if xm t≠0 then xm t else ferr (xg t) t.checks:=by rw [hM,vr hi,if_neg (by decide)]
 clear hM h hi hn I
 refine ze [[0,3,1,1,2,6],[1]] [] (c_listed t t.primary (by omega)) ?_
 simp -implicitDefEqProofs only [↓zb,push_cast,simprocAttr,tte]
 refine za (fun p1=>?_) fun p1=>?_
 ·have p1':yG t.columns.length t.primary=false:=by simpa using p1
  have hk:xm t=6:=by rw [xm,p1'];rfl
  exact zi trivial (by rw [<-hr,hM2,hk];rfl) (by simp [ends])
 have p1':yG t.columns.length t.primary=true:=by simpa using p1
 have hin:=qS p1'
 refine zo mixed ttok 7 [1] [1] (by simp only [zC,ends,push_cast,simprocAttr];rfl) (by simp only [zH,zp,ends,push_cast,simprocAttr];rfl) t.primary.length (fun n=> ∀i,i<n->vV t (t.primary.getD i default)=false) (fun _=>[]) (fun _=>[]) (fun i h=>absurd h (Nat.not_lt_zero _)) ?_ ?_
 ·exact Weak.keepL (by simp [cst,ends]) (by simp [cst,ends]) (by simp [cst,ends])
 intro I hI n hn hi
 simp -implicitDefEqProofs only [cst,↓zb,push_cast,simprocAttr,tte]
 refine za (fun h=>?_) fun h=>?_
 ·simp only [decide_eq_true_eq] at h
  have h':n<t.primary.length:=by omega
  have hw:=zj h' (by omega)
  have hic:=hin _ (zk h')
  obtain ⟨hc0,hc1⟩:=hic
  refine ⟨(by first | omega | trivial | (refine ⟨?_,?_⟩<;>first | omega | trivial | (refine ⟨?_,?_⟩<;>first | omega | trivial | (refine ⟨?_,?_⟩<;>first | omega | trivial | rfl)))),⟨hc0,hc1⟩,zf (by kernel_rfl),?_⟩
  refine za (fun g=>?_) fun g=>?_
  ·have hk:xm t=4:=by
    have:t.primary.any (vV t)=true:=List.any_eq_true.2 ⟨_,zk h',g⟩
    rw [xm,p1',this];rfl
   exact zi trivial (by rw [<-hr,hM2,hk];rfl) (by simp [ends])
  ·exact zq hI n rfl h' (fun i h2=>if h3:i=n then by rw [h3];exact g else hi i (by omega)) (by simp [hw,ends]) (by simp [hw,ends]) (by simp [hw,ends]) (by simp [hw,ends])
 simp only [decide_eq_false_iff_not] at h
 obtain rfl:n=t.primary.length:=by omega
 clear hI
 have hany:t.primary.any (vV t)=false:=by
  rw [List.any_eq_false];intro x hx
  obtain ⟨i,h1,rfl⟩:=u5 hx
  rw [hi i h1];decide
 have hkM:xm t=if (yq t).all (yG t.columns.length) then 0 else 6:=by rw [xm,p1',hany];rfl
 have hbad:(∃l∈yq t,yG t.columns.length l=false)->num 6=R:=fun ⟨l,hl,hk⟩=>by
  have:(yq t).all (yG t.columns.length)=false:=List.all_eq_false.2 ⟨l,hl,by rw [hk];decide⟩
  rw [<-hr,hM2,hkM,this];rfl
 clear hi hn h I
 refine zo mixed ttok 8 [1] [1] (by simp only [zC,ends,push_cast,simprocAttr];rfl) (by simp only [zH,zp,ends,push_cast,simprocAttr];rfl) t.uniques.length (fun n=> ∀i,i<n->yG t.columns.length (t.uniques.getD i default)=true) (fun _=>[]) (fun _=>[]) (fun i h=>absurd h (Nat.not_lt_zero _)) ?_ ?_
 ·exact Weak.keepL (by simp [cst,ends]) (by simp [cst,ends]) (by simp [cst,ends])
 intro I hI n hn hi
 simp -implicitDefEqProofs only [cst,↓zb,push_cast,simprocAttr,tte]
 refine za (fun h=>?_) fun h=>?_
 ·simp only [decide_eq_true_eq] at h
  have h':n<t.uniques.length:=by omega
  have hw:=zj h' (by omega)
  have hlu:=ht.uniqs _ (zk h')
  refine ⟨(by first | omega | trivial | (refine ⟨?_,?_⟩<;>first | omega | trivial | (refine ⟨?_,?_⟩<;>first | omega | trivial | (refine ⟨?_,?_⟩<;>first | omega | trivial | rfl)))),?_⟩
  refine ze [[0,3,1,1,2,6],[1]] [] (c_listed t (t.uniques.getD n default) (by omega)) ?_
  simp -implicitDefEqProofs only [↓zb,push_cast,simprocAttr,tte]
  refine ⟨zf (by kernel_rfl),?_⟩
  refine za (fun g=>?_) fun g=>?_
  ·have g':yG t.columns.length (t.uniques.getD n default)=false:=by simpa using g
   exact zi trivial (hbad ⟨_,List.mem_append.2 (.inl (zk h')),g'⟩) (by simp [ends])
  ·have g':yG t.columns.length (t.uniques.getD n default)=true:=by simpa using g
   exact zq hI n rfl h' (fun i h2=>if h3:i=n then by rw [h3];exact g' else hi i (by omega)) (by simp [hw,ends]) (by simp [hw,ends]) (by simp [hw,ends]) (by simp [hw,ends])
 simp only [decide_eq_false_iff_not] at h
 obtain rfl:n=t.uniques.length:=by omega
 clear hI
 have hU:=hi
 clear hi hn h I
 refine zo mixed ttok 9 [1] [1] (by simp only [zC,ends,push_cast,simprocAttr];rfl) (by simp only [zH,zp,ends,push_cast,simprocAttr];rfl) t.foreigns.length (fun n=> ∀i,i<n->yG t.columns.length (t.foreigns.getD i default).columns=true) (fun _=>[]) (fun _=>[]) (fun i h=>absurd h (Nat.not_lt_zero _)) ?_ ?_
 ·exact Weak.keepL (by simp [cst,ends]) (by simp [cst,ends]) (by simp [cst,ends])
 intro I hI n hn hi
 simp -implicitDefEqProofs only [cst,↓zb,push_cast,simprocAttr,tte]
 refine za (fun h=>?_) fun h=>?_
 ·simp only [decide_eq_true_eq] at h
  have h':n<t.foreigns.length:=by omega
  have hw:=zj h' (by omega)
  have hlu:=ht.forss _ (zk h')
  refine ⟨(by first | omega | trivial | (refine ⟨?_,?_⟩<;>first | omega | trivial | (refine ⟨?_,?_⟩<;>first | omega | trivial | (refine ⟨?_,?_⟩<;>first | omega | trivial | rfl)))),?_⟩
  refine ze [[0,3,1,1,2,6],[1]] [] (c_listed t (t.foreigns.getD n default).columns (by omega)) ?_
  simp -implicitDefEqProofs only [↓zb,push_cast,simprocAttr,tte]
  refine ⟨zf (by kernel_rfl),?_⟩
  refine za (fun g=>?_) fun g=>?_
  ·have g':yG t.columns.length (t.foreigns.getD n default).columns=false:=by simpa using g
   exact zi trivial (hbad ⟨_,List.mem_append.2 (.inr (List.mem_map.2 ⟨_,zk h',rfl⟩)),g'⟩) (by simp [ends])
  ·have g':yG t.columns.length (t.foreigns.getD n default).columns=true:=by simpa using g
   exact zq hI n rfl h' (fun i h2=>if h3:i=n then by rw [h3];exact g' else hi i (by omega)) (by simp [hw,ends]) (by simp [hw,ends]) (by simp [hw,ends]) (by simp [hw,ends])
 simp only [decide_eq_false_iff_not] at h
 obtain rfl:n=t.foreigns.length:=by omega
 clear hI
 have hk0:xm t=0:=by
  have:(yq t).all (yG t.columns.length)=true:=by
   rw [List.all_eq_true]
   intro l hl
   rcases List.mem_append.1 hl with hl | hl
   ·obtain ⟨i,h1,rfl⟩:=u5 hl;exact hU i h1
   ·obtain ⟨f,hf,rfl⟩:=List.mem_map.1 hl
    obtain ⟨i,h1,rfl⟩:=u5 hf;exact hi i h1
  rw [hkM,this];rfl
 rw [hk0,if_neg (by decide)] at hM2
 clear hi hn h I hbad hkM hU
 refine zo mixed ttok 10 [1] [1] (by simp only [zC,ends,push_cast,simprocAttr];rfl) (by simp only [zH,zp,ends,push_cast,simprocAttr];rfl) t.checks.length (fun n=> ∀i,i<n->xg t (t.checks.getD i default)=0) (fun _=>[]) (fun _=>[]) (fun i h=>absurd h (Nat.not_lt_zero _)) ?_ ?_
 ·exact Weak.keepL (by simp [cst,ends]) (by simp [cst,ends]) (by simp [cst,ends])
 intro I hI n hn hi
 simp -implicitDefEqProofs only [cst,↓zb,push_cast,simprocAttr,tte]
 refine za (fun h=>?_) fun h=>?_
 ·simp only [decide_eq_true_eq] at h
  have h':n<t.checks.length:=by omega
  have hw:=zj h' (by omega)
  have hE:xg t (t.checks.getD n default)≠0->num (xg t (t.checks.getD n default))=R:=fun hne=>by
   have:=xK (xg t) t.checks n h' hi hne
   rw [<-hr,hM2,this]
  have hl:(zD t).length<=1000000000:=by rw [zD,List.length_map];omega
  refine ze [[0,3,1,1,2,6]] [] (wu t (by omega)) ?_
  simp -implicitDefEqProofs only [↓zb,push_cast,simprocAttr,tte]
  refine ⟨(by first | omega | trivial | (refine ⟨?_,?_⟩<;>first | omega | trivial | (refine ⟨?_,?_⟩<;>first | omega | trivial | (refine ⟨?_,?_⟩<;>first | omega | trivial | rfl)))),?_⟩
  refine ze [[1],[0,0,0,0,0,6]] [] (c_rtype (zD t) hl (t.checks.getD n default) (ht.chks _ (zk h'))) ?_
  simp -implicitDefEqProofs only [zL,↓zb,push_cast,simprocAttr,tte]
  refine ⟨zf (by kernel_rfl),?_⟩
  refine za (fun g1=>?_) fun g1=>?_
  ·have g1':(yC (ownM (zD t)) (t.checks.getD n default)).2≠0:=by simpa using g1
   have hc:xg t (t.checks.getD n default)=(yC (ownM (zD t)) (t.checks.getD n default)).2:=if_pos g1'
   exact zi trivial (by rw [<-hE (by rw [hc];exact g1'),hc];rfl) (by simp [ends])
  have g1': ¬(yC (ownM (zD t)) (t.checks.getD n default)).2≠0:=by simpa using g1
  refine za (fun g2=>?_) fun g2=>?_
  ·have g2':(yC (ownM (zD t)) (t.checks.getD n default)).1≠2:=by simpa using g2
   have hc:xg t (t.checks.getD n default)=4:=by rw [xg,if_neg g1',if_pos g2']
   exact zi trivial (by rw [<-hE (by rw [hc];decide),hc];rfl) (by simp [ends])
  have g2': ¬(yC (ownM (zD t)) (t.checks.getD n default)).1≠2:=by simpa using g2
  have hc:xg t (t.checks.getD n default)=0:=by rw [xg,if_neg g1',if_neg g2']
  exact zq hI n rfl h' (fun i h2=>if h3:i=n then by rw [h3];exact hc else hi i (by omega)) (by simp [hw,ends]) (by simp [hw,ends]) (by simp [hw,ends]) (by simp [hw,ends])
 simp only [decide_eq_false_iff_not] at h
 obtain rfl:n=t.checks.length:=by omega
 exact zi trivial (by rw [<-hr,hM2,yT _ _ hi];rfl) (by simp [ends])
end
section
open Go.Am
attribute [local simp, local push_cast] num boo str ints aV aTab zv aS aT aC zR zL aFk vT
def rB (b:Bool):List D:=[.lit (.bool b)]
attribute [local simp, local push_cast] rB
def jU (s:Sch) (p:List Int):List Bool:=(List.range s.length).map fun i:Nat=>p.contains (i:Int)
theorem gn (s:Sch) (p:List Int):(jU s p).length=s.length:=by simp [jU]
theorem doneL_get (s:Sch) (p:List Int) (i:Nat) (h:i<s.length):(jU s p).getD i default=p.contains (i:Int):=by
 rw [jU,List.getD_eq_getElem?_getD,List.getElem?_map,List.getElem?_range h];rfl
theorem doneL_nil (s:Sch):jU s []=List.replicate s.length false:=by
 apply List.ext_getElem?
 intro i
 simp only [jU,List.getElem?_map,List.getElem?_replicate]
 by_cases h:i<s.length
 ·rw [List.getElem?_range h,if_pos h];rfl
 ·rw [List.getElem?_eq_none (by simp;omega),if_neg h];rfl
theorem doneL_set (s:Sch) (p:List Int) (k:Int) (h0:0<=k) (h1:k<s.length):(jU s p).set k.toNat true=jU s (p++[k]):=by
 apply List.ext_getElem?
 intro i
 rw [List.getElem?_set,gn]
 by_cases hi:i<s.length
 ·simp only [jU,List.getElem?_map]
  rw [List.getElem?_range hi]
  by_cases hk:k.toNat=i
  ·rw [if_pos hk,if_pos (by omega)]
   have:k=(i:Int):=by omega
   simp [this]
  ·rw [if_neg hk]
   have: ¬(i:Int)=k:=by omega
   simp [this]
 ·rw [if_neg (by omega)]
  simp only [jU,List.getElem?_map]
  rw [List.getElem?_eq_none (by simp;omega)];rfl
def cst0 (kt:List (Nat×A)) (ts:Nat->List (Nat×A)) (os:Nat->List (Nat×Ob)) (n:Nat):SL:=⟨ts n++kt,os n⟩
theorem loop_count0 {P:Program} {tt:Types} (hm:P.follows .mixedOrders=true) (T':tt.ok P) {c:Code} {K:Exit->SL->Prop} {t:List (Nat×A)} {o:List (Nat×Ob)} {kt:List (Nat×A)}
 (keep:List Nat) (hk:zC t keep=kt) (N:Nat) (Inv:Nat->Prop) (ts:Nat->List (Nat×A)) (os:Nat->List (Nat×Ob)) (h0:Inv 0)
 (hw:Weak (SL.mk t o).st (cst0 kt ts os 0).st)
 (step: ∀(I:{n:Nat // n<=N/\Inv n}->SL),(∀x,I x=cst0 kt ts os x.1)-> ∀(n:Nat) (hn:n<=N) (hi:Inv n),ev P tt c (ue I (fun x=>N-x.1) ⟨n,hn,hi⟩ K) (cst0 kt ts os n)):
 vc P c K ⟨t,o⟩:=
 u6 hm T' (fun x:{n:Nat // n<=N/\Inv n}=>cst0 kt ts os x.1) (fun x=>N-x.1) ⟨0,Nat.zero_le _,h0⟩ hw fun ⟨n,hn,hi⟩=>step _ (fun _=>rfl) n hn hi
theorem cnt_again0 {N:Nat} {Inv:Nat->Prop} {I:{n:Nat // n<=N/\Inv n}->SL} {kt:List (Nat×A)} {ts:Nat->List (Nat×A)} {os:Nat->List (Nat×Ob)} (hI: ∀x,I x=cst0 kt ts os x.1)
 (n:Nat) {x:{n:Nat // n<=N/\Inv n}} (hx:x.1=n) {K:Exit->SL->Prop} {t:List (Nat×A)} {o:List (Nat×Ob)} (h1:n<N) (h2:Inv (n+1))
 (hw:Weak (SL.mk t o).st (cst0 kt ts os (n+1)).st):ue I (fun x=>N-x.1) x K .normal ⟨t,o⟩:=by
 refine ⟨⟨n+1,h1,h2⟩,by show N-(n+1)<N-x.1;omega,?_⟩
 rw [hI]
 exact hw
def vv (s:Sch) (p:List Int):Nat->Int
 | 0=> -1
 | j+1=>if vd s p j then j else -1
theorem vv_pick {s:Sch} {p:List Int} {j:Nat} (hj:j<=s.length) (hji: ∀i,i+1<j->vd s p i=false) (h:j=s.length\/ ¬vv s p j<0):vv s p j=yS s p:=by
 have hg: ∀i,i<s.length->(List.range s.length).getD i default=i:=fun i hi=>u0 hi
 cases j with
 | zero=>
   rcases h with h | h
   ·have:yS s p= -1:=by rw [yS,←h];rfl
    rw [this];rfl
   ·exact absurd (show (-1:Int)<0 by decide) h
 | succ j=>
   by_cases hf:vd s p j=true
   ·have h1:vv s p (j+1)=j:=if_pos hf
    rw [h1,yS]
    symm
    refine vA (vd s p) (List.range s.length) j (by simp;omega) (fun i hi=>?_) ?_
    ·rw [hg i (by omega)];exact hji i (by omega)
    ·rw [hg j (by omega)];exact hf
   ·have hf':vd s p j=false:=by simpa using hf
    have h1:vv s p (j+1)= -1:=if_neg hf
    rw [h1] at h ⊢
    have hj2:j+1=s.length:=h.resolve_right (by decide)
    rw [yS]
    symm
    refine xE (vd s p) (List.range s.length) fun i hi=>?_
    rw [List.length_range] at hi
    rw [hg i hi]
    by_cases hij:i=j
    ·rw [hij];exact hf'
    ·exact hji i (by omega)
def frK (s:Sch) (p:List Int) (j k:Nat):Bool:=(!p.contains (j:Int))&&((fks s j).take k).all fun f=>p.contains (byT s f.table)
theorem frK_zero (s:Sch) (p:List Int) (j:Nat):frK s p j 0= !p.contains (j:Int):=by rw [frK];simp
theorem frK_succ (s:Sch) (p:List Int) (j k:Nat) (h:k<(fks s j).length):frK s p j (k+1)=(frK s p j k&&p.contains (byT s ((fks s j).getD k default).table)):=by
 rw [frK,frK,z7 _ _ h,List.all_append];simp [Bool.and_assoc]
theorem frK_all (s:Sch) (p:List Int) (j:Nat):frK s p j (fks s j).length=vd s p j:=by rw [frK,List.take_length];rfl
theorem setB_rows (l:List Bool) (k:Nat) (h:k<l.length):(zd rB l).set k (D.lit (Value.bool true)::List.drop 1 ((zd rB l).getD k []))=zd rB (l.set k true):=by
 have h1:(zd rB l).getD k []=rB (l.getD k default):=by
  simp only [zd,List.getD_eq_getElem?_getD,List.getElem?_map,List.getElem?_eq_getElem h];rfl
 rw [h1]
 show (zd rB l).set k (rB true)=_
 rw [zd,zd,List.map_set]
theorem c_rorder (s:Sch) (hs:s.length≤6) (hf: ∀t∈s,t.foreigns.length≤1000) (hall: ∀t∈s,∀f∈t.foreigns,0≤byT s f.table):
 ACall Tryz.prog 91 [aS s] [] (.tup [ints (j9 s),num (wY s)]) []:=by
 refine zn mixed ttok Tryz.func91 Tryz.ntmps91 Tryz.results91 ?_
 generalize hr:A.tup [ints (j9 s),num (wY s)]=R
 simp -implicitDefEqProofs only [argT,↓zb,push_cast,simprocAttr,tte]
 refine zo mixed ttok 4 [1] [1] (by simp only [zC,ends,push_cast,simprocAttr];rfl) (by simp only [zH,zp,ends,push_cast,simprocAttr];rfl) s.length (fun _=>True) (fun _=>[]) (fun _=>[]) trivial ?_ ?_
 ·exact Weak.keepL (by simp [cst,ends]) (by simp [cst,ends]) (by simp [cst,ends])
 intro I hI n hn hi
 simp -implicitDefEqProofs only [cst,↓zb,push_cast,simprocAttr,tte]
 refine za (fun h=>?_) fun h=>?_
 ·simp only [decide_eq_true_eq] at h
  have h':n<s.length:=by omega
  have hw:=zj h' (by omega)
  have hlF:=hf _ (zk h')
  have hallF:=hall _ (zk h')
  refine zo mixed ttok 5 [1,4] [1] (by simp only [zC,ends,push_cast,simprocAttr];rfl) (by simp only [zH,zp,ends,push_cast,simprocAttr];rfl) (s.getD n default).foreigns.length (fun _=>True) (fun _=>[]) (fun _=>[]) trivial ?_ ?_
  ·exact Weak.keepL (by simp [cst,ends]) (by simp [cst,ends]) (by simp [cst,ends])
  intro J hJ k hk _
  simp -implicitDefEqProofs only [cst,↓zb,push_cast,simprocAttr,tte]
  refine ⟨(by first | omega | trivial | (refine ⟨?_,?_⟩<;>first | omega | trivial | (refine ⟨?_,?_⟩<;>first | omega | trivial | (refine ⟨?_,?_⟩<;>first | omega | trivial | rfl)))),?_⟩
  refine za (fun g=>?_) fun g=>?_
  ·simp only [decide_eq_true_eq] at g
   have k':k<(s.getD n default).foreigns.length:=by omega
   have hwk:=zj k' (by omega)
   refine ze [[6],[0],[0]] [] (c_target s n k (by omega) h' k') ?_
   simp -implicitDefEqProofs only [↓zb,push_cast,simprocAttr,tte]
   have hge:=hallF _ (zk k')
   refine za (fun h=>absurd h (by rw [decide_eq_true hge];decide)) fun _=>?_
   exact zq hJ k rfl k' trivial (by simp [hwk,ends]) (by simp [hwk,ends]) (by simp [hwk,ends]) (by simp [hwk,ends])
  ·exact zq hI n rfl h' trivial (by simp [hw,ends]) (by simp [hw,ends]) (by simp [hw,ends]) (by simp [hw,ends])
 clear hI hi hn I
 clear h
 refine ⟨⟨by omega,by omega,by omega⟩,?_⟩
 have hrep:List.replicate s.length [D.lit (Value.bool false)]=zd rB (jU s []):=by rw [doneL_nil,zd,List.map_replicate];rfl
 rw [hrep]
 refine loop_count0 mixed ttok [1,8] (by simp only [zC,ends,ite_true,ite_false,reduceIte,Nat.reduceEqDiff,Nat.reduceLeDiff,Nat.reduceLT,Nat.reduceAdd,reduceCtorEq,num,boo,str,ints,aV,aTab,zv,aS,aT,aC,zR,zL,aFk,vT,rB];rfl) s.length (fun n=> ∀i,i<n->0<=yS s (yw s i)) (fun n=>[(9,.vec 500 n)])
  (fun n=>[(46,.vec 4 1 (zd rB (jU s (yw s n))) 0),(500,.vec 3 1 (zd rI (yw s n)) 0),(1,.var [.d (.sl 6 (zd rT s))])]) (fun i h=>absurd h (Nat.not_lt_zero _)) ?_ ?_
 ·exact (Weak.nilL 9 500 3 1 rfl rfl).trans (Weak.keepL (by simp [cst0,ends]) (by simp [cst0,yw,ends]) (by simp [cst0,ends]))
 intro I hI n hn hi
 have hpl:=j8 s n
 generalize hp:yw s n=p at hpl
 have hdl:=gn s p
 simp -implicitDefEqProofs only [cst0,hp,↓zb,push_cast,simprocAttr,tte]
 refine ⟨hpl.symm,?_⟩
 refine za (fun h=>?_) fun h=>?_
 ·simp only [decide_eq_true_eq] at h
  have h':n<s.length:=by omega
  refine zo mixed ttok 11 [1,8,9] [46,500,1] (by simp only [zC,ends,ite_true,ite_false,reduceIte,Nat.reduceEqDiff,Nat.reduceLeDiff,Nat.reduceLT,Nat.reduceAdd,reduceCtorEq,num,boo,str,ints,aV,aTab,zv,aS,aT,aC,zR,zL,aFk,vT,rB];rfl) (by simp only [zH,zp,ends,ite_true,ite_false,reduceIte,Nat.reduceEqDiff,Nat.reduceLeDiff,Nat.reduceLT,Nat.reduceAdd,reduceCtorEq,num,boo,str,ints,aV,aTab,zv,aS,aT,aC,zR,zL,aFk,vT,rB];rfl) s.length (fun j=> ∀i,i+1<j->vd s p i=false)
   (fun j=>[(10,.d (.lit (.int .i64 (vv s p j))))]) (fun _=>[]) (fun i h=>absurd h (by omega)) ?_ ?_
  ·exact Weak.keepL (by simp [cst,vv,ends]) (by simp [cst,ends]) (by simp [cst,ends])
  intro J hJ j hj hji
  simp -implicitDefEqProofs only [cst,↓zb,push_cast,simprocAttr,tte]
  have hFe:(s.getD j default).foreigns=fks s j:=rfl
  refine za (fun q1=>?_) fun q1=>?_
  ·simp only [decide_eq_true_eq] at q1
   have j':j<s.length:=by omega
   have hwj:=zj j' (by omega)
   refine za (fun q2=>?_) fun q2=>?_
   ·have q2':vv s p j<0:=of_decide_eq_true q2
    have hji2: ∀i,i+1<j+1->vd s p i=false:=fun i h2=>by
     by_cases h3:i+1=j
     ·subst h3
      simp only [vv] at q2'
      split at q2'
      ·omega
      ·rename_i hh;simpa using hh
     ·exact hji i (by omega)
    refine ⟨⟨by omega,hdl.symm⟩,by omega,hdl.symm,?_⟩
    have hlF:=hf _ (zk j')
    have hallF:=hall _ (zk j')
    have hd0:=doneL_get s p j j'
    rw [hd0,<-frK_zero s p j]
    rw [hFe] at hlF hallF
    refine zo mixed ttok 13 [1,8,9,10,11] [46,500,1] (by simp only [zC,ends,push_cast,simprocAttr];rfl) (by simp only [zH,zp,ends,push_cast,simprocAttr];rfl) (fks s j).length (fun _=>True) (fun k=>[(12,.d (.lit (.bool (frK s p j k))))]) (fun _=>[]) trivial ?_ ?_
    ·exact Weak.keepL (by simp [cst,ends]) (by simp [cst,ends]) (by simp [cst,ends])
    intro Q hQ k hk _
    simp -implicitDefEqProofs only [cst,hFe,↓zb,push_cast,simprocAttr,tte]
    refine ⟨(by first | omega | trivial | (refine ⟨?_,?_⟩<;>first | omega | trivial | (refine ⟨?_,?_⟩<;>first | omega | trivial | (refine ⟨?_,?_⟩<;>first | omega | trivial | rfl)))),?_⟩
    refine za (fun g=>?_) fun g=>?_
    ·simp only [decide_eq_true_eq] at g
     have k':k<(fks s j).length:=by omega
     have hwk:=zj k' (by omega)
     have hge:=hallF _ (zk k')
     have hlt:byT s ((fks s j).getD k default).table<s.length:=xZ _ _
     refine ze [[6],[0],[0]] [] (c_target s j k (by omega) j' k') ?_
     simp -implicitDefEqProofs only [hFe,↓zb,push_cast,simprocAttr,tte]
     have hd1:=doneL_get s p (byT s ((fks s j).getD k default).table).toNat (by omega)
     rw [Int.toNat_of_nonneg hge] at hd1
     simp only [if_neg (show¬0>byT s ((fks s j).getD k default).table by omega)]
     have hsk:=frK_succ s p j k k'
     refine za (fun f1=>?_) fun f1=>?_
     ·refine ⟨⟨⟨hge,hlt⟩,hdl.symm⟩,by omega,hdl.symm,?_⟩
      rw [hd1]
      exact zq hQ k rfl k' trivial (by simp [hwk,hsk,f1,ends]) (by simp [hwk,hsk,f1,ends]) (by simp [hwk,hsk,f1,ends]) (by simp [hwk,hsk,f1,ends])
     ·exact zq hQ k rfl k' trivial (by simp [hwk,hsk,f1,ends]) (by simp [hwk,hsk,f1,ends]) (by simp [hwk,hsk,f1,ends]) (by simp [hwk,hsk,f1,ends])
    ·simp only [decide_eq_false_iff_not] at g
     obtain rfl:k=(fks s j).length:=by omega
     rw [frK_all]
     refine za (fun f1=>?_) fun f1=>?_
     ·have hvs:vv s p (j+1)=j:=if_pos f1
      exact zq hJ j rfl j' hji2 (by simp [hwj,hvs,ends]) (by simp [hwj,hvs,ends]) (by simp [hwj,hvs,ends]) (by simp [hwj,hvs,ends])
     ·have hvs:vv s p (j+1)=vv s p j:=by
       have h1:vv s p (j+1)= -1:=by simp only [vv,f1];rfl
       rw [h1]
       cases j with
       | zero=>rfl
       | succ i=>simp only [vv] at q2' ⊢;split at q2'<;>first | omega | (rename_i hh;rw [if_neg hh])
      exact zq hJ j rfl j' hji2 (by simp [hwj,hvs,ends]) (by simp [hwj,hvs,ends]) (by simp [hwj,hvs,ends]) (by simp [hwj,hvs,ends])
   ·have hv:=vv_pick hj hji (.inr (of_decide_eq_false q2))
    have hE:yS s p<0->A.tup [ints [],num 7]=R:=fun hneg=>by
     have hno:jA s=false:=xG h' (by rw [hp];exact decide_eq_false (by omega))
     rw [<-hr,j9,wY,hno];rfl
    rw [hv]
    refine za (fun hneg=>?_) fun hneg=>?_
    ·have hR:=hE (of_decide_eq_true hneg)
     subst hR
     refine zx [[1],[0]] rfl (by simp) (by simp [zc]<;>omega) ?_ (by first | rfl | simp [ends] | (subst_vars;simp [ends])) (by simp [ends]) (by simp [ends])
     rfl
    have hge:0<=yS s p:=by have:=of_decide_eq_false hneg;omega
    have hlt:yS s p<s.length:=by have:=xZ (vd s p) (List.range s.length);rw [List.length_range] at this;exact this
    have hinv: ∀i,i<n+1->0<=yS s (yw s i):=fun i h2=>if h3:i=n then by rw [h3,hp];exact hge else hi i (by omega)
    have hpk:yw s (n+1)=p++[yS s p]:=by rw [yw,hp]
    have hds:=doneL_set s p (yS s p) hge hlt
    refine ⟨⟨⟨hge,hlt⟩,hdl.symm⟩,⟨hdl.symm,by omega,by omega⟩,⟨hpl.symm,by omega⟩,?_⟩
    rw [setB_rows _ _ (by omega),hds,<-hpk]
    exact cnt_again0 hI n rfl h' hinv (Weak.keepL (by simp [cst0,hpl,ends]) (by simp [cst0,ends]) (by simp [cst0,ends]))
  ·have hv:=vv_pick hj hji (.inl (by have:=of_decide_eq_false q1;omega))
   have hE:yS s p<0->A.tup [ints [],num 7]=R:=fun hneg=>by
    have hno:jA s=false:=xG h' (by rw [hp];exact decide_eq_false (by omega))
    rw [<-hr,j9,wY,hno];rfl
   rw [hv]
   refine za (fun hneg=>?_) fun hneg=>?_
   ·have hR:=hE (of_decide_eq_true hneg)
    subst hR
    refine zx [[1],[0]] rfl (by simp) (by simp [zc]<;>omega) ?_ (by first | rfl | simp [ends] | (subst_vars;simp [ends])) (by simp [ends]) (by simp [ends])
    rfl
   have hge:0<=yS s p:=by have:=of_decide_eq_false hneg;omega
   have hlt:yS s p<s.length:=by have:=xZ (vd s p) (List.range s.length);rw [List.length_range] at this;exact this
   have hinv: ∀i,i<n+1->0<=yS s (yw s i):=fun i h2=>if h3:i=n then by rw [h3,hp];exact hge else hi i (by omega)
   have hpk:yw s (n+1)=p++[yS s p]:=by rw [yw,hp]
   have hds:=doneL_set s p (yS s p) hge hlt
   refine ⟨⟨⟨hge,hlt⟩,hdl.symm⟩,⟨hdl.symm,by omega,by omega⟩,⟨hpl.symm,by omega⟩,?_⟩
   rw [setB_rows _ _ (by omega),hds,<-hpk]
   exact cnt_again0 hI n rfl h' hinv (Weak.keepL (by simp [cst0,hpl,ends]) (by simp [cst0,ends]) (by simp [cst0,ends]))
 ·simp only [decide_eq_false_iff_not] at h
  obtain rfl:n=s.length:=by omega
  have hok:jA s=true:=all_range.2 fun i hi2=>decide_eq_true (hi i hi2)
  have hR:A.tup [ints p,num 0]=R:=by rw [<-hr,j9,wY,hok,<-hp];rfl
  subst hR
  refine zx [[1],[0]] rfl (by simp) (by simp [zc]<;>omega) ?_ (by first | rfl | simp [ends] | (subst_vars;simp [ends])) (by simp [ends]) (by simp [ends])
  rfl
end
section
open Go.Am
attribute [local simp, local push_cast] num boo str ints aV aTab zv aS aT aC zR zL aFk vT
theorem c_rsvalid (s:Sch) (hs:SmallS s):ACall Tryz.prog 46 [aS s] [] (num (xr s)) []:=by
 refine zn mixed ttok Tryz.func46 Tryz.ntmps46 Tryz.results46 ?_
 generalize hr:num (xr s)=R
 have hl:=hs.len
 simp -implicitDefEqProofs only [argT,↓zb,push_cast,simprocAttr,tte]
 refine za (fun h0=>?_) fun h0=>?_
 ·exact zi trivial (by rw [<-hr,xr,if_pos (of_decide_eq_true h0)];rfl) (by simp [ends])
 have h0': ¬(s.length:Int)>6:=of_decide_eq_false h0
 have hM:xr s=if ve (y5 s) s.length≠0 then ve (y5 s) s.length
  else if ferr (yL s) s≠0 then ferr (yL s) s else wY s:=by rw [xr,if_neg h0']
 refine zo mixed ttok 3 [1] [1] (by simp only [zC,ends,push_cast,simprocAttr];rfl) (by simp only [zH,zp,ends,push_cast,simprocAttr];rfl) s.length (fun n=> ∀i,i<n->y5 s i=0) (fun _=>[]) (fun _=>[]) (fun i h=>absurd h (Nat.not_lt_zero _)) ?_ ?_
 ·exact Weak.keepL (by simp [cst,ends]) (by simp [cst,ends]) (by simp [cst,ends])
 intro I hI n hn hi
 simp -implicitDefEqProofs only [cst,↓zb,push_cast,simprocAttr,tte]
 refine za (fun h=>?_) fun h=>?_
 ·simp only [decide_eq_true_eq] at h
  have h':n<s.length:=by omega
  have hw:=zj h' (by omega)
  have hE:y5 s n≠0->num (y5 s n)=R:=fun hne=>by
   have:=jq h' hi hne
   rw [<-hr,hM,this,if_pos hne]
  have hg:s.getD n default∈s:=zk h'
  refine ⟨(by first | omega | trivial | (refine ⟨?_,?_⟩<;>first | omega | trivial | (refine ⟨?_,?_⟩<;>first | omega | trivial | (refine ⟨?_,?_⟩<;>first | omega | trivial | rfl)))),?_⟩
  refine ze [[0]] [] (c_rname2 (s.getD n default).name) ?_
  simp -implicitDefEqProofs only [↓zb,push_cast,simprocAttr,tte]
  refine za (fun g1=>?_) fun g1=>?_
  ·have hc:y5 s n=3:=if_pos g1
   exact zi trivial (by rw [<-hE (by rw [hc];decide),hc];rfl) (by simp [ends])
  refine ⟨(by first | omega | trivial | (refine ⟨?_,?_⟩<;>first | omega | trivial | (refine ⟨?_,?_⟩<;>first | omega | trivial | (refine ⟨?_,?_⟩<;>first | omega | trivial | rfl)))),?_⟩
  refine ze [[6],[0]] [] (gx s (s.getD n default).name (by omega)) ?_
  simp -implicitDefEqProofs only [↓zb,push_cast,simprocAttr,tte]
  refine ⟨zf (by kernel_rfl),?_⟩
  refine za (fun g2=>?_) fun g2=>?_
  ·have g2':vH (byT s (s.getD n default).name)≠n:=by simpa [vH] using g2
   have hc:y5 s n=5:=by rw [y5,if_neg (by rw [g1];decide),if_pos ((byT_self s n h').2 g2')]
   exact zi trivial (by rw [<-hE (by rw [hc];decide),hc];rfl) (by simp [ends])
  have g2': ¬vH (byT s (s.getD n default).name)≠n:=by simpa [vH] using g2
  have hcB:y5 s n=yZ (s.getD n default):=by rw [y5,if_neg (by rw [g1];decide),if_neg (fun q=>g2' ((byT_self s n h').1 q))]
  refine ⟨(by first | omega | trivial | (refine ⟨?_,?_⟩<;>first | omega | trivial | (refine ⟨?_,?_⟩<;>first | omega | trivial | (refine ⟨?_,?_⟩<;>first | omega | trivial | rfl)))),?_⟩
  refine ze [[0,3,1,1,2,6]] [] (c_rtable (s.getD n default) (hs.tab _ hg)) ?_
  simp -implicitDefEqProofs only [↓zb,push_cast,simprocAttr,tte]
  refine za (fun g3=>?_) fun g3=>?_
  ·have g3':y5 s n≠0:=by rw [hcB];simpa using g3
   exact zi trivial (by rw [<-hE g3',hcB];rfl) (by simp [ends])
  ·have g3':y5 s n=0:=by rw [hcB];simpa using g3
   exact zq hI n rfl h' (fun i h2=>if h3:i=n then by rw [h3];exact g3' else hi i (by omega)) (by simp [hw,ends]) (by simp [hw,ends]) (by simp [hw,ends]) (by simp [hw,ends])
 simp only [decide_eq_false_iff_not] at h
 obtain rfl:n=s.length:=by omega
 have hM2:xr s=if ferr (yL s) s≠0 then ferr (yL s) s else wY s:=by rw [hM,vr hi,if_neg (by decide)]
 have htab: ∀t∈s,yZ t=0:=fun t ht=>by
  obtain ⟨i,h1,h2⟩:=u5 ht
  rw [<-h2];exact qH (hi i h1)
 clear hI hM h hi hn I
 refine zo mixed ttok 7 [1] [1] (by simp only [zC,ends,push_cast,simprocAttr];rfl) (by simp only [zH,zp,ends,push_cast,simprocAttr];rfl) s.length (fun n=> ∀i,i<n->yL s (s.getD i default)=0) (fun _=>[]) (fun _=>[]) (fun i h=>absurd h (Nat.not_lt_zero _)) ?_ ?_
 ·exact Weak.keepL (by simp [cst,ends]) (by simp [cst,ends]) (by simp [cst,ends])
 intro I hI n hn hi
 simp -implicitDefEqProofs only [cst,↓zb,push_cast,simprocAttr,tte]
 refine za (fun h=>?_) fun h=>?_
 ·simp only [decide_eq_true_eq] at h
  have h':n<s.length:=by omega
  have hw:=zj h' (by omega)
  have hg:s.getD n default∈s:=zk h'
  have hE:yL s (s.getD n default)≠0->num (yL s (s.getD n default))=R:=fun hne=>by
   have:=xK (yL s) s n h' hi hne
   rw [<-hr,hM2,this,if_pos hne]
  have hT:=hs.tab _ hg
  have hTf:=hT.fors
  have hfs:=table_fors (htab _ hg)
  refine zo mixed ttok 8 [1,7] [1] (by simp only [zC,ends,push_cast,simprocAttr];rfl) (by simp only [zH,zp,ends,push_cast,simprocAttr];rfl) (s.getD n default).foreigns.length (fun k=> ∀i,i<k->refM s (s.getD n default) ((s.getD n default).foreigns.getD i default)=0) (fun _=>[]) (fun _=>[]) (fun i h=>absurd h (Nat.not_lt_zero _)) ?_ ?_
  ·exact Weak.keepL (by simp [cst,ends]) (by simp [cst,ends]) (by simp [cst,ends])
  intro J hJ k hk hki
  simp -implicitDefEqProofs only [cst,↓zb,push_cast,simprocAttr,tte]
  refine ⟨(by first | omega | trivial | (refine ⟨?_,?_⟩<;>first | omega | trivial | (refine ⟨?_,?_⟩<;>first | omega | trivial | (refine ⟨?_,?_⟩<;>first | omega | trivial | rfl)))),?_⟩
  refine za (fun g=>?_) fun g=>?_
  ·simp only [decide_eq_true_eq] at g
   have k':k<(s.getD n default).foreigns.length:=by omega
   have hwk:=zj k' (by omega)
   have hfm:=zk k'
   refine ze [[6],[0],[0]] [] (c_target s n k hl h' k') ?_
   simp -implicitDefEqProofs only [↓zb,push_cast,simprocAttr,tte]
   have hE2:refM s (s.getD n default) ((s.getD n default).foreigns.getD k default)≠0->num (refM s (s.getD n default) ((s.getD n default).foreigns.getD k default))=R:=fun hne=>by
    have hc:yL s (s.getD n default)=refM s (s.getD n default) ((s.getD n default).foreigns.getD k default):=xK (refM s (s.getD n default)) (s.getD n default).foreigns k k' hki hne
    rw [<-hc];exact hE (by rw [hc];exact hne)
   have hz2:refM s (s.getD n default) ((s.getD n default).foreigns.getD k default)=0-> ∀i,i<k+1->refM s (s.getD n default) ((s.getD n default).foreigns.getD i default)=0:=fun hz i h2=>if h3:i=k then by rw [h3];exact hz else hki i (by omega)
   have hcols:=hfs _ hfm
   have hlc:=hT.forss _ hfm
   generalize hf:(s.getD n default).foreigns.getD k default=f at hE2 hz2 hcols hlc
   refine za (fun g1=>?_) fun g1=>?_
   ·have g1':byT s f.table<0:=by simpa using g1
    have hc:refM s (s.getD n default) f=11:=if_pos g1'
    exact zi trivial (by rw [<-hE2 (by rw [hc];decide),hc];rfl) (by simp [ends])
   have g1': ¬byT s f.table<0:=by simpa using g1
   have hlt:byT s f.table<s.length:=xZ _ _
   have hcB:refM s (s.getD n default) f=if vX (s.getD n default) (s.getD (byT s f.table).toNat default) f.columns (s.getD (byT s f.table).toNat default).primary then 0 else 6:=if_neg g1'
   have hUm:s.getD (byT s f.table).toNat default∈s:=zk (by omega)
   have hprim:=table_prim (htab _ hUm)
   simp only [if_neg (show¬0>byT s f.table by omega)]
   generalize byT s f.table=bt at g1' hlt hcB hprim ⊢
   generalize hU:s.getD bt.toNat default=U at hcB hprim
   refine ⟨by omega,by omega,⟨by omega,hlt⟩,zf (by kernel_rfl),?_⟩
   refine za (fun g2=>?_) fun g2=>?_
   ·have hne:=ne_nat g2
    have hc:refM s (s.getD n default) f=6:=by rw [hcB,vX,beq_false_of_ne hne];rfl
    exact zi trivial (by rw [<-hE2 (by rw [hc];decide),hc];rfl) (by simp [ends])
   have hle:=ky g2
   have hcC:refM s (s.getD n default) f=if (List.range f.columns.length).all (fun i=>yX (s.getD n default) (f.columns.getD i default)==yX U (U.primary.getD i default)) then 0 else 6:=by
    rw [hcB,vX,hle,beq_self_eq_true,Bool.true_and]
   refine zo mixed ttok 13 [1,7,8,9,11,12] [1] (by simp only [zC,ends,push_cast,simprocAttr];rfl) (by simp only [zH,zp,ends,push_cast,simprocAttr];rfl) f.columns.length (fun j=> ∀i,i<j->(yX (s.getD n default) (f.columns.getD i default)==yX U (U.primary.getD i default))=true) (fun _=>[]) (fun _=>[]) (fun i h=>absurd h (Nat.not_lt_zero _)) ?_ ?_
   ·exact Weak.keepL (by simp [cst,ends]) (by simp [cst,ends]) (by simp [cst,ends])
   intro Q hQ j hj hji
   simp -implicitDefEqProofs only [cst,↓zb,push_cast,simprocAttr,tte]
   refine za (fun q=>?_) fun q=>?_
   ·simp only [decide_eq_true_eq] at q
    have j':j<f.columns.length:=by omega
    have hwj:=zj j' (by omega)
    obtain ⟨a0,a1⟩:=hcols _ (zk j')
    obtain ⟨b0,b1⟩:=hprim (U.primary.getD j default) (zk (by omega))
    refine ⟨by omega,by omega,⟨a0,a1⟩,⟨by omega,hlt⟩,by omega,⟨b0,by rw [hU];exact b1⟩,zf (by kernel_rfl),?_⟩
    rw [hU]
    refine za (fun e=>?_) fun e=>?_
    ·have e':(yX (s.getD n default) (f.columns.getD j default)==yX U (U.primary.getD j default))=false:=by simpa [bne,yX] using e
     have hc:refM s (s.getD n default) f=6:=by rw [hcC,xG (n:=j) j' e'];rfl
     exact zi trivial (by rw [<-hE2 (by rw [hc];decide),hc];rfl) (by simp [ends])
    ·have e':(yX (s.getD n default) (f.columns.getD j default)==yX U (U.primary.getD j default))=true:=by simpa [bne,yX] using e
     exact zq hQ j rfl j' (fun i h2=>if h3:i=j then by rw [h3];exact e' else hji i (by omega)) (by simp [hwj,ends]) (by simp [hwj,ends]) (by simp [hwj,ends]) (by simp [hwj,ends])
   ·simp only [decide_eq_false_iff_not] at q
    obtain rfl:j=f.columns.length:=by omega
    have hc:refM s (s.getD n default) f=0:=by rw [hcC,all_range.2 hji];rfl
    exact zq hJ k rfl k' (hz2 hc) (by simp [hwk,ends]) (by simp [hwk,ends]) (by simp [hwk,ends]) (by simp [hwk,ends])
  ·simp only [decide_eq_false_iff_not] at g
   obtain rfl:k=(s.getD n default).foreigns.length:=by omega
   have hz:yL s (s.getD n default)=0:=yT _ _ hki
   exact zq hI n rfl h' (fun i h2=>if h3:i=n then by rw [h3];exact hz else hi i (by omega)) (by simp [hw,ends]) (by simp [hw,ends]) (by simp [hw,ends]) (by simp [hw,ends])
 simp only [decide_eq_false_iff_not] at h
 obtain rfl:n=s.length:=by omega
 clear hI
 have hz:ferr (yL s) s=0:=yT (yL s) s hi
 have hall: ∀t∈s,∀f∈t.foreigns,0<=byT s f.table:=fun t ht f hf=>refM_at (xF (xF hz t ht) f hf)
 refine ze [[6]] [] (c_rorder s (by omega) (fun t ht=>(hs.tab t ht).fors) hall) ?_
 simp -implicitDefEqProofs only [↓zb,push_cast,simprocAttr,tte]
 exact zi trivial (by rw [<-hr,hM2,if_neg (by rw [hz];decide)];rfl) (by simp [ends])
end
section
open Go.Am
attribute [local simp, local push_cast] num boo str ints aV aTab zv aS aT aC zR zL aFk vT rTab rRow
theorem c_rfits (s:Sch) (inst:Inst) (hs:SmallS s) (hi:SmallI inst):ACall Tryz.prog 18 [aS s,zv inst] [] (num (x6 s inst)) []:=by
 refine zn mixed ttok Tryz.func18 Tryz.ntmps18 Tryz.results18 ?_
 generalize hr:num (x6 s inst)=R
 have hl:=hs.len
 have hli:=hi.len
 simp -implicitDefEqProofs only [argT,↓zb,push_cast,simprocAttr,tte]
 refine ze [[6]] [] (c_rsvalid s hs) ?_
 simp -implicitDefEqProofs only [↓zb,push_cast,simprocAttr,tte]
 refine za (fun h0=>?_) fun h0=>?_
 ·have h0':xr s≠0:=by simpa using h0
  exact zi trivial (by rw [<-hr,x6,if_pos h0'];rfl) (by simp [ends])
 have h0': ¬xr s≠0:=by simpa using h0
 refine za (fun h1=>?_) fun h1=>?_
 ·exact zi trivial (by rw [<-hr,x6,if_neg h0',if_pos (neN_of h1)];rfl) (by simp [ends])
 have hlen:=ky h1
 have hM:x6 s inst=ve (uf s inst) s.length:=by rw [x6,if_neg h0',if_neg (eqN_of h1)]
 refine zo mixed ttok 6 [2,3] [2,3] (by simp only [zC,ends,push_cast,simprocAttr];rfl) (by simp only [zH,zp,ends,push_cast,simprocAttr];rfl) s.length (fun n=> ∀i,i<n->uf s inst i=0) (fun _=>[]) (fun _=>[]) (fun i h=>absurd h (Nat.not_lt_zero _)) ?_ ?_
 ·exact Weak.keepL (by simp [cst,ends]) (by simp [cst,ends]) (by simp [cst,ends])
 intro I hI n hn hii
 simp -implicitDefEqProofs only [cst,↓zb,push_cast,simprocAttr,tte]
 refine za (fun h=>?_) fun h=>?_
 ·simp only [decide_eq_true_eq] at h
  have h':n<s.length:=by omega
  have hw:=zj h' (by omega)
  have hE:uf s inst n≠0->num (uf s inst n)=R:=fun hne=>by
   have:=jq h' hii hne
   rw [<-hr,hM,this]
  have hzero:uf s inst n=0-> ∀i,i<n+1->uf s inst i=0:=fun hz i h2=>if h3:i=n then by rw [h3];exact hz else hii i (by omega)
  have hgt:s.getD n default∈s:=zk h'
  have hgl:inst.getD n default∈inst:=zk (by omega)
  have hll:=hi.tab _ hgl
  have hlr:=hi.row _ hgl
  have hTc:=(hs.tab _ hgt).cols
  unfold uf at hE hzero
  generalize hT:s.getD n default=T at hE hTc hzero
  generalize hL:inst.getD n default=L at hE hll hlr hzero
  refine ⟨by omega,?_⟩
  refine za (fun h2=>?_) fun h2=>?_
  ·have hc:tabF T L=8:=if_pos (of_decide_eq_true h2)
   exact zi trivial (by rw [<-hE (by rw [hc];decide),hc];rfl) (by simp [ends])
  have hcT:tabF T L=ferr (yK T) L:=if_neg (of_decide_eq_false h2)
  rw [hcT] at hE hzero
  refine zo mixed ttok 7 [2,3,6] [2,3] (by simp only [zC,ends,push_cast,simprocAttr];rfl) (by simp only [zH,zp,ends,push_cast,simprocAttr];rfl) L.length (fun k=> ∀i,i<k->yK T (L.getD i default)=0) (fun _=>[]) (fun _=>[]) (fun i h=>absurd h (Nat.not_lt_zero _)) ?_ ?_
  ·exact Weak.keepL (by simp [cst,ends]) (by simp [cst,ends]) (by simp [cst,ends])
  intro J hJ k hk hki
  simp -implicitDefEqProofs only [cst,hL,↓zb,push_cast,simprocAttr,tte]
  refine ⟨by omega,?_⟩
  refine za (fun g=>?_) fun g=>?_
  ·simp only [decide_eq_true_eq] at g
   have k':k<L.length:=by omega
   have hwk:=zj k' (by omega)
   have hrm:L.getD k default∈L:=zk k'
   have hrl:=hlr _ hrm
   have hE2:yK T (L.getD k default)≠0->num (yK T (L.getD k default))=R:=fun hne=>by
    have:=xK (yK T) L k k' hki hne
    rw [<-hE (by rw [this];exact hne),this]
   have hzero2:yK T (L.getD k default)=0-> ∀i,i<k+1->yK T (L.getD i default)=0:=fun hz i h2=>if h3:i=k then by rw [h3];exact hz else hki i (by omega)
   generalize hW:L.getD k default=W at hE2 hzero2 hrl
   refine ⟨by omega,by omega,by omega,?_⟩
   rw [hT]
   refine za (fun h3=>?_) fun h3=>?_
   ·have hc:yK T W=9:=if_pos (neN_of h3)
    exact zi trivial (by rw [<-hE2 (by rw [hc];decide),hc];rfl) (by simp [ends])
   have hWl:=ky h3
   have hcW:yK T W=if (List.range W.length).all (fun j=> !badV (T.columns.getD j default) (W.getD j default)) then 0 else 4:=if_neg (eqN_of h3)
   refine zo mixed ttok 9 [2,3,6,7,8] [2,3] (by simp only [zC,ends,push_cast,simprocAttr];rfl) (by simp only [zH,zp,ends,push_cast,simprocAttr];rfl) W.length (fun j=> ∀i,i<j->(!badV (T.columns.getD i default) (W.getD i default))=true) (fun _=>[]) (fun _=>[]) (fun i h=>absurd h (Nat.not_lt_zero _)) ?_ ?_
   ·exact Weak.keepL (by simp [cst,ends]) (by simp [cst,ends]) (by simp [cst,ends])
   intro Q hQ j hj hji
   simp -implicitDefEqProofs only [cst,hL,hT,↓zb,push_cast,simprocAttr,tte]
   refine za (fun q=>?_) fun q=>?_
   ·simp only [decide_eq_true_eq] at q
    have j':j<W.length:=by omega
    have hwj:=zj j' (by omega)
    refine ⟨(by first | omega | trivial | (refine ⟨?_,?_⟩<;>first | omega | trivial | (refine ⟨?_,?_⟩<;>first | omega | trivial | (refine ⟨?_,?_⟩<;>first | omega | trivial | rfl)))),?_⟩
    have hbad:badV (T.columns.getD j default) (W.getD j default)=true->num 4=R:=fun hb=>by
     have:yK T W=4:=by rw [hcW,xG (n:=j) j' (by rw [hb];rfl)];rfl
     rw [<-hE2 (by rw [this];decide),this]
    have hgood:badV (T.columns.getD j default) (W.getD j default)=false-> ∀i,i<j+1->(!badV (T.columns.getD i default) (W.getD i default))=true:=fun hb i h2=>if h3:i=j then by rw [h3,hb];rfl else hji i (by omega)
    refine ze [[0,0,0]] [] (kG (W.getD j default)) ?_
    simp -implicitDefEqProofs only [hT,↓zb,push_cast,simprocAttr,tte]
    refine za (fun v1=>?_) fun v1=>?_
    ·refine ⟨zf (by kernel_rfl),?_⟩
     exact zi trivial (hbad (by rw [badV,v1,Bool.true_or])) (by simp [ends])
    refine ⟨by omega,?_⟩
    refine za (fun v2=>?_) fun v2=>?_
    ·refine ⟨by omega,by omega,by omega,zf (by kernel_rfl),?_⟩
     refine za (fun v3=>?_) fun v3=>?_
     ·exact zi trivial (hbad (by rw [badV,v2,v3];simp)) (by simp [ends])
     ·exact zq hQ j rfl j' (hgood (by rw [badV,v1,v3];simp)) (by simp [hwj,ends]) (by simp [hwj,ends]) (by simp [hwj,ends]) (by simp [hwj,ends])
    ·refine ⟨zf (by kernel_rfl),?_⟩
     exact zq hQ j rfl j' (hgood (by rw [badV,v1,v2];simp)) (by simp [hwj,ends]) (by simp [hwj,ends]) (by simp [hwj,ends]) (by simp [hwj,ends])
   ·simp only [decide_eq_false_iff_not] at q
    obtain rfl:j=W.length:=by omega
    have hz:yK T W=0:=by rw [hcW,all_range.2 hji];rfl
    exact zq hJ k rfl k' (hzero2 hz) (by simp [hwk,ends]) (by simp [hwk,ends]) (by simp [hwk,ends]) (by simp [hwk,ends])
  ·simp only [decide_eq_false_iff_not] at g
   obtain rfl:k=L.length:=by omega
   exact zq hI n rfl h' (hzero (yT (yK T) L hki)) (by simp [hw,ends]) (by simp [hw,ends]) (by simp [hw,ends]) (by simp [hw,ends])
 ·simp only [decide_eq_false_iff_not] at h
  obtain rfl:n=s.length:=by omega
  exact zi trivial (by rw [<-hr,hM,vr hii];rfl) (by simp [ends])
end
end Go.Proofs.YtnmibokjpedkiaaGreatDoor
