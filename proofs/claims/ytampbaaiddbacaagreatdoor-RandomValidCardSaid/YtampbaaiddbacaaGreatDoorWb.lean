/- What random makes of a tape is valid, of its types, and not too large: a proof over an abstract machine of our own (part Wb) -/
import Derived.Test.YtampbaaiddbacaaGreatDoorWa
import Derived.Test.YtampbaaiddbacaaGreatDoorLd
import Derived.Test.YtampbaaiddbacaaGreatDoorLe
set_option maxRecDepth 100000
set_option maxHeartbeats 4000000
set_option linter.all false
namespace Go.Proofs.YtampbaaiddbacaaGreatDoor
section
open Go.Am
attribute [local simp, local push_cast] num boo str ints aV aTab zA aS aT aC
theorem c_ne (x t:Int):ACall Tryz.prog 209 [num x,.ptr 1000 0] [(1000,.var [num t])] (boo (x !=t)) [(1000,.var [num t])]:=by
 refine zp mixed ttok Tryz.func209 Tryz.ntmps209 Tryz.results209 ?_
 generalize hr:boo (x !=t)=R
 simp -implicitDefEqProofs only [argT,↓zb,push_cast,simprocAttr,tte]
 refine zr [0] rfl (by simp) (by simp [zc]<;>omega) ?_ (by first | rfl | simp [ends] | (subst_vars;simp [ends])) (by simp [ends]) (by simp [ends])
 exact hr
theorem c_idxN (l:List Int) (t:Int) (hl:l.length<=1000000000):
 ACall Tryz.prog 185 [ints l,.clo 209 [.ptr 1000 0]] [(1000,.var [num t])] (num (fidx (fun x=>x !=t) l)) [(1000,.var [num t])]:=by
 refine zp mixed ttok Tryz.func185 Tryz.ntmps185 Tryz.results185 ?_
 generalize hr:num (fidx (fun x=>x !=t) l)=R
 simp -implicitDefEqProofs only [argT,↓zb,push_cast,simprocAttr,tte]
 refine zn mixed ttok 8 [0,1,6,7] [1000] (by simp only [z6,ends,push_cast,simprocAttr];rfl) (by simp only [zB,zo,ends,push_cast,simprocAttr];rfl) l.length (fun n=> ∀i,i<n->(l.getD i default !=t)=false) (fun _=>[]) (fun _=>[]) (fun i h=>absurd h (Nat.not_lt_zero _)) ?_ ?_
 ·exact Weak.keepL (by simp [cst,ends]) (by simp [cst,ends]) (by simp [cst,ends])
 intro I hI n hn hi
 simp -implicitDefEqProofs only [cst,↓zb,push_cast,simprocAttr,tte]
 refine za (fun h=>?_) fun h=>?_
 ·simp only [decide_eq_true_eq] at h
  have h':n<l.length:=by omega
  have hw:=zj h' (by omega)
  refine ⟨(by first | omega | trivial | (refine ⟨?_,?_⟩<;>first | omega | trivial | (refine ⟨?_,?_⟩<;>first | omega | trivial | (refine ⟨?_,?_⟩<;>first | omega | trivial | rfl)))),?_⟩
  refine zd [[0],[]] [(1000,1000)] (c_ne (l.getD n default) t) ?_
  simp -implicitDefEqProofs only [↓zb,push_cast,simprocAttr,tte]
  refine za (fun g=>?_) fun g=>?_
  ·refine zr [0] rfl (by simp) (by simp [zc]<;>omega) ?_ (by first | rfl | simp [ends] | (subst_vars;simp [ends])) (by simp [ends]) (by simp [ends])
   rw [<-hr,x4 _ l n h' hi g];rfl
  ·exact zl hI n rfl h' (fun i h2=>if h3:i=n then by rw [h3];exact g else hi i (by omega)) (by simp [hw,ends]) (by simp [hw,ends]) (by simp [hw,ends]) (by simp [hw,ends])
 ·simp only [decide_eq_false_iff_not] at h
  obtain rfl:n=l.length:=by omega
  refine zr [0] rfl (by simp) (by simp [zc]<;>omega) ?_ (by first | rfl | simp [ends] | (subst_vars;simp [ends])) (by simp [ends]) (by simp [ends])
  rw [<-hr,yO _ l hi];rfl
theorem c_containsN (l:List Int) (t:Int) (hl:l.length<=1000000000):
 ACall Tryz.prog 158 [ints l,.clo 209 [.ptr 1000 0]] [(1000,.var [num t])] (boo (l.any fun x=>x !=t)) [(1000,.var [num t])]:=by
 refine zp mixed ttok Tryz.func158 Tryz.ntmps158 Tryz.results158 ?_
 generalize hr:boo (l.any fun x=>x !=t)=R
 simp -implicitDefEqProofs only [argT,↓zb,push_cast,simprocAttr,tte]
 refine zd [[1],[]] [(1000,1000)] (c_idxN l t hl) ?_
 simp -implicitDefEqProofs only [↓zb,push_cast,simprocAttr,tte]
 refine zr [0] rfl (by simp) (by simp [zc]<;>omega) ?_ (by first | rfl | simp [ends] | (subst_vars;simp [ends])) (by simp [ends]) (by simp [ends])
 rw [<-hr,<-jX];rfl
theorem c_every (l:List Int) (t:Int) (hl:l.length<=1000000000):ACall Tryz.prog 208 [num t,ints l] [] (boo (l.all fun x=>x==t)) []:=by
 refine zp mixed ttok Tryz.func208 Tryz.ntmps208 Tryz.results208 ?_
 generalize hr:boo (l.all fun x=>x==t)=R
 simp -implicitDefEqProofs only [argT,↓zb,push_cast,simprocAttr,tte]
 refine zd [[1],[]] [(1000,2)] (c_containsN l t hl) ?_
 simp -implicitDefEqProofs only [↓zb,push_cast,simprocAttr,tte]
 have:(l.all fun x=>x==t)= !(l.any fun x=>x !=t):=by
  rw [List.not_any_eq_all_not];simp [bne]
 exact zk trivial (by rw [<-hr,this];rfl) (by simp [ends])
def fitM (o:OpD) (l:List Int):Bool:=
 if o.types=1 then l.all (fun x=>x==1) else if o.types=2 then l.all (fun x=>x==3) else if o.types=3 then l.all (fun x=>x==2)
 else if o.types=4 then l.all (fun x=>x==l.getD 0 default) else if o.types=6 then (l.getD 0 default==2)&&(l.getD 1 default==l.getD 2 default) else true
theorem c_fit (o:OpD) (l:List Int) (hl:l.length<=1000000000) (h4:o.types=4->0<l.length) (h6:o.types=6->l.length=3):ACall Tryz.prog 189 [aOp o,ints l] [] (boo (fitM o l)) []:=by
 refine zp mixed ttok Tryz.func189 Tryz.ntmps189 Tryz.results189 ?_
 generalize hr:boo (fitM o l)=R
 simp -implicitDefEqProofs only [argT,aOp,↓zb,push_cast,simprocAttr,tte]
 refine za (fun k1=>?_) fun k1=>?_
 ·have hk:o.types=1:=by simpa using k1
  have hM:fitM o l=l.all (fun x=>x==1):=by rw [fitM,if_pos hk]
  refine zd [[0],[1]] [] (c_every l 1 hl) ?_
  simp -implicitDefEqProofs only [↓zb,push_cast,simprocAttr,tte]
  exact zk trivial (by rw [<-hr,hM];rfl) (by simp [ends])
 have hk1: ¬o.types=1:=by simpa using k1
 refine za (fun k2=>?_) fun k2=>?_
 ·have hk:o.types=2:=by simpa using k2
  have hM:fitM o l=l.all (fun x=>x==3):=by rw [fitM,if_neg hk1,if_pos hk]
  refine zd [[0],[1]] [] (c_every l 3 hl) ?_
  simp -implicitDefEqProofs only [↓zb,push_cast,simprocAttr,tte]
  exact zk trivial (by rw [<-hr,hM];rfl) (by simp [ends])
 have hk2: ¬o.types=2:=by simpa using k2
 refine za (fun k3=>?_) fun k3=>?_
 ·have hk:o.types=3:=by simpa using k3
  have hM:fitM o l=l.all (fun x=>x==2):=by rw [fitM,if_neg hk1,if_neg hk2,if_pos hk]
  refine zd [[0],[1]] [] (c_every l 2 hl) ?_
  simp -implicitDefEqProofs only [↓zb,push_cast,simprocAttr,tte]
  exact zk trivial (by rw [<-hr,hM];rfl) (by simp [ends])
 have hk3: ¬o.types=3:=by simpa using k3
 refine za (fun k4=>?_) fun k4=>?_
 ·have hk:o.types=4:=by simpa using k4
  have hM:fitM o l=l.all (fun x=>x==l.getD 0 default):=by rw [fitM,if_neg hk1,if_neg hk2,if_neg hk3,if_pos hk]
  have:=h4 hk
  refine ⟨(by first | omega | trivial | (refine ⟨?_,?_⟩<;>first | omega | trivial | (refine ⟨?_,?_⟩<;>first | omega | trivial | (refine ⟨?_,?_⟩<;>first | omega | trivial | rfl)))),?_⟩
  refine zd [[0],[1]] [] (c_every l (l.getD 0 default) hl) ?_
  simp -implicitDefEqProofs only [↓zb,push_cast,simprocAttr,tte]
  exact zk trivial (by rw [<-hr,hM];rfl) (by simp [ends])
 have hk4: ¬o.types=4:=by simpa using k4
 refine za (fun k6=>?_) fun k6=>?_
 ·have hk:o.types=6:=by simpa using k6
  have hM:fitM o l=((l.getD 0 default==2)&&(l.getD 1 default==l.getD 2 default)):=by rw [fitM,if_neg hk1,if_neg hk2,if_neg hk3,if_neg hk4,if_pos hk]
  have:=h6 hk
  refine ⟨(by first | omega | trivial | (refine ⟨?_,?_⟩<;>first | omega | trivial | (refine ⟨?_,?_⟩<;>first | omega | trivial | (refine ⟨?_,?_⟩<;>first | omega | trivial | rfl)))),?_⟩
  refine za (fun g=>?_) fun g=>?_
  ·refine ⟨(by first | omega | trivial | (refine ⟨?_,?_⟩<;>first | omega | trivial | (refine ⟨?_,?_⟩<;>first | omega | trivial | (refine ⟨?_,?_⟩<;>first | omega | trivial | rfl)))),(by first | omega | trivial | (refine ⟨?_,?_⟩<;>first | omega | trivial | (refine ⟨?_,?_⟩<;>first | omega | trivial | (refine ⟨?_,?_⟩<;>first | omega | trivial | rfl)))),zg (by kernel_rfl),?_⟩
   exact zk trivial (by rw [<-hr,hM,g,Bool.true_and];rfl) (by simp [ends])
  ·refine ⟨zg (by kernel_rfl),?_⟩
   exact zk trivial (by rw [<-hr,hM,g,Bool.false_and];rfl) (by simp [ends])
 ·have hk6: ¬o.types=6:=by simpa using k6
  have hM:fitM o l=true:=by rw [fitM,if_neg hk1,if_neg hk2,if_neg hk3,if_neg hk4,if_neg hk6]
  exact zk trivial (by rw [<-hr,hM];rfl) (by simp [ends])
end
section
open Go.Am
attribute [local simp, local push_cast] num boo str ints aV aTab zA aS aT aC aOp
def zC (k:Int):Bool:=(k==1 || k==2) || k==3
def ownM (ts:List Int) (e:Ex) (l:List Int):Int×Int:=
 if (!isOp e.op || !zS e) then (0,1)
 else if !yw e then (0,9)
 else if (e.op==5&&(decide (e.col<0) || decide (e.col≥ts.length))) then (0,3)
 else if ((e.op==5&& !zC (ts.getD e.col.toNat default)) || !fitM (yo e.op) l) then (0,4)
 else if e.op==5 then (ts.getD e.col.toNat default,0)
 else if e.op==1 then (e.type,0)
 else if (yo e.op).own==0 then (l.getD (l.length-1) default,0)
 else ((yo e.op).own,0)
def typK (f:Ex->List Int->Int×Int) (e:Ex) (rs:List (Int×Int)):Int×Int:=if ferr Prod.snd rs=0 then f e (rs.map Prod.fst) else (0,ferr Prod.snd rs)
mutual
def typG (f:Ex->List Int->Int×Int):Ex->Int×Int
 | .mk a b c d g ks=>typK f (.mk a b c d g ks) (typL f ks)
def typL (f:Ex->List Int->Int×Int):List Ex->List (Int×Int)
 | []=>[]
 | e::l=>typG f e::typL f l
end
theorem typL_eq (f:Ex->List Int->Int×Int): ∀l,typL f l=l.map (typG f)
 | []=>rfl
 | e::l=>by rw [typL,typL_eq f l];rfl
theorem uk (f:Ex->List Int->Int×Int) (e:Ex):typG f e=typK f e (e.kids.map (typG f)):=by cases e;rw [typG,typL_eq];rfl
theorem wB {α β:Type} (g:β->Int) (h:α->β): ∀l:List α,ferr g (l.map h)=ferr (fun x=>g (h x)) l
 | []=>rfl
 | x::l=>by simp only [List.map_cons,ferr,wB g h l]
theorem x5 {α:Type} [Inhabited α] (g:α->Int): ∀(l:List α) (n:Nat),n<l.length->(∀i,i<n->g (l.getD i default)=0)->g (l.getD n default)≠0->ferr g l=g (l.getD n default)
 | [],n,h,_,_=>by simp at h
 | x::l,0,_,_,hg=>by simp at hg;simp [ferr,hg]
 | x::l,n+1,h,hb,hg=>by
   have h0:=hb 0 (by omega)
   simp at h0
   simp only [ferr,h0,if_true]
   rw [x5 g l n (by simpa using h) (fun i hi=>by simpa using hb (i+1) (by omega)) (by simpa using hg)]
   simp
theorem yt {α:Type} [Inhabited α] (g:α->Int): ∀(l:List α),(∀i,i<l.length->g (l.getD i default)=0)->ferr g l=0
 | [],_=>rfl
 | x::l,hb=>by
   have h0:=hb 0 (by simp)
   simp at h0
   simp only [ferr,h0,if_true]
   exact yt g l (fun i hi=>by simpa using hb (i+1) (by simpa using hi))
def vb (f:Ex->List Int->Int×Int) (e:Ex) (n:Nat):List Int:=(e.kids.take n).map fun k=>(typG f k).1
theorem qr (f:Ex->List Int->Int×Int) (e:Ex) (n:Nat) (h:n<=e.kids.length):(vb f e n).length=n:=by simp [vb];omega
theorem tysTo_succ (f:Ex->List Int->Int×Int) (e:Ex) (n:Nat) (h:n<e.kids.length):vb f e (n+1)=vb f e n++[(typG f (e.kids.getD n default)).1]:=by rw [vb,zH _ _ h,List.map_append];rfl
def zF (p:Int×Int):A:= .tup [num p.1,num p.2]
theorem tab_alike: ∀op:Int,isOp op=true->(yo op).types=4->2<=(yo op).kids:=by
 have h:(List.range 29).all (fun n=> !decide ((opTab.getD n default).types=4) || decide (2<=(opTab.getD n default).kids))=true:=by decide
 intro op ho ht
 rw [yo,ho,if_pos rfl,opAt] at ht ⊢
 simp only [isOp,Bool.and_eq_true,decide_eq_true_eq] at ho
 have:=all_range.1 h op.toNat (by omega)
 rw [ht] at this
 simpa using this
theorem tab_choice: ∀op:Int,isOp op=true->(yo op).types=6->(yo op).kids=3/\op≠28:=by
 have h:(List.range 29).all (fun n=> !decide ((opTab.getD n default).types=6) || (decide ((opTab.getD n default).kids=3)&&decide (n≠28)))=true:=by decide
 intro op ho ht
 rw [yo,ho,if_pos rfl,opAt] at ht ⊢
 simp only [isOp,Bool.and_eq_true,decide_eq_true_eq] at ho
 have:=all_range.1 h op.toNat (by omega)
 rw [ht] at this
 simp only [decide_true,Bool.not_true,Bool.false_or,Bool.and_eq_true,decide_eq_true_eq] at this
 exact ⟨this.1,by omega⟩
theorem tab_own: ∀op:Int,isOp op=true->(yo op).own=0->op=1\/op=5\/1<=(yo op).kids:=by
 have h:(List.range 29).all (fun n=> !decide ((opTab.getD n default).own=0) || (decide (n=0) || decide (n=1) || decide (n=5) || decide (1<=(opTab.getD n default).kids)))=true:=by decide
 intro op ho ht
 rw [yo,ho,if_pos rfl,opAt] at ht ⊢
 simp only [isOp,Bool.and_eq_true,decide_eq_true_eq] at ho
 have:=all_range.1 h op.toNat (by omega)
 rw [ht] at this
 simp only [decide_true,Bool.not_true,Bool.false_or,Bool.or_eq_true,decide_eq_true_eq] at this
 omega
theorem uh {e:Ex} (h:yw e=true):(yo e.op).kids<=e.kids.length/\(e.op≠28->(e.kids.length:Int)=(yo e.op).kids):=by
 simp only [yw,Bool.and_eq_true,Bool.or_eq_true,beq_iff_eq,decide_eq_true_eq] at h
 omega
theorem c_typ (ts:List Int) (hts:ts.length<=1000000000): ∀e:Ex,Ok12 e->ACall Tryz.prog 162 [ints ts,aE e] [] (zF (typG (ownM ts) e)) []:=
 jr (p:=fun e=>Ok12 e->ACall Tryz.prog 162 [ints ts,aE e] [] (zF (typG (ownM ts) e)) []) fun e ih ho=>by
 refine zp mixed ttok Tryz.func162 Tryz.ntmps162 Tryz.results162 ?_
 generalize hr:zF (typG (ownM ts) e)=R
 have hl:=ho.kids
 simp -implicitDefEqProofs only [argT,↓zb,push_cast,simprocAttr,tte]
 refine zn mixed ttok 17 [0,3,15,16] [3] (by simp only [z6,ends,push_cast,simprocAttr];rfl) (by simp only [zB,zo,ends,push_cast,simprocAttr];rfl) e.kids.length (fun n=> ∀i,i<n->(typG (ownM ts) (e.kids.getD i default)).2=0) (fun n=>[(6,.vec 500 n)]) (fun n=>[(500,.vec 3 1 (ze rI (vb (ownM ts) e n)) 0)]) (fun i h=>absurd h (Nat.not_lt_zero _)) ?_ ?_
 ·exact (Weak.nilL 6 500 3 1 rfl rfl).trans (Weak.keepL (by simp [cst,ends]) (by simp [cst,vb,ends]) (by simp [cst,ends]))
 intro I hI n hn hi
 have hl2:=qr (ownM ts) e n hn
 simp -implicitDefEqProofs only [cst,↓zb,push_cast,simprocAttr,tte]
 refine za (fun h=>?_) fun h=>?_
 ·simp only [decide_eq_true_eq] at h
  have h':n<e.kids.length:=by omega
  have hw:=zj h' (by omega)
  have hs:=tysTo_succ (ownM ts) e n h'
  refine ⟨(by first | omega | trivial | (refine ⟨?_,?_⟩<;>first | omega | trivial | (refine ⟨?_,?_⟩<;>first | omega | trivial | (refine ⟨?_,?_⟩<;>first | omega | trivial | rfl)))),?_⟩
  refine zd [[1],[0,0,0,0,0,6]] [] (ih _ (zi h') (ho.kid (zi h'))) ?_
  simp -implicitDefEqProofs only [zF,↓zb,push_cast,simprocAttr,tte]
  refine za (fun g=>?_) fun g=>?_
  ·have g':(typG (ownM ts) (e.kids.getD n default)).2≠0:=by simpa using g
   have hf:ferr Prod.snd (e.kids.map (typG (ownM ts)))=(typG (ownM ts) (e.kids.getD n default)).2:=by rw [wB];exact x5 _ _ n h' hi g'
   have hE:typG (ownM ts) e=(0,(typG (ownM ts) (e.kids.getD n default)).2):=by rw [uk (ownM ts) e,typK,hf,if_neg g']
   exact zD trivial (by rw [<-hr,hE];rfl) (by simp [ends])
  ·have g':(typG (ownM ts) (e.kids.getD n default)).2=0:=by simpa using g
   refine ⟨⟨hl2.symm,by rw [hl2];omega⟩,?_⟩
   exact zl hI n rfl h' (fun i h2=>if h3:i=n then by rw [h3];exact g' else hi i (by omega)) (by simp [hw,hs,hl2,zf,ends]) (by simp [hw,hs,hl2,zf,ends]) (by simp [hw,hs,hl2,zf,ends]) (by simp [hw,hs,hl2,zf,ends])
 simp only [decide_eq_false_iff_not] at h
 obtain rfl:n=e.kids.length:=by omega
 clear hI
 have hf:ferr Prod.snd (e.kids.map (typG (ownM ts)))=0:=by rw [wB];exact yt _ _ hi
 have hT:vb (ownM ts) e e.kids.length=(e.kids.map (typG (ownM ts))).map Prod.fst:=by rw [vb,List.take_length,List.map_map];rfl
 have hM:typG (ownM ts) e=ownM ts e (vb (ownM ts) e e.kids.length):=by rw [uk (ownM ts) e,typK,if_pos hf,hT]
 rw [hM] at hr
 generalize vb (ownM ts) e e.kids.length=l at hl2 hr ⊢
 refine zd [[0,0,0,0,0,6]] [] (c_known e) ?_
 simp -implicitDefEqProofs only [aOp,↓zb,push_cast,simprocAttr,tte]
 have hf4:isOp e.op=true->yw e=true->(yo e.op).types=4->0<l.length:=fun a b c=>by
  have:=tab_alike _ a c;have:=uh b;omega
 have hf6:isOp e.op=true->yw e=true->(yo e.op).types=6->l.length=3:=fun a b c=>by
  have h9:=tab_choice _ a c;have h8:=(uh b).2 h9.2;omega
 have hf0:isOp e.op=true->yw e=true-> ¬e.op=1-> ¬e.op=5->(yo e.op).own=0->0<l.length:=fun a b c d f=>by
  have h9:=tab_own _ a f;have h8:=uh b;omega
 refine za (fun h1=>?_) fun h1=>?_
 ·have h1':isOp e.op=false:=by simpa using h1
  have hv:ownM ts e l=(0,1):=by simp only [ownM,h1',Bool.not_true,Bool.not_false,Bool.or_false,Bool.false_or,Bool.true_or,Bool.or_true,Bool.and_true,Bool.true_and,Bool.false_and,Bool.and_false,Bool.false_eq_true,Bool.or_self,Bool.and_self,if_true,if_false]
  exact zD trivial (by rw [<-hr,hv];rfl) (by simp [ends])
 have h1':isOp e.op=true:=by simpa using h1
 refine zd [[0,0,0,0,0,6]] [] (c_clean e) ?_
 simp -implicitDefEqProofs only [↓zb,push_cast,simprocAttr,tte]
 refine za (fun h2=>?_) fun h2=>?_
 ·have h2':zS e=false:=by simpa using h2
  have hv:ownM ts e l=(0,1):=by simp only [ownM,h2',Bool.not_true,Bool.not_false,Bool.or_false,Bool.false_or,Bool.true_or,Bool.or_true,Bool.and_true,Bool.true_and,Bool.false_and,Bool.and_false,Bool.false_eq_true,Bool.or_self,Bool.and_self,if_true,if_false]
  exact zD trivial (by rw [<-hr,hv];rfl) (by simp [ends])
 have h2':zS e=true:=by simpa using h2
 refine za (fun h3=>?_) fun h3=>?_
 ·have h3':yw e=false:=by simpa using h3
  have hv:ownM ts e l=(0,9):=by simp only [ownM,h1',h2',h3',Bool.not_true,Bool.not_false,Bool.or_false,Bool.false_or,Bool.true_or,Bool.or_true,Bool.and_true,Bool.true_and,Bool.false_and,Bool.and_false,Bool.false_eq_true,Bool.or_self,Bool.and_self,if_true,if_false]
  exact zD trivial (by rw [<-hr,hv];rfl) (by simp [ends])
 have h3':yw e=true:=by simpa using h3
 replace hf4:=hf4 h1' h3'
 replace hf6:=hf6 h1' h3'
 replace hf0:=hf0 h1' h3'
 refine za (fun h4=>?_) fun h4=>?_
 ·refine za (fun h5=>?_) fun h5=>?_
  ·have hv:ownM ts e l=(0,3):=by simp only [ownM,h1',h2',h3',h4,h5,Bool.not_true,Bool.not_false,Bool.or_false,Bool.false_or,Bool.true_or,Bool.or_true,Bool.and_true,Bool.true_and,Bool.false_and,Bool.and_false,Bool.false_eq_true,Bool.or_self,Bool.and_self,if_true,if_false]
   exact zD trivial (by rw [<-hr,hv];rfl) (by simp [ends])
  refine za (fun h6=>?_) fun h6=>?_
  ·have hv:ownM ts e l=(0,3):=by simp only [ownM,h1',h2',h3',h4,h5,h6,Bool.not_true,Bool.not_false,Bool.or_false,Bool.false_or,Bool.true_or,Bool.or_true,Bool.and_true,Bool.true_and,Bool.false_and,Bool.and_false,Bool.false_eq_true,Bool.or_self,Bool.and_self,if_true,if_false]
   exact zD trivial (by rw [<-hr,hv];rfl) (by simp [ends])
  rw [h4,yp]
  refine ⟨by simp only [decide_eq_false_iff_not] at h5 h6;omega,?_⟩
  refine zd [[0]] [] (c_isType (ts.getD e.col.toNat default)) ?_
  simp -implicitDefEqProofs only [↓zb,push_cast,simprocAttr,tte]
  rw [show (((ts.getD e.col.toNat default==1) || (ts.getD e.col.toNat default==2)) || (ts.getD e.col.toNat default==3))=zC (ts.getD e.col.toNat default) from rfl]
  refine za (fun h7=>?_) fun h7=>?_
  ·have h7':zC (ts.getD e.col.toNat default)=false:=by simpa using h7
   have hv:ownM ts e l=(0,4):=by simp only [ownM,h1',h2',h3',h4,h5,h6,h7',Bool.not_true,Bool.not_false,Bool.or_false,Bool.false_or,Bool.true_or,Bool.or_true,Bool.and_true,Bool.true_and,Bool.false_and,Bool.and_false,Bool.false_eq_true,Bool.or_self,Bool.and_self,if_true,if_false]
   exact zD trivial (by rw [<-hr,hv];rfl) (by simp [ends])
  have h7':zC (ts.getD e.col.toNat default)=true:=by simpa using h7
  refine zd [[0,0,0,0],[1]] [] (c_fit (yo e.op) l (by omega) hf4 hf6) ?_
  simp -implicitDefEqProofs only [↓zb,push_cast,simprocAttr,tte]
  refine za (fun h8=>?_) fun h8=>?_
  ·have h8':fitM (yo e.op) l=false:=by simpa using h8
   have hv:ownM ts e l=(0,4):=by simp only [ownM,h1',h2',h3',h4,h5,h6,h7',h8',Bool.not_true,Bool.not_false,Bool.or_false,Bool.false_or,Bool.true_or,Bool.or_true,Bool.and_true,Bool.true_and,Bool.false_and,Bool.and_false,Bool.false_eq_true,Bool.or_self,Bool.and_self,if_true,if_false]
   exact zD trivial (by rw [<-hr,hv];rfl) (by simp [ends])
  have h8':fitM (yo e.op) l=true:=by simpa using h8
  rw [h4,yp]
  refine ⟨by simp only [decide_eq_false_iff_not] at h5 h6;omega,?_⟩
  have hv:ownM ts e l=(ts.getD e.col.toNat default,0):=by simp only [ownM,h1',h2',h3',h4,h5,h6,h7',h8',Bool.not_true,Bool.not_false,Bool.or_false,Bool.false_or,Bool.true_or,Bool.or_true,Bool.and_true,Bool.true_and,Bool.false_and,Bool.and_false,Bool.false_eq_true,Bool.or_self,Bool.and_self,if_true,if_false]
  exact zD trivial (by rw [<-hr,hv];rfl) (by simp [ends])
 rw [h4,uy]
 refine zd [[0,0,0,0],[1]] [] (c_fit (yo e.op) l (by omega) hf4 hf6) ?_
 simp -implicitDefEqProofs only [↓zb,push_cast,simprocAttr,tte]
 refine za (fun h8=>?_) fun h8=>?_
 ·have h8':fitM (yo e.op) l=false:=by simpa using h8
  have hv:ownM ts e l=(0,4):=by simp only [ownM,h1',h2',h3',h4,h8',Bool.not_true,Bool.not_false,Bool.or_false,Bool.false_or,Bool.true_or,Bool.or_true,Bool.and_true,Bool.true_and,Bool.false_and,Bool.and_false,Bool.false_eq_true,Bool.or_self,Bool.and_self,if_true,if_false]
  exact zD trivial (by rw [<-hr,hv];rfl) (by simp [ends])
 have h8':fitM (yo e.op) l=true:=by simpa using h8
 rw [h4,uy]
 refine za (fun h5=>?_) fun h5=>?_
 ·have hv:ownM ts e l=(e.type,0):=by simp only [ownM,h1',h2',h3',h4,h8',h5,Bool.not_true,Bool.not_false,Bool.or_false,Bool.false_or,Bool.true_or,Bool.or_true,Bool.and_true,Bool.true_and,Bool.false_and,Bool.and_false,Bool.false_eq_true,Bool.or_self,Bool.and_self,if_true,if_false]
  exact zD trivial (by rw [<-hr,hv];rfl) (by simp [ends])
 refine za (fun h6=>?_) fun h6=>?_
 ·have h5': ¬e.op=1:=by simpa using h5
  have h4': ¬e.op=5:=by simpa using h4
  have h6':(yo e.op).own=0:=by simpa using h6
  have hp:=hf0 h5' h4' h6'
  have hw:IntKind.i64.wrap ((e.kids.length:Int)-1)=((l.length-1:Nat):Int):=by rw [zJ (by omega) (by omega)];omega
  rw [hw]
  have hv:ownM ts e l=(l.getD (l.length-1) default,0):=by simp only [ownM,h1',h2',h3',h4,h8',h5,h6,Bool.not_true,Bool.not_false,Bool.or_false,Bool.false_or,Bool.true_or,Bool.or_true,Bool.and_true,Bool.true_and,Bool.false_and,Bool.and_false,Bool.false_eq_true,Bool.or_self,Bool.and_self,if_true,if_false]
  refine ⟨hl2.symm,⟨⟨by omega,by omega⟩,hl2.symm⟩,by omega,hl2.symm,?_⟩
  exact zD trivial (by rw [<-hr,hv];rfl) (by simp [ends])
 have hv:ownM ts e l=((yo e.op).own,0):=by simp only [ownM,h1',h2',h3',h4,h8',h5,h6,Bool.not_true,Bool.not_false,Bool.or_false,Bool.false_or,Bool.true_or,Bool.or_true,Bool.and_true,Bool.true_and,Bool.false_and,Bool.and_false,Bool.false_eq_true,Bool.or_self,Bool.and_self,if_true,if_false]
 exact zD trivial (by rw [<-hr,hv];rfl) (by simp [ends])
end
section
open Go.Am
attribute [local simp, local push_cast] num boo str ints aV aTab zA aS aT aC zV zF
def zL (f:Ex->List Int->Int×Int) (e:Ex):Int×Int:=if x7 e>200 then (0,8) else if yU e>24 then (0,13) else typG f e
theorem c_type (ts:List Int) (hts:ts.length<=1000000000) (e:Ex) (ho:Ok12 e):ACall Tryz.prog 120 [ints ts,aE e] [] (zF (zL (ownM ts) e)) []:=by
 refine zp mixed ttok Tryz.func120 Tryz.ntmps120 Tryz.results120 ?_
 generalize hr:zF (zL (ownM ts) e)=R
 simp -implicitDefEqProofs only [argT,↓zb,push_cast,simprocAttr,tte]
 refine zd [[0,0,0,0,0,6]] [] (c_size e ho) ?_
 simp -implicitDefEqProofs only [↓zb,push_cast,simprocAttr,tte]
 refine za (fun h=>?_) fun h=>?_
 ·have hv:zL (ownM ts) e=(0,8):=if_pos (of_decide_eq_true h)
  exact zD trivial (by rw [<-hr,hv];rfl) (by simp [ends])
 have h': ¬x7 e>200:=of_decide_eq_false h
 refine zd [[0,0,0,0,0,6]] [] (c_depth e ho) ?_
 simp -implicitDefEqProofs only [↓zb,push_cast,simprocAttr,tte]
 refine za (fun g=>?_) fun g=>?_
 ·have hv:zL (ownM ts) e=(0,13):=by rw [zL,if_neg h',if_pos (of_decide_eq_true g)]
  exact zD trivial (by rw [<-hr,hv];rfl) (by simp [ends])
 have g': ¬yU e>24:=of_decide_eq_false g
 refine zd [[1],[0,0,0,0,0,6]] [] (c_typ ts hts e ho) ?_
 have hv:zL (ownM ts) e=typG (ownM ts) e:=by rw [zL,if_neg h',if_neg g']
 simp -implicitDefEqProofs only [zF,↓zb,push_cast,simprocAttr,tte]
 exact zD trivial (by rw [<-hr,hv];rfl) (by simp [ends])
def vj (f:Nat->Int) (N:Nat):Int:=ferr f (List.range N)
theorem wk {N i:Nat} (h:i<N):(List.range N).getD i default=i:=by rw [List.getD_eq_getElem?_getD,List.getElem?_range h];rfl
theorem qQ {f:Nat->Int} {N n:Nat} (h:n<N) (hi: ∀i,i<n->f i=0) (hn:f n≠0):vj f N=f n:=by
 have:=x5 f (List.range N) n (by simpa using h) (fun i h2=>by rw [wk (by omega)];exact hi i h2) (by rw [wk h];exact hn)
 rwa [wk h] at this
theorem wS {f:Nat->Int} {N:Nat} (hi: ∀i,i<N->f i=0):vj f N=0:=
 yt f (List.range N) fun i h=>by rw [List.length_range] at h;rw [wk h];exact hi i h
def wi (k:Int):Bool:=(k !=1&&k !=2)&&k !=3
def wI (k:Int):Int:=if 0>k then 0 else k
def y9 (t:Tbl) (i:Nat):Int:=
 if !w8 (t.columns.getD i default).name then 3 else if wI (byC t.columns (t.columns.getD i default).name)<i then 5 else if wi (t.columns.getD i default).type then 4 else 0
def yR (t:Tbl) (e:Ex):Int:=if (zL (ownM (zX t)) e).2≠0 then (zL (ownM (zX t)) e).2 else if (zL (ownM (zX t)) e).1≠2 then 4 else 0
def bigT (t:Tbl):Bool:=((decide ((t.columns.length:Int)>8) || decide ((t.uniques.length:Int)>3)) || decide ((t.foreigns.length:Int)>3)) || decide ((t.checks.length:Int)>4)
def yE (t:Tbl):Int:=
 if bigT t then 8 else if t.columns.length=0 then 9
 else if vj (y9 t) t.columns.length≠0 then vj (y9 t) t.columns.length
 else if xe t≠0 then xe t else ferr (yR t) t.checks
theorem c_table (t:Tbl) (ht:SmallT t):ACall Tryz.prog 75 [aT t] [] (num (yE t)) []:=by
 refine zp mixed ttok Tryz.func75 Tryz.ntmps75 Tryz.results75 ?_
 generalize hr:num (yE t)=R
 simp -implicitDefEqProofs only [argT,↓zb,push_cast,simprocAttr,tte]
 have hcl:=ht.cols
 have hkl:=ht.chk
 have hbig:bigT t=true->retx (some (True,A.d (D.lit (Value.int .i64 8)))) ⟨[],[(1,vT t)]⟩ R []:=fun hb=>zk trivial (by rw [<-hr,yE,if_pos hb];rfl) (by simp [ends])
 simp only [vT] at hbig
 refine za (fun h1=>?_) fun h1=>?_
 ·exact hbig (by rw [bigT,h1];simp only [Bool.true_or])
 refine za (fun h2=>?_) fun h2=>?_
 ·exact hbig (by rw [bigT,h2];simp only [Bool.or_true,Bool.true_or])
 refine za (fun h3=>?_) fun h3=>?_
 ·exact hbig (by rw [bigT,h3];simp only [Bool.or_true,Bool.true_or])
 refine za (fun h4=>?_) fun h4=>?_
 ·exact hbig (by rw [bigT,h4];simp only [Bool.or_true])
 clear hbig
 have hb: ¬bigT t=true:=by rw [bigT,h1,h2,h3,h4];decide
 refine za (fun h5=>?_) fun h5=>?_
 ·have h5':t.columns.length=0:=by simpa using h5
  exact zk trivial (by rw [<-hr,yE,if_neg hb,if_pos h5'];rfl) (by simp [ends])
 have h5': ¬t.columns.length=0:=by simpa using h5
 have hM:yE t=if vj (y9 t) t.columns.length≠0 then vj (y9 t) t.columns.length
  else if xe t≠0 then xe t else ferr (yR t) t.checks:=by rw [yE,if_neg hb,if_neg h5']
 clear h1 h2 h3 h4 h5
 refine zn mixed ttok 43 [1,41,42] [1] (by simp only [z6,ends,push_cast,simprocAttr];rfl) (by simp only [zB,zo,ends,push_cast,simprocAttr];rfl) t.columns.length (fun n=> ∀i,i<n->y9 t i=0) (fun _=>[]) (fun _=>[]) (fun i h=>absurd h (Nat.not_lt_zero _)) ?_ ?_
 ·exact Weak.keepL (by simp [cst,ends]) (by simp [cst,ends]) (by simp [cst,ends])
 intro I hI n hn hi
 simp -implicitDefEqProofs only [cst,↓zb,push_cast,simprocAttr,tte]
 refine za (fun h=>?_) fun h=>?_
 ·simp only [decide_eq_true_eq] at h
  have h':n<t.columns.length:=by omega
  have hw:=zj h' (by omega)
  have hE:y9 t n≠0->num (y9 t n)=R:=fun hne=>by
   have:=qQ h' hi hne
   rw [<-hr,hM,this,if_pos hne]
  refine ⟨(by first | omega | trivial | (refine ⟨?_,?_⟩<;>first | omega | trivial | (refine ⟨?_,?_⟩<;>first | omega | trivial | (refine ⟨?_,?_⟩<;>first | omega | trivial | rfl)))),?_⟩
  refine zd [[0]] [] (c_name (t.columns.getD n default).name) ?_
  simp -implicitDefEqProofs only [↓zb,push_cast,simprocAttr,tte]
  refine za (fun g1=>?_) fun g1=>?_
  ·have hc:y9 t n=3:=if_pos g1
   exact zk trivial (by rw [<-hE (by rw [hc];decide),hc];rfl) (by simp [ends])
  refine zd [[0,3,1,1,2,6],[0]] [] (c_column t (t.columns.getD n default).name (by omega)) ?_
  simp -implicitDefEqProofs only [↓zb,push_cast,simprocAttr,tte]
  refine za (fun g2=>?_) fun g2=>?_
  ·have hc:y9 t n=5:=by rw [y9,if_neg (by rw [g1];decide)];exact if_pos (of_decide_eq_true g2)
   exact zk trivial (by rw [<-hE (by rw [hc];decide),hc];rfl) (by simp [ends])
  have hcB:y9 t n=if wi (t.columns.getD n default).type then 4 else 0:=by rw [y9,if_neg (by rw [g1];decide)];exact if_neg (of_decide_eq_false g2)
  have hinv:wi (t.columns.getD n default).type=false-> ∀i,i<n+1->y9 t i=0:=fun hb i h2=>if h3:i=n then by rw [h3,hcB,hb];rfl else hi i (by omega)
  refine za (fun g3=>?_) fun g3=>?_
  ·refine za (fun g4=>?_) fun g4=>?_
   ·refine za (fun g5=>?_) fun g5=>?_
    ·have hc:y9 t n=4:=by rw [hcB,wi,g3,g4,g5];rfl
     exact zk trivial (by rw [<-hE (by rw [hc];decide),hc];rfl) (by simp [ends])
    ·exact zl hI n rfl h' (hinv (by rw [wi,g5,Bool.and_false])) (by simp [hw,ends]) (by simp [hw,ends]) (by simp [hw,ends]) (by simp [hw,ends])
   ·exact zl hI n rfl h' (hinv (by rw [wi,g4,Bool.and_false,Bool.false_and])) (by simp [hw,ends]) (by simp [hw,ends]) (by simp [hw,ends]) (by simp [hw,ends])
  ·exact zl hI n rfl h' (hinv (by rw [wi,g3,Bool.false_and,Bool.false_and])) (by simp [hw,ends]) (by simp [hw,ends]) (by simp [hw,ends]) (by simp [hw,ends])
 simp only [decide_eq_false_iff_not] at h
 obtain rfl:n=t.columns.length:=by omega
 clear hI
 have hM2:yE t=if xe t≠0 then xe t else ferr (yR t) t.checks:=by rw [hM,wS hi,if_neg (by decide)]
 clear hM h
 refine zd [[0,3,1,1,2,6]] [] (c_keys t ht) ?_
 simp -implicitDefEqProofs only [↓zb,push_cast,simprocAttr,tte]
 refine za (fun k1=>?_) fun k1=>?_
 ·have k1':xe t≠0:=by simpa using k1
  exact zk trivial (by rw [<-hr,hM2,if_pos k1'];rfl) (by simp [ends])
 have k1': ¬xe t≠0:=by simpa using k1
 rw [if_neg k1'] at hM2
 refine zn mixed ttok 84 [1,82,83] [1] (by simp only [z6,ends,push_cast,simprocAttr];rfl) (by simp only [zB,zo,ends,push_cast,simprocAttr];rfl) t.checks.length (fun n=> ∀i,i<n->yR t (t.checks.getD i default)=0) (fun _=>[]) (fun _=>[]) (fun i h=>absurd h (Nat.not_lt_zero _)) ?_ ?_
 ·exact Weak.keepL (by simp [cst,ends]) (by simp [cst,ends]) (by simp [cst,ends])
 clear hi hn I
 intro I hI n hn hi
 simp -implicitDefEqProofs only [cst,↓zb,push_cast,simprocAttr,tte]
 refine za (fun h=>?_) fun h=>?_
 ·simp only [decide_eq_true_eq] at h
  have h':n<t.checks.length:=by omega
  have hw:=zj h' (by omega)
  have hE:yR t (t.checks.getD n default)≠0->num (yR t (t.checks.getD n default))=R:=fun hne=>by
   have:=x5 (yR t) t.checks n h' hi hne
   rw [<-hr,hM2,this]
  have hl:(zX t).length<=1000000000:=by rw [zX,List.length_map];omega
  refine ⟨(by first | omega | trivial | (refine ⟨?_,?_⟩<;>first | omega | trivial | (refine ⟨?_,?_⟩<;>first | omega | trivial | (refine ⟨?_,?_⟩<;>first | omega | trivial | rfl)))),?_⟩
  refine zd [[0,3,1,1,2,6]] [] (c_types t (by omega)) ?_
  simp -implicitDefEqProofs only [↓zb,push_cast,simprocAttr,tte]
  refine zd [[1],[0,0,0,0,0,6]] [] (c_type (zX t) hl (t.checks.getD n default) (ht.chks _ (zi h'))) ?_
  simp -implicitDefEqProofs only [zF,↓zb,push_cast,simprocAttr,tte]
  refine ⟨zg (by kernel_rfl),?_⟩
  refine za (fun g1=>?_) fun g1=>?_
  ·have g1':(zL (ownM (zX t)) (t.checks.getD n default)).2≠0:=by simpa using g1
   have hc:yR t (t.checks.getD n default)=(zL (ownM (zX t)) (t.checks.getD n default)).2:=if_pos g1'
   exact zk trivial (by rw [<-hE (by rw [hc];exact g1'),hc];rfl) (by simp [ends])
  have g1': ¬(zL (ownM (zX t)) (t.checks.getD n default)).2≠0:=by simpa using g1
  refine za (fun g2=>?_) fun g2=>?_
  ·have g2':(zL (ownM (zX t)) (t.checks.getD n default)).1≠2:=by simpa using g2
   have hc:yR t (t.checks.getD n default)=4:=by rw [yR,if_neg g1',if_pos g2']
   exact zk trivial (by rw [<-hE (by rw [hc];decide),hc];rfl) (by simp [ends])
  have g2': ¬(zL (ownM (zX t)) (t.checks.getD n default)).1≠2:=by simpa using g2
  have hc:yR t (t.checks.getD n default)=0:=by rw [yR,if_neg g1',if_neg g2']
  exact zl hI n rfl h' (fun i h2=>if h3:i=n then by rw [h3];exact hc else hi i (by omega)) (by simp [hw,ends]) (by simp [hw,ends]) (by simp [hw,ends]) (by simp [hw,ends])
 simp only [decide_eq_false_iff_not] at h
 obtain rfl:n=t.checks.length:=by omega
 exact zk trivial (by rw [<-hr,hM2,yt _ _ hi];rfl) (by simp [ends])
end
section
open Go.Am
attribute [local simp, local push_cast] num boo str ints aV aTab zA aS aT aC zV zF vT
theorem ne_nat {a b:Nat} (h:((a:Int) !=(b:Int))=true): ¬a=b:=fun e=>by rw [e] at h;simp at h
theorem eq_nat {a b:Nat} (h:((a:Int) !=(b:Int))=false):a=b:=by simp only [bne_eq_false_iff_eq] at h;omega
def aFk (f:Fk):A:= .agg [.d (.sl 1 (ze rI f.columns)),.d (.lit (.string f.table))]
attribute [local simp, local push_cast] aFk
def yB (t:Tbl) (k:Int):Int:=(t.columns.getD k.toNat default).type
theorem c_ref1 (t u:Tbl) (i j:Int) (hi:inC t i) (hj:inC u j):ACall Tryz.prog 123 [num i,num j,.ptr 1000 0,.ptr 1001 0] [(1000,vT t),(1001,vT u)] (boo (yB t i==yB u j)) [(1000,vT t),(1001,vT u)]:=by
 refine zp mixed ttok Tryz.func123 Tryz.ntmps123 Tryz.results123 ?_
 generalize hr:boo (yB t i==yB u j)=R
 obtain ⟨hi0,hi1⟩:=hi
 obtain ⟨hj0,hj1⟩:=hj
 simp -implicitDefEqProofs only [argT,vT,↓zb,push_cast,simprocAttr,tte]
 refine ⟨⟨hi0,hi1⟩,⟨hj0,hj1⟩,zg (by kernel_rfl),?_⟩
 refine zr [0] rfl (by simp) (by simp [zc]<;>omega) ?_ (by first | rfl | simp [ends] | (subst_vars;simp [ends])) (by simp [ends]) (by simp [ends])
 exact hr
def xm (t u:Tbl) (a b:List Int):Bool:=a.length==b.length&&(List.range a.length).all fun i=>yB t (a.getD i default)==yB u (b.getD i default)
theorem c_eqF (t u:Tbl) (a b:List Int) (ha: ∀k∈a,inC t k) (hb: ∀k∈b,inC u k) (hl:a.length<=1000):
 ACall Tryz.prog 122 [ints a,ints b,.clo 123 [.ptr 1000 0,.ptr 1001 0]] [(1000,vT t),(1001,vT u)] (boo (xm t u a b)) [(1000,vT t),(1001,vT u)]:=by
 refine zp mixed ttok Tryz.func122 Tryz.ntmps122 Tryz.results122 ?_
 generalize hr:boo (xm t u a b)=R
 simp -implicitDefEqProofs only [argT,vT,↓zb,push_cast,simprocAttr,tte]
 refine za (fun h0=>?_) fun h0=>?_
 ·have h0': ¬a.length=b.length:=ne_nat h0
  refine zr [0] rfl (by simp) (by simp [zc]<;>omega) ?_ (by first | rfl | simp [ends] | (subst_vars;simp [ends])) (by simp [ends]) (by simp [ends])
  rw [<-hr,xm,beq_false_of_ne h0'];rfl
 have h0':a.length=b.length:=eq_nat h0
 refine zn mixed ttok 17 [0,1,2,15,16] [1000,1001] (by simp only [z6,ends,push_cast,simprocAttr];rfl) (by simp only [zB,zo,ends,push_cast,simprocAttr];rfl) a.length (fun n=> ∀i,i<n->(yB t (a.getD i default)==yB u (b.getD i default))=true) (fun _=>[]) (fun _=>[]) (fun i h=>absurd h (Nat.not_lt_zero _)) ?_ ?_
 ·exact Weak.keepL (by simp [cst,ends]) (by simp [cst,ends]) (by simp [cst,ends])
 intro I hI n hn hi
 simp -implicitDefEqProofs only [cst,↓zb,push_cast,simprocAttr,tte]
 refine za (fun h=>?_) fun h=>?_
 ·simp only [decide_eq_true_eq] at h
  have h':n<a.length:=by omega
  have hw:=zj h' (by omega)
  refine ⟨(by first | omega | trivial | (refine ⟨?_,?_⟩<;>first | omega | trivial | (refine ⟨?_,?_⟩<;>first | omega | trivial | (refine ⟨?_,?_⟩<;>first | omega | trivial | rfl)))),?_⟩
  refine ⟨by omega,?_⟩
  have hc:=c_ref1 t u (a.getD n default) (b.getD n default) (ha _ (zi h')) (hb _ (zi (by omega)))
  unfold vT at hc
  refine zd [[0],[0],[],[]] [(1000,1000),(1001,1001)] (hc) ?_
  simp -implicitDefEqProofs only [↓zb,push_cast,simprocAttr,tte]
  refine za (fun g=>?_) fun g=>?_
  ·have g':(yB t (a.getD n default)==yB u (b.getD n default))=false:=by simpa using g
   refine zr [0] rfl (by simp) (by simp [zc]<;>omega) ?_ (by first | rfl | simp [ends] | (subst_vars;simp [ends])) (by simp [ends]) (by simp [ends])
   have hbad:((List.range a.length).all fun i=>yB t (a.getD i default)==yB u (b.getD i default))=false:=xY h' g'
   rw [<-hr,xm,hbad,Bool.and_false];rfl
  ·have g':(yB t (a.getD n default)==yB u (b.getD n default))=true:=by simpa using g
   exact zl hI n rfl h' (fun i h2=>if h3:i=n then by rw [h3];exact g' else hi i (by omega)) (by simp [hw,ends]) (by simp [hw,ends]) (by simp [hw,ends]) (by simp [hw,ends])
 ·simp only [decide_eq_false_iff_not] at h
  obtain rfl:n=a.length:=by omega
  refine zr [0] rfl (by simp) (by simp [zc]<;>omega) ?_ (by first | rfl | simp [ends] | (subst_vars;simp [ends])) (by simp [ends]) (by simp [ends])
  rw [<-hr,xm,all_range.2 hi,h0',beq_self_eq_true];rfl
def refM (s:Sch) (t:Tbl) (f:Fk):Int:=
 if byT s f.table<0 then 11 else if xm t (s.getD (byT s f.table).toNat default) f.columns (s.getD (byT s f.table).toNat default).primary then 0 else 6
theorem c_reference (s:Sch) (t:Tbl) (f:Fk) (hs:s.length<=1000) (hl:f.columns.length<=1000) (hf: ∀k∈f.columns,inC t k) (hp: ∀u∈s,∀k∈u.primary,inC u k):
 ACall Tryz.prog 76 [aS s,aT t,aFk f] [] (num (refM s t f)) []:=by
 refine zp mixed ttok Tryz.func76 Tryz.ntmps76 Tryz.results76 ?_
 generalize hr:num (refM s t f)=R
 simp -implicitDefEqProofs only [argT,↓zb,push_cast,simprocAttr,tte]
 refine zd [[6],[0]] [] (c_find s f.table (by omega)) ?_
 simp -implicitDefEqProofs only [↓zb,push_cast,simprocAttr,tte]
 refine za (fun h=>?_) fun h=>?_
 ·have h':byT s f.table<0:=by simpa using h
  exact zk trivial (by rw [<-hr,refM,if_pos h'];rfl) (by simp [ends])
 have h': ¬byT s f.table<0:=by simpa using h
 have hlt:=wg (fun t=>t.name.toList==f.table.toList) s
 have hM:refM s t f=if xm t (s.getD (byT s f.table).toNat default) f.columns (s.getD (byT s f.table).toNat default).primary then 0 else 6:=if_neg h'
 have hk:byT s f.table<s.length:=hlt
 clear hlt h
 generalize byT s f.table=k at h' hM hk ⊢
 simp only [if_neg (show¬0>k by omega)]
 refine ⟨⟨by omega,hk⟩,?_⟩
 have hu:s.getD k.toNat default∈s:=zi (by omega)
 have hc:=c_eqF t (s.getD k.toNat default) f.columns (s.getD k.toNat default).primary hf (hp _ hu) hl
 unfold vT at hc
 refine zd [[1],[1],[]] [(1000,4),(1001,9)] (hc) ?_
 simp -implicitDefEqProofs only [↓zb,push_cast,simprocAttr,tte]
 refine za (fun g=>?_) fun g=>?_
 ·have g':xm t (s.getD k.toNat default) f.columns (s.getD k.toNat default).primary=false:=by simpa using g
  exact zk trivial (by rw [<-hr,hM,g'];rfl) (by simp [ends])
 ·have g':xm t (s.getD k.toNat default) f.columns (s.getD k.toNat default).primary=true:=by simpa using g
  exact zk trivial (by rw [<-hr,hM,g'];rfl) (by simp [ends])
end
section
open Go.Am
attribute [local simp, local push_cast] num boo str ints aV aTab zA aS aT aC zV zF aFk vT
theorem c_order1n:ACall Tryz.prog 78 [.d (.lit (.map none))] [] (boo false) []:=by
 refine zp mixed ttok Tryz.func78 Tryz.ntmps78 Tryz.results78 ?_
 generalize hr:boo false=R
 simp -implicitDefEqProofs only [argT,↓zb,push_cast,simprocAttr,tte]
 refine zr [0] rfl (by simp) (by simp [zc]<;>omega) ?_ (by first | rfl | simp [ends] | (subst_vars;simp [ends])) (by simp [ends]) (by simp [ends])
 exact hr
theorem c_order1 (ks:List Int):ACall Tryz.prog 78 [.mp 1000] [(1000,.mp (encM ks))] (boo (ks.length==0)) [(1000,.mp (encM ks))]:=by
 refine zp mixed ttok Tryz.func78 Tryz.ntmps78 Tryz.results78 ?_
 generalize hr:boo (ks.length==0)=R
 simp -implicitDefEqProofs only [argT,encM_length,↓zb,push_cast,simprocAttr,tte]
 subst hr
 refine zr [0] rfl (by simp) (by simp [zc]<;>omega) ?_ (by first | rfl | simp [ends] | (subst_vars;simp [ends])) (by simp [ends]) (by simp [ends])
 have:((ks.length:Int)==0)=(ks.length==0):=by rw [Bool.eq_iff_iff];simp
 rw [this];rfl
def qO:Option (List Int)->Bool
 | none=>false
 | some ks=>ks.length==0
def mobs (a b:Nat) (ms:List (Option (List Int))):List (Nat×Ob):=(a,.var (yS b ms))::y4 b ms
theorem mapsL_mk: ∀(b:Nat) (ms:List (Option (List Int))),b+ms.length<=1000000->noMk (y4 b ms)=true
 | b,[],_=>rfl
 | b,none::ms,h=>by
   simp only [y4]
   exact mapsL_mk (b+1) ms (by simp only [List.length_cons] at h;omega)
 | b,some ks::ms,h=>by
   simp only [y4,noMk,List.all_cons,Bool.and_eq_true,decide_eq_true_eq]
   simp only [List.length_cons] at h
   exact ⟨by omega,mapsL_mk (b+1) ms (by omega)⟩
theorem mobs_mk {ms:List (Option (List Int))} (h:ms.length<=6):noMk (mobs 1000 1001 ms)=true:=by
 simp only [mobs,noMk,List.all_cons,Bool.and_eq_true,decide_eq_true_eq]
 exact ⟨by omega,mapsL_mk 1001 ms (by omega)⟩
theorem mobs_at {a b:Nat} {ms:List (Option (List Int))} {n:Nat} {ks:List Int} (hab:a<b) (h:ms[n]? =some (some ks)):lookO (mobs a b ms) (b+n)=some (.mp (encM ks)):=by
 rw [mobs,y7 (by omega)];exact yg b h
theorem qH {a b:Nat} {ms:List (Option (List Int))} {n:Nat} {ks:List Int} (h:ms[n]? =some (some ks)):inO (mobs a b ms) (b+n)=true:=xL (inO_maps b h)
theorem kp {a b:Nat} {ms:List (Option (List Int))} (hab:a<b):keepO (lookO (mobs a b ms)) (inO (mobs a b ms)) (mobs a b ms):=
 ⟨⟨by simp [mobs,lookO],wx fun n ks h=>qH h⟩,wR fun n ks h=>mobs_at hab h⟩
theorem qI {a b:Nat} {ms:List (Option (List Int))}:keepIn (inO (mobs a b ms)) (mobs a b ms):=
 ⟨.inr inO_cons_l,ur fun n ks h=> .inr (qH h)⟩
theorem c_idxM (ms:List (Option (List Int))) (hl:ms.length<=6):
 ACall Tryz.prog 77 [.vs 1000 ms.length,.clo 78 []] (mobs 1000 1001 ms) (num (fidx qO ms)) (mobs 1000 1001 ms):=by
 refine zp mixed ttok Tryz.func77 Tryz.ntmps77 Tryz.results77 ?_ (hmk:=mobs_mk hl)
 generalize hr:num (fidx qO ms)=R
 unfold mobs
 simp -implicitDefEqProofs only [argT,↓zb,push_cast,simprocAttr,tte]
 have hend: ∀(t:List (Nat×A)) (v:Int),num v=R->retx (some (True,A.d (D.lit (Value.int IntKind.i64 v)))) ⟨t,(1000,.var (yS 1001 ms))::y4 1001 ms⟩ R ((1000,.var (yS 1001 ms))::y4 1001 ms):=fun t v hv=>by
  refine zr [0] rfl trivial trivial hv (by rw [<-hv];rfl) ?_ ?_
  ·exact kp (by omega)
  ·exact qI
 refine vh mixed ttok 8 [0,1,7] (by simp only [z6,ends,ite_true,ite_false,reduceIte,Nat.reduceEqDiff,Nat.reduceLeDiff,Nat.reduceLT,Nat.reduceAdd,reduceCtorEq,num,boo,str,ints,aV,aTab,zA,aS,aT,aC,zV,zF,aFk,vT];rfl) (mobs 1000 1001 ms) ms.length (fun n=> ∀i,i<n->qO (ms.getD i default)=false) (fun _=>[]) (fun _=>[]) (fun i h=>absurd h (Nat.not_lt_zero _)) ?_ ?_
 ·refine Weak.keepL (by simp [cst,mobs,ends]) (kp (by omega)) qI
 intro I hI n hn hi
 unfold mobs at hI ⊢
 simp -implicitDefEqProofs only [cst,↓zb,push_cast,simprocAttr,tte]
 refine za (fun h=>?_) fun h=>?_
 ·simp only [decide_eq_true_eq] at h
  have h':n<ms.length:=by omega
  have hw:=zj h' (by omega)
  refine ⟨by omega,?_⟩
  have hm:ms[n]? =some (ms.getD n default):=by rw [List.getD_eq_getElem?_getD,List.getElem?_eq_getElem h'];rfl
  rw [vN,hm]
  generalize ms.getD n default=m at hm
  have hfi:ms.getD n default=m:=by rw [List.getD_eq_getElem?_getD,hm];rfl
  have hinv:qO m=false-> ∀i,i<n+1->qO (ms.getD i default)=false:=fun hf i h2=>if h3:i=n then by rw [h3,hfi,hf] else hi i (by omega)
  cases m with
  | none=>
    simp -implicitDefEqProofs only [kO,Option.map_some,↓zb,push_cast,simprocAttr,tte]
    refine zd [[0]] [] (c_order1n) ?_
    simp -implicitDefEqProofs only [↓zb,push_cast,simprocAttr,tte]
    refine wp hI n rfl h' (hinv rfl) (Weak.keepL (by simp [cst,hw,ends]) (kp (by omega)) qI)
  | some ks=>
    simp -implicitDefEqProofs only [kO,Option.map_some,↓zb,push_cast,simprocAttr,tte]
    refine callx_same [[]] (fun _=>1001+n) rfl (c_order1 ks) rfl (by simp) rfl rfl ⟨⟨?_,rfl⟩,trivial⟩ (by simp) (by simp) (by simp) ?_
    ·exact mobs_at (by omega) hm
    simp -implicitDefEqProofs only [↓zb,push_cast,simprocAttr,tte]
    refine za (fun g=>?_) fun g=>?_
    ·exact hend _ _ (by rw [<-hr,x4 qO ms n h' hi (by rw [hfi];exact g)])
    ·refine wp hI n rfl h' (hinv g) (Weak.keepL (by simp [cst,hw,ends]) (kp (by omega)) qI)
 ·simp only [decide_eq_false_iff_not] at h
  obtain rfl:n=ms.length:=by omega
  exact hend _ _ (by rw [<-hr,yO qO ms hi])
end
section
open Go.Am
attribute [local simp, local push_cast] num boo str ints aV aTab zA aS aT aC zV zF aFk vT
def wo (s:Sch) (l:List Fk):List Int:=l.foldl (fun acc f=>addK acc (byT s f.table)) []
def ms1 (s:Sch) (n:Nat):List (Option (List Int)):=(List.range s.length).map fun i=>if i<n then some (wo s (s.getD i default).foreigns) else none
theorem xJ (s:Sch) (n:Nat):(ms1 s n).length=s.length:=by simp [ms1]
theorem ms1_zero (s:Sch):ms1 s 0=List.replicate s.length none:=by
 apply List.ext_getElem?
 intro j
 simp only [ms1,Nat.not_lt_zero,if_false,List.getElem?_map,List.getElem?_replicate]
 by_cases hj:j<s.length
 ·rw [List.getElem?_range hj,if_pos hj];rfl
 ·rw [List.getElem?_eq_none (by simp;omega),if_neg hj];rfl
theorem ms1_succ (s:Sch) (n:Nat) (h:n<s.length):(ms1 s n).set n (some (wo s (s.getD n default).foreigns))=ms1 s (n+1):=by
 apply List.ext_getElem?
 intro j
 rw [List.getElem?_set,xJ]
 by_cases hj:n=j
 ·subst hj;simp [ms1,h]
 ·simp only [hj,if_false,ms1,List.getElem?_map]
  by_cases hl:j<s.length
  ·rw [List.getElem?_range hl]
   simp only [Option.map_some]
   congr 1
   by_cases h1:j<n
   ·rw [if_pos h1,if_pos (by omega)]
   ·rw [if_neg h1,if_neg (by omega)]
  ·rw [List.getElem?_eq_none (by simp;omega)];rfl
theorem depsTo_succ (s:Sch) (l:List Fk) (n:Nat) (h:n<l.length):wo s (l.take (n+1))=addK (wo s (l.take n)) (byT s (l.getD n default).table):=by
 rw [zH _ _ h,wo,List.foldl_append];rfl
theorem yu {ms:List (Option (List Int))} {k:Nat} (h:k<700):lookO (y4 700 ms) k=none:=lookO_maps_lt ms h
attribute [local simp, local push_cast] yu
theorem closedL_set {dom:Nat->Bool} {a:A} (ha:a.closed dom=true): ∀(l:List A) (n:Nat),closedL dom l=true->closedL dom (l.set n a)=true
 | [],_,h=>h
 | x::l,0,h=>by simp only [closedL,List.set_cons_zero,Bool.and_eq_true] at h ⊢;exact ⟨ha,h.2⟩
 | x::l,n+1,h=>by simp only [closedL,List.set_cons_succ,Bool.and_eq_true] at h ⊢;exact ⟨h.1,closedL_set ha l n h.2⟩
theorem renL_set (r:Nat->Nat) (a:A): ∀(l:List A) (n:Nat),renL r (l.set n a)=(renL r l).set n (a.ren r)
 | [],_=>rfl
 | x::l,0=>rfl
 | x::l,n+1=>by simp only [List.set_cons_succ,renL];rw [renL_set r a l n]
theorem renO_maps {a b:Nat}: ∀{ms:List (Option (List Int))} {c:Nat},a<c->renO a b (y4 c ms)=y4 c ms
 | [],_,_=>rfl
 | none::l,c,h=>by rw [y4];exact renO_maps (by omega)
 | some ks::l,c,h=>by rw [y4,renO,renO_maps (by omega)];simp only [zZ,Ob.ren];rw [if_neg (by omega)]
theorem jH {dom:Nat->Bool} {ms:List (Option (List Int))} (h:ms.length<=6):keepIn dom (y4 700 ms):=ur fun n ks hn=> .inl (by have:=(List.getElem?_eq_some_iff.1 hn).1;omega)
theorem splice_set {α:Type} (l:List α) (n:Nat) (x:α) (h:n<l.length):l.take n++[x]++l.drop (n+1)=l.set n x:=by rw [List.set_eq_take_append_cons_drop,if_pos h,List.append_assoc];rfl
def vS (s:Sch):Ob:= .var [.d (.sl 6 (ze rT s))]
theorem keep_a {f:Nat->Option Ob} {s:Sch} {ms:List (Option (List Int))} (h1:f 1=some (vS s)) (h2:f 18=some (.var (yS 700 ms))) (h3: ∀n ks,ms[n]? =some (some ks)->f (700+n)=some (.mp (encM ks))):
 keepO f (inO ((1,vS s)::mobs 18 700 ms)) ((1,vS s)::mobs 18 700 ms):=
 ⟨⟨h1,rfl⟩,⟨h2,wx fun n ks h=>xL (qH h)⟩,wR h3⟩
def rM (i:Nat):Nat:=if i=1000 then 18 else i-301
theorem rM_at (n:Nat):rM (1001+n)=700+n:=by simp only [rM];rw [if_neg (by omega)];omega
theorem mobs_big {ms:List (Option (List Int))}: ∀x∈(mobs 1000 1001 ms).map (·.1),1000<=x:=by
 intro x hx
 rw [mobs,List.map_cons,List.mem_cons] at hx
 rcases hx with hx | hx
 ·omega
 ·obtain ⟨n,_,rfl,_⟩:=jI hx;omega
theorem mobs_nodup {ms:List (Option (List Int))} (h:ms.length<=6):(((mobs 1000 1001 ms).map (·.1)).map rM).Nodup:=by
 rw [mobs,List.map_cons,List.map_cons]
 refine List.nodup_cons.2 ⟨fun hm=>?_,?_⟩
 ·obtain ⟨x,hx,he⟩:=List.mem_map.1 hm
  obtain ⟨n,_,rfl,_⟩:=jI hx
  rw [rM_at] at he
  simp [rM] at he
  omega
 ·have hN: ∀{ms:List (Option (List Int))} {b:Nat},1001<=b->(((y4 b ms).map (·.1)).map rM).Nodup:=by
   intro ms
   induction ms with
   | nil=>intro b _;exact List.Pairwise.nil
   | cons m l ih=>
     intro b hb
     cases m with
     | none=>rw [y4];exact ih (by omega)
     | some ks=>
       rw [y4,List.map_cons,List.map_cons]
       refine List.nodup_cons.2 ⟨fun hm=>?_,ih (by omega)⟩
       obtain ⟨x,hx,he⟩:=List.mem_map.1 hm
       obtain ⟨n,_,rfl,_⟩:=jI hx
       simp only [rM] at he
       rw [if_neg (by omega),if_neg (by omega)] at he
       omega
  exact hN (Nat.le_refl _)
theorem mobs_nodup0 {ms:List (Option (List Int))} (h:ms.length<=6):((mobs 1000 1001 ms).map (·.1)).Nodup:=by
 have:=mobs_nodup h
 generalize (mobs 1000 1001 ms).map (·.1)=l at this
 induction l with
 | nil=>exact List.Pairwise.nil
 | cons x l ih=>
   rw [List.map_cons] at this
   obtain ⟨h1,h2⟩:=List.nodup_cons.1 this
   exact List.nodup_cons.2 ⟨fun hm=>h1 (List.mem_map.2 ⟨x,hm,rfl⟩),ih h2⟩
theorem keep_c {f:Nat->Option Ob} {s:Sch} {ms:List (Option (List Int))} {x:Nat×Ob} (h1:f 1=some (vS s)) (h2:f 18=some (.var (yS 700 ms))) (h3: ∀n ks,ms[n]? =some (some ks)->f (700+n)=some (.mp (encM ks))):
 keepO f (inO (x::(1,vS s)::mobs 18 700 ms)) ((1,vS s)::mobs 18 700 ms):=
 ⟨⟨h1,rfl⟩,⟨h2,wx fun n ks h=>xL (xL (qH h))⟩,wR h3⟩
theorem keep_b {f:Nat->Option Ob} {s:Sch} {ms:List (Option (List Int))} {es:List (Value×Value)} {k:Nat} (h1:f 1=some (vS s)) (h29:f 29=some (.mp es)) (h2:f 18=some (.var ((yS 700 ms).set k (.mp 29)))) (h3: ∀n ks,ms[n]? =some (some ks)->f (700+n)=some (.mp (encM ks))):
 keepO f (inO ((1,vS s)::(29,.mp es)::(18,.var ((yS 700 ms).set k (.mp 29)))::y4 700 ms)) ((1,vS s)::(29,.mp es)::(18,.var ((yS 700 ms).set k (.mp 29)))::y4 700 ms):=
 ⟨⟨h1,rfl⟩,⟨h29,rfl⟩,⟨h2,closedL_set (a:= .mp 29) (by simp only [A.closed];exact xL inO_cons_l) _ _ (wx fun n ks h=>xL (xL (xL (inO_maps 700 h))))⟩,wR h3⟩
def fks (s:Sch) (i:Nat):List Fk:=(s.getD i default).foreigns
def xM (s:Sch) (p:List Int) (i:Nat):Bool:= !p.contains (i:Int)&&(fks s i).all fun f=>p.contains (byT s f.table)
def yC (s:Sch) (p:List Int):Int:=fidx (xM s p) (List.range s.length)
def picks (s:Sch):Nat->List Int
 | 0=>[]
 | n+1=>picks s n++[yC s (picks s n)]
theorem vD (s:Sch): ∀n,(picks s n).length=n
 | 0=>rfl
 | n+1=>by rw [picks,List.length_append,vD s n];rfl
def orderOk (s:Sch):Bool:=(List.range s.length).all fun n=>decide (0<=yC s (picks s n))
def xC (s:Sch):Int:=if orderOk s then 0 else 7
def xt (s:Sch):List Int:=if orderOk s then picks s s.length else []
def msA (s:Sch) (p:List Int):List (Option (List Int)):=(List.range s.length).map fun i:Nat=>if p.contains (i:Int) then none else some ((wo s (fks s i)).filter fun k=> !p.contains k)
theorem yz (s:Sch) (p:List Int):(msA s p).length=s.length:=by simp [msA]
theorem msA_nil (s:Sch):ms1 s s.length=msA s []:=by
 unfold ms1 msA
 apply List.map_congr_left
 intro i hi
 rw [if_pos (by simpa using hi)]
 have:((wo s (fks s i)).filter fun k=> !([]:List Int).contains k)=wo s (fks s i):=List.filter_eq_self.2 fun _ _=>rfl
 rw [if_neg (by simp),this]
 rfl
theorem qP {α β:Type} (p:β->Bool) (g:α->β): ∀l:List α,fidx p (l.map g)=fidx (fun x=>p (g x)) l
 | []=>rfl
 | x::l=>by simp only [List.map_cons,fidx,qP p g l]
theorem qj {α:Type} {p q:α->Bool}: ∀l:List α,(∀x∈l,p x=q x)->fidx p l=fidx q l
 | [],_=>rfl
 | x::l,h=>by simp only [fidx,h x (by simp),qj l fun y hy=>h y (by simp [hy])]
theorem addK_mem (ks:List Int) (k x:Int):x∈addK ks k ↔ x∈ks\/x=k:=by
 unfold addK
 by_cases h:ks.contains k=true
 ·rw [if_pos h]
  have:k∈ks:=by simpa using h
  exact ⟨.inl,fun hx=>hx.elim id fun e=>e ▸ this⟩
 ·rw [if_neg h];simp
theorem addK_nodup {ks:List Int} (h:ks.Nodup) (k:Int):(addK ks k).Nodup:=by
 unfold addK
 by_cases h2:ks.contains k=true
 ·rwa [if_pos h2]
 ·rw [if_neg h2]
  have:k ∉ ks:=by simpa using h2
  exact List.nodup_append.2 ⟨h,List.nodup_cons.2 ⟨by simp,List.Pairwise.nil⟩,fun a ha b hb=>by simp at hb;subst hb;exact fun e=>this (e ▸ ha)⟩
theorem depsTo_mem (s:Sch) (l:List Fk) (x:Int):x∈wo s l ↔ ∃f∈l,byT s f.table=x:=by
 have: ∀(l:List Fk) (acc:List Int),x∈l.foldl (fun acc f=>addK acc (byT s f.table)) acc ↔ x∈acc\/ ∃f∈l,byT s f.table=x:=by
  intro l
  induction l with
  | nil=>intro acc;simp
  | cons f l ih=>intro acc;rw [List.foldl_cons,ih,addK_mem];simp [eq_comm,or_assoc]
 rw [wo,this];simp
theorem depsTo_nodup (s:Sch) (l:List Fk):(wo s l).Nodup:=by
 have: ∀(l:List Fk) (acc:List Int),acc.Nodup->(l.foldl (fun acc f=>addK acc (byT s f.table)) acc).Nodup:=by
  intro l
  induction l with
  | nil=>intro acc h;exact h
  | cons f l ih=>intro acc h;exact ih _ (addK_nodup h _)
 exact this l [] List.Pairwise.nil
theorem pick_msA (s:Sch) (p:List Int):fidx qO (msA s p)=yC s p:=by
 rw [msA,qP,yC]
 refine qj _ fun i _=>?_
 rw [xM]
 by_cases h:p.contains (i:Int)=true
 ·rw [if_pos h,h];rfl
 ·have h2:p.contains (i:Int)=false:=by simpa using h
  rw [if_neg h,h2]
  simp only [qO,Bool.not_false,Bool.true_and]
  rw [Bool.eq_iff_iff]
  simp only [beq_iff_eq,List.length_eq_zero_iff,List.filter_eq_nil_iff,List.all_eq_true,Bool.not_eq_true',Bool.not_eq_false]
  constructor
  ·intro hh f hf;exact hh _ ((depsTo_mem s _ _).2 ⟨f,hf,rfl⟩)
  ·intro hh k hk;obtain ⟨f,hf,rfl⟩:=(depsTo_mem s _ _).1 hk;exact hh f hf
def dropK (k:Int) (m:Option (List Int)):Option (List Int):=m.map (·.erase k)
def msJ (k:Int) (ms:List (Option (List Int))) (j:Nat):List (Option (List Int)):=(ms.take j).map (dropK k)++ms.drop j
theorem msJ_length (k:Int) (ms:List (Option (List Int))) (j:Nat):(msJ k ms j).length=ms.length:=by simp [msJ];omega
theorem msJ_get (k:Int) (ms:List (Option (List Int))) (j:Nat) (h:j<ms.length):(msJ k ms j)[j]? =ms[j]? :=by
 rw [msJ,List.getElem?_append_right (by simp;omega),List.getElem?_drop]
 congr 1
 simp;omega
theorem msJ_succ (k:Int) (ms:List (Option (List Int))) (j:Nat) (m:Option (List Int)) (h:j<ms.length) (hm:ms[j]? =some m):msJ k ms (j+1)=(msJ k ms j).set j (dropK k m):=by
 have hg:ms[j]=m:=by rw [List.getElem?_eq_getElem h] at hm;simpa using hm
 rw [msJ,msJ,List.take_succ_eq_append_getElem h,List.drop_eq_getElem_cons h,hg,List.map_append,List.set_append_right (h:=by simp;omega)]
 have:j-(List.map (dropK k) (List.take j ms)).length=0:=by simp;omega
 rw [this]
 simp
theorem msJ_all (s:Sch) (p:List Int) (k:Int) (h0:0<=k):msJ k ((msA s p).set k.toNat none) s.length=msA s (p++[k]):=by
 have hl:((msA s p).set k.toNat none).length=s.length:=by rw [List.length_set,yz]
 rw [msJ,<-hl,List.take_length,List.drop_length,List.append_nil]
 apply List.ext_getElem?
 intro i
 simp only [List.getElem?_map,List.getElem?_set,yz]
 by_cases hi:i<s.length
 ·have he:k.toNat=i ↔ k=(i:Int):=by omega
  have hg:(msA s p)[i]? =some (if p.contains (i:Int) then none else some ((wo s (fks s i)).filter fun k=> !p.contains k)):=by simp only [msA,List.getElem?_map];rw [List.getElem?_range hi];rfl
  have hg2:(msA s (p++[k]))[i]? =some (if (p++[k]).contains (i:Int) then none else some ((wo s (fks s i)).filter fun x=> !(p++[k]).contains x)):=by simp only [msA,List.getElem?_map];rw [List.getElem?_range hi];rfl
  rw [hg2,hg]
  by_cases hk:k=(i:Int)
  ·have hc:(p++[k]).contains (i:Int)=true:=by simp [hk]
   rw [if_pos (he.2 hk),if_pos (by omega),hc];rfl
  ·have hc:(p++[k]).contains (i:Int)=p.contains (i:Int):=by rw [Bool.eq_iff_iff];simp;exact fun e=>absurd e.symm hk
   rw [if_neg (fun e=>hk (he.1 e)),hc]
   by_cases hp:p.contains (i:Int)=true
   ·rw [if_pos hp,if_pos hp];rfl
   ·rw [if_neg hp,if_neg hp]
    simp only [Option.map_some,dropK]
    rw [List.Nodup.erase_eq_filter ((depsTo_nodup s (fks s i)).filter _),List.filter_filter]
    congr 2
    apply List.filter_congr
    intro x _
    rw [Bool.eq_iff_iff];simp [and_comm]
 ·have e1:(msA s p)[i]? =none:=List.getElem?_eq_none (by rw [yz];omega)
  have e2:(msA s (p++[k]))[i]? =none:=List.getElem?_eq_none (by rw [yz];omega)
  rw [e1,e2]
  split
  ·rw [if_neg (by omega)];rfl
  ·rfl
theorem c_order (s:Sch) (hs:s.length<=6) (hf: ∀t∈s,t.foreigns.length<=1000) (hall: ∀t∈s,∀f∈t.foreigns,0<=byT s f.table):
 ACall Tryz.prog 35 [aS s] [] (.tup [ints (xt s),num (xC s)]) []:=by
 refine zp mixed ttok Tryz.func35 Tryz.ntmps35 Tryz.results35 ?_
 generalize hr:A.tup [ints (xt s),num (xC s)]=R
 simp -implicitDefEqProofs only [argT,↓zb,push_cast,simprocAttr,tte]
 refine ⟨by omega,?_⟩
 refine vh mixed ttok 22 [1,4,20,21] (by simp only [z6,ends,ite_true,ite_false,reduceIte,Nat.reduceEqDiff,Nat.reduceLeDiff,Nat.reduceLT,Nat.reduceAdd,reduceCtorEq,num,boo,str,ints,aV,aTab,zA,aS,aT,aC,zV,zF,aFk,vT,yu];rfl) [] s.length (fun _=>True) (fun _=>[]) (fun n=>(1,vS s)::mobs 18 700 (ms1 s n)) trivial ?_ ?_
 ·refine Weak.keepL (by simp [cst,mobs,ends]) ?_ (by simp [cst,ends])
  simp only [cst,List.append_nil]
  refine keep_a rfl ?_ fun n ks h=>?_
  ·rw [ms1_zero,mapsA_none];rfl
  ·rw [ms1_zero,List.getElem?_replicate] at h;split at h<;>cases h
 intro I hI n hn hi
 simp -implicitDefEqProofs only [cst,mobs,vS,List.append_nil,↓zb,push_cast,simprocAttr,tte]
 refine za (fun h=>?_) fun h=>?_
 ·simp only [decide_eq_true_eq] at h
  have h':n<s.length:=by omega
  refine ⟨(by first | omega | trivial | (refine ⟨?_,?_⟩<;>first | omega | trivial | (refine ⟨?_,?_⟩<;>first | omega | trivial | (refine ⟨?_,?_⟩<;>first | omega | trivial | rfl)))),?_⟩
  refine ⟨⟨by omega,by omega⟩,by rw [xz,xJ];omega,?_⟩
  have hml:n<(yS 700 (ms1 s n)).length:=by rw [xz,xJ];omega
  rw [splice_set _ _ _ hml]
  have hlF:=hf _ (zi h')
  have hallF:=hall _ (zi h')
  generalize hF:(List.getD s n default).foreigns=F at hlF hallF
  refine vh mixed ttok 34 [1,4,5,20,21,22,32,33] (by simp only [z6,ends,ite_true,ite_false,reduceIte,Nat.reduceEqDiff,Nat.reduceLeDiff,Nat.reduceLT,Nat.reduceAdd,reduceCtorEq,num,boo,str,ints,aV,aTab,zA,aS,aT,aC,zV,zF,aFk,vT,yu];rfl) [] F.length (fun _=>True) (fun _=>[])
   (fun k=>(1,vS s)::(29,.mp (encM (wo s (F.take k))))::(18,.var ((yS 700 (ms1 s n)).set n (.mp 29)))::y4 700 (ms1 s n)) trivial ?_ ?_
  ·refine (Weak.mpAny 29 rfl).trans (Weak.keepL (by simp [cst,ends]) ?_ ?_)
   ·simp only [cst,List.append_nil]
    exact keep_b rfl rfl rfl fun i ks hi=>by simp only [ends,ite_true,ite_false,reduceIte,Nat.reduceEqDiff,Nat.reduceLeDiff,Nat.reduceLT,Nat.reduceAdd,reduceCtorEq,num,boo,str,ints,aV,aTab,zA,aS,aT,aC,zV,zF,aFk,vT,yu,vS];rw [if_neg (by omega),if_neg (by omega),if_neg (by omega),if_neg (by omega),if_neg (by omega),if_neg (by omega),if_neg (by omega)];exact yg 700 hi
   ·simp [cst,keepIn,jH (show (ms1 s n).length<=6 by rw [xJ];exact hs)]
  intro J hJ k hk _
  simp -implicitDefEqProofs only [cst,vS,List.append_nil,↓zb,push_cast,simprocAttr,tte]
  refine za (fun g=>?_) fun g=>?_
  ·simp only [decide_eq_true_eq] at g
   have k':k<F.length:=by omega
   have hw:=zj k' (by omega)
   refine ⟨(by first | omega | trivial | (refine ⟨?_,?_⟩<;>first | omega | trivial | (refine ⟨?_,?_⟩<;>first | omega | trivial | (refine ⟨?_,?_⟩<;>first | omega | trivial | rfl)))),?_⟩
   refine zd [[6],[0]] [] (c_find s (F.getD k default).table (by omega)) ?_
   simp -implicitDefEqProofs only [↓zb,push_cast,simprocAttr,tte]
   have hge:=hallF _ (zi k')
   refine za (fun h=>absurd h (by rw [decide_eq_true hge];decide)) fun _=>?_
   refine ⟨⟨by omega,by omega⟩,?_⟩
   rw [List.getElem?_set_self hml]
   simp -implicitDefEqProofs only [if_neg (show¬0>byT s (F.getD k default).table by omega),mput_enc,↓zb,push_cast,simprocAttr,tte]
   refine wp hJ k rfl k' trivial (Weak.keepL (by simp [cst,hw,ends]) ?_ ?_)
   ·simp only [cst,List.append_nil]
    exact keep_b rfl (by rw [depsTo_succ s F k k'];rfl) rfl fun i ks hi=>by simp only [ends,ite_true,ite_false,reduceIte,Nat.reduceEqDiff,Nat.reduceLeDiff,Nat.reduceLT,Nat.reduceAdd,reduceCtorEq,num,boo,str,ints,aV,aTab,zA,aS,aT,aC,zV,zF,aFk,vT,yu,vS];rw [if_neg (by omega),if_neg (by omega),if_neg (by omega),if_neg (by omega),if_neg (by omega),if_neg (by omega)];exact yg 700 hi
   ·simp [cst,keepIn,jH (show (ms1 s n).length<=6 by rw [xJ];exact hs)]
  ·simp only [decide_eq_false_iff_not] at g
   obtain rfl:k=F.length:=by omega
   clear hJ
   have hwn:=zj h' (by omega)
   rw [List.take_length]
   refine wp hI n rfl h' trivial ?_
   refine (Weak.keepL (σ:=⟨[(22,.d (.lit (.int .i64 (n+1:Nat)))),(1,.ptr 1 0),(4,.vs 18 s.length),(20,.d (.sl 6 (ze rT s))),(21,.d (.lit (.int .i64 s.length)))],
    (1,vS s)::(29,.mp (encM (wo s F)))::(18,.var ((yS 700 (ms1 s n)).set n (.mp 29)))::y4 700 (ms1 s n)⟩) (by simp [hwn,ends]) ?_ ?_).trans ?_
   ·exact keep_b rfl rfl rfl fun i ks hi=>by simp only [ends,ite_true,ite_false,reduceIte,Nat.reduceEqDiff,Nat.reduceLeDiff,Nat.reduceLT,Nat.reduceAdd,reduceCtorEq,num,boo,str,ints,aV,aTab,zA,aS,aT,aC,zV,zF,aFk,vT,yu];rw [if_neg (by omega),if_neg (by omega),if_neg (by omega)];exact yg 700 hi
   ·simp [keepIn,jH (show (ms1 s n).length<=6 by rw [xJ];exact hs)]
   refine (Weak.ren 29 (700+n) (by omega) (by omega) ?_).trans ?_
   ·rw [y7 (by omega),y7 (by omega),y7 (by omega),ub,if_pos (by omega),show 700+n-700=n by omega,show (ms1 s n)[n]? =some none by simp [ms1,h']]
   have hrn: ∀i,i<(ms1 s n).length->zZ 29 (700+n) (700+i)=700+i:=fun i _=>by simp only [zZ];rw [if_neg (by omega)]
   have hset:(yS 700 (ms1 s n)).set n (.mp (700+n))=yS 700 (ms1 s (n+1)):=by
    rw [<-ms1_succ s n h',<-mapsA_set];rfl
   simp only [renT,renO,A.ren,Ob.ren,renL_set,renL_maps hrn,renO_maps (show 29<700 by omega),hF,vS,renL]
   have e1:zZ 29 (700+n) 29=700+n:=by simp [zZ]
   have e2:zZ 29 (700+n) 1=1:=by simp [zZ]
   have e3:zZ 29 (700+n) 18=18:=by simp [zZ]
   rw [e1,e2,e3,hset]
   refine Weak.keepL (by simp [cst,mobs,ends]) ?_ ?_
   ·simp only [cst,List.append_nil]
    refine keep_a rfl (by simp only [ends,ite_true,ite_false,reduceIte,Nat.reduceEqDiff,Nat.reduceLeDiff,Nat.reduceLT,Nat.reduceAdd,reduceCtorEq,num,boo,str,ints,aV,aTab,zA,aS,aT,aC,zV,zF,aFk,vT,yu];rw [if_neg (by omega)]) fun i ks hi=>?_
    rw [<-ms1_succ s n h',List.getElem?_set] at hi
    simp only [ends,ite_true,ite_false,reduceIte,Nat.reduceEqDiff,Nat.reduceLeDiff,Nat.reduceLT,Nat.reduceAdd,reduceCtorEq,num,boo,str,ints,aV,aTab,zA,aS,aT,aC,zV,zF,aFk,vT,yu]
    rw [if_neg (by omega)]
    by_cases hin:n=i
    ·subst hin
     rw [if_pos rfl,xJ,if_pos h',hF] at hi
     rw [if_pos rfl]
     simp only [Option.some.injEq] at hi
     rw [hi]
    ·rw [if_neg hin] at hi
     rw [if_neg (by omega),if_neg (by omega)]
     exact yg 700 hi
   ·refine ⟨.inl (by omega),.inl (by omega),.inl (by omega),jH (by rw [xJ];exact hs)⟩
 simp only [decide_eq_false_iff_not] at h
 obtain rfl:n=s.length:=by omega
 clear hI hi hn h I
 rw [msA_nil]
 refine vh mixed ttok 57 [1,4,55,56] (by simp only [z6,ends,ite_true,ite_false,reduceIte,Nat.reduceEqDiff,Nat.reduceLeDiff,Nat.reduceLT,Nat.reduceAdd,reduceCtorEq,num,boo,str,ints,aV,aTab,zA,aS,aT,aC,zV,zF,aFk,vT,yu];rfl) [] s.length (fun n=> ∀i,i<n->0<=yC s (picks s i)) (fun n=>[(11,.vec 500 n)])
  (fun n=>(500,.vec 3 1 (ze rI (picks s n)) 0)::(1,vS s)::mobs 18 700 (msA s (picks s n))) (fun i h=>absurd h (Nat.not_lt_zero _)) ?_ ?_
 ·refine (Weak.nilL 11 500 3 1 rfl (by simp [lookO,yu])).trans (Weak.keepL (by simp [cst,mobs,ends]) ?_ ?_)
  ·simp only [cst,List.append_nil]
   refine ⟨⟨rfl,rfl⟩,keep_c rfl rfl fun i ks hi=>?_⟩
   simp only [ends,ite_true,ite_false,reduceIte,Nat.reduceEqDiff,Nat.reduceLeDiff,Nat.reduceLT,Nat.reduceAdd,reduceCtorEq,num,boo,str,ints,aV,aTab,zA,aS,aT,aC,zV,zF,aFk,vT,yu]
   rw [if_neg (by omega),if_neg (by omega),if_neg (by omega)]
   exact yg 700 hi
  ·simp [cst,keepIn,jH (show (msA s []).length<=6 by rw [yz];exact hs)]
 intro I hI n hn hi
 have hpl:=vD s n
 simp -implicitDefEqProofs only [cst,mobs,vS,List.append_nil,List.cons_append,List.nil_append,↓zb,push_cast,simprocAttr,tte]
 refine za (fun h=>?_) fun h=>?_
 ·simp only [decide_eq_true_eq] at h
  have h':n<s.length:=by omega
  refine callx_same [[],[]] rM rfl (c_idxM (msA s (picks s n)) (by rw [yz];exact hs)) rfl (by simp) (by simp only [yz];rfl) rfl ?_ ?_ ?_ ?_ ?_
  ·refine ⟨⟨?_,wx fun i ks hi=>qH hi⟩,hosL_maps fun i ks hi=>?_⟩
   ·simp only [Ob.ren]
    rw [renL_maps (b':=700) fun i _=>rM_at i]
    rfl
   ·rw [rM_at,y7 (by omega),y7 (by omega),y7 (by omega)];exact yg 700 hi
  ·exact mobs_big
  ·exact mobs_nodup (by rw [yz];exact hs)
  ·exact mobs_nodup0 (by rw [yz];exact hs)
  rw [pick_msA]
  simp -implicitDefEqProofs only [↓zb,push_cast,simprocAttr,tte]
  have hM6:(msA s (picks s n)).length<=6:=by rw [yz];exact hs
  refine za (fun hneg=>?_) fun hneg=>?_
  ·have hneg': ¬0<=yC s (picks s n):=by have:=of_decide_eq_true hneg;omega
   have hno:orderOk s=false:=xY h' (decide_eq_false hneg')
   have hR:A.tup [ints [],num 7]=R:=by rw [<-hr,xt,xC,hno];rfl
   subst hR
   refine zm [[1],[0]] rfl trivial ⟨trivial,trivial,trivial⟩ rfl rfl trivial ?_
   exact ⟨.inl (by omega),.inl (by omega),.inl (by omega),jH hM6⟩
  have hge:0<=yC s (picks s n):=by have:=of_decide_eq_false hneg;omega
  have hlt:yC s (picks s n)<s.length:=by have:=wg (xM s (picks s n)) (List.range s.length);rw [List.length_range] at this;exact this
  have hinv: ∀i,i<n+1->0<=yC s (picks s i):=fun i h2=>if h3:i=n then by rw [h3];exact hge else hi i (by omega)
  have hpk:picks s (n+1)=picks s n++[yC s (picks s n)]:=rfl
  refine ⟨⟨hpl.symm,by omega⟩,⟨hge,hlt⟩,by rw [xz,yz];omega,?_⟩
  have hfin:=msJ_all s (picks s n) (yC s (picks s n)) hge
  rw [splice_set _ _ _ (by rw [xz,yz];omega),show A.d (D.lit (Value.map none))=kO (700+(yC s (picks s n)).toNat) none from rfl,mapsA_set]
  have hq: ∀(i:Nat) (ks:List Int),((msA s (picks s n)).set (yC s (picks s n)).toNat none)[i]? =some (some ks)->(msA s (picks s n))[i]? =some (some ks):=by
   intro i ks hq
   rw [List.getElem?_set] at hq
   split at hq
   ·split at hq<;>cases hq
   ·exact hq
  have hQ6:((msA s (picks s n)).set (yC s (picks s n)).toNat none).length=s.length:=by rw [List.length_set,yz]
  rw [<-hpk] at hfin
  generalize hms:msA s (picks s n)=ms at hq hM6
  rw [hms] at hQ6 hfin
  generalize hQ:ms.set (yC s (picks s n)).toNat none=Q at hq hQ6 hfin
  generalize hk:yC s (picks s n)=k at hge hlt
  rw [hk] at hpk hfin hQ
  refine vh mixed ttok 72 [1,4,11,12,55,56,57,70,71] (by simp only [z6,ends,ite_true,ite_false,reduceIte,Nat.reduceEqDiff,Nat.reduceLeDiff,Nat.reduceLT,Nat.reduceAdd,reduceCtorEq,num,boo,str,ints,aV,aTab,zA,aS,aT,aC,zV,zF,aFk,vT,yu];rfl) [] s.length (fun _=>True) (fun _=>[])
   (fun j=>(500,.vec 3 1 (ze rI (picks s (n+1))) 0)::(1,vS s)::mobs 18 700 (msJ k Q j)) trivial ?_ ?_
  ·refine Weak.keepL (by simp [cst,mobs,ends]) ?_ ?_
   ·simp only [cst,List.append_nil]
    refine ⟨⟨by rw [hpk,<-rowsI_snoc];rfl,rfl⟩,keep_c rfl rfl fun i ks hi=>?_⟩
    simp only [ends,ite_true,ite_false,reduceIte,Nat.reduceEqDiff,Nat.reduceLeDiff,Nat.reduceLT,Nat.reduceAdd,reduceCtorEq,num,boo,str,ints,aV,aTab,zA,aS,aT,aC,zV,zF,aFk,vT,yu]
    repeat rw [if_neg (by omega)]
    exact yg 700 (hq i ks hi)
   ·simp [cst,keepIn,jH hM6]
  intro J hJ j hj _
  simp -implicitDefEqProofs only [cst,mobs,vS,List.append_nil,List.cons_append,List.nil_append,↓zb,push_cast,simprocAttr,tte]
  have hw1:=fun (j':j<s.length)=>zj j' (by omega)
  refine za (fun g=>?_) fun g=>?_
  ·simp only [decide_eq_true_eq] at g
   have j':j<s.length:=by omega
   have hw:=zj j' (by omega)
   refine ⟨(by first | omega | trivial | (refine ⟨?_,?_⟩<;>first | omega | trivial | (refine ⟨?_,?_⟩<;>first | omega | trivial | (refine ⟨?_,?_⟩<;>first | omega | trivial | rfl)))),?_⟩
   have hQj:Q[j]? =some (Q.getD j default):=by rw [List.getD_eq_getElem?_getD,List.getElem?_eq_getElem (by omega)];rfl
   generalize hm:Q.getD j default=m at hQj
   have hJs:=msJ_succ k Q j m (by omega) hQj
   have hJj:(msJ k Q j)[j]? =some m:=by rw [msJ_get k Q j (by omega)];exact hQj
   have hJl:=msJ_length k Q j
   have hJ6:(msJ k Q j).length<=6:=by omega
   have hset:yS 700 (msJ k Q (j+1))=yS 700 (msJ k Q j):=by
    rw [hJs,<-mapsA_set]
    apply List.ext_getElem?
    intro i
    rw [List.getElem?_set,xz]
    split
    ·rename_i he
     subst he
     rw [if_pos (by omega),vN,hJj]
     cases m<;>rfl
    ·rfl
   have hoth: ∀i ks,i≠j->(msJ k Q (j+1))[i]? =some (some ks)->(msJ k Q j)[i]? =some (some ks):=fun i ks hij hi=>by
    rw [hJs,List.getElem?_set,if_neg (fun e=>hij e.symm)] at hi;exact hi
   have hown:(msJ k Q (j+1))[j]? =some (dropK k m):=by rw [hJs,List.getElem?_set,if_pos rfl,if_pos (by omega)]
   rw [vN,hJj]
   cases m with
   | none=>
     simp -implicitDefEqProofs only [kO,Option.map_some,↓zb,push_cast,simprocAttr,tte]
     refine wp hJ j rfl j' trivial (Weak.keepL (by simp [cst,mobs,hw,ends]) ?_ ?_)
     ·simp only [cst,List.append_nil]
      refine ⟨⟨rfl,rfl⟩,keep_c rfl (by rw [hset];rfl) fun i ks hi=>?_⟩
      simp only [ends,ite_true,ite_false,reduceIte,Nat.reduceEqDiff,Nat.reduceLeDiff,Nat.reduceLT,Nat.reduceAdd,reduceCtorEq,num,boo,str,ints,aV,aTab,zA,aS,aT,aC,zV,zF,aFk,vT,yu]
      repeat rw [if_neg (by omega)]
      by_cases hij:i=j
      ·subst hij;rw [hown] at hi;cases hi
      ·exact yg 700 (hoth i ks hij hi)
     ·simp [cst,keepIn,jH hJ6]
   | some ks0=>
     have n500:(500=700+j)=False:=eq_false (by omega)
     have n1:(1=700+j)=False:=eq_false (by omega)
     have n18:(18=700+j)=False:=eq_false (by omega)
     simp -implicitDefEqProofs only [kO,Option.map_some,yg 700 hJj,n500,n1,n18,mdel_enc,↓zb,push_cast,simprocAttr,tte]
     refine wp hJ j rfl j' trivial (Weak.keepL (by simp [cst,mobs,hw,ends]) ?_ ?_)
     ·simp only [cst,List.append_nil]
      refine ⟨⟨by rw [y7 (by omega)];rfl,rfl⟩,keep_c (by rw [y7 (by omega)];rfl) (by rw [hset,y7 (by omega)];rfl) fun i ks hi=>?_⟩
      by_cases hij:i=j
      ·subst hij
       rw [hown] at hi
       simp only [dropK,Option.map_some,Option.some.injEq] at hi
       subst hi
       simp [lookO]
      ·simp only [ends,ite_true,ite_false,reduceIte,Nat.reduceEqDiff,Nat.reduceLeDiff,Nat.reduceLT,Nat.reduceAdd,reduceCtorEq,num,boo,str,ints,aV,aTab,zA,aS,aT,aC,zV,zF,aFk,vT,yu]
       repeat rw [if_neg (by omega)]
       exact yg 700 (hoth i ks hij hi)
     ·exact ⟨.inl (by omega),.inl (by omega),.inl (by omega),.inl (by omega),jH hJ6⟩
  ·simp only [decide_eq_false_iff_not] at g
   obtain rfl:j=s.length:=by omega
   rw [hfin]
   clear hJ J
   have hwn:=zj h' (by omega)
   refine wp hI n rfl h' hinv (Weak.keepL (by simp [cst,mobs,hwn,hpl,ends]) ?_ ?_)
   ·simp only [cst,List.append_nil]
    refine ⟨⟨rfl,rfl⟩,keep_c rfl rfl fun i ks hi=>?_⟩
    simp only [ends,ite_true,ite_false,reduceIte,Nat.reduceEqDiff,Nat.reduceLeDiff,Nat.reduceLT,Nat.reduceAdd,reduceCtorEq,num,boo,str,ints,aV,aTab,zA,aS,aT,aC,zV,zF,aFk,vT,yu]
    repeat rw [if_neg (by omega)]
    exact yg 700 hi
   ·exact ⟨.inl (by omega),.inl (by omega),.inl (by omega),jH (by rw [yz];exact hs)⟩
 ·simp only [decide_eq_false_iff_not] at h
  obtain rfl:n=s.length:=by omega
  have hok:orderOk s=true:=all_range.2 fun i hi2=>decide_eq_true (hi i hi2)
  have hR:A.tup [ints (picks s s.length),num 0]=R:=by rw [<-hr,xt,xC,hok];rfl
  subst hR
  refine zm [[1],[0]] rfl trivial ⟨(zc rI (picks s s.length)).trans hpl |>.symm,trivial,trivial⟩ rfl rfl trivial ?_
  exact ⟨.inl (by omega),.inl (by omega),.inl (by omega),.inl (by omega),jH (by rw [yz];exact hs)⟩
end
section
open Go.Am
attribute [local simp, local push_cast] num boo str ints aV aTab zA aS aT aC zV zF aFk vT
def tabErr (s:Sch) (i:Nat):Int:=
 if !w8 (s.getD i default).name then 3 else if wI (byT s (s.getD i default).name)<i then 5 else yE (s.getD i default)
def refErr (s:Sch) (t:Tbl):Int:=ferr (refM s t) t.foreigns
def yq (s:Sch):Int:=
 if (s.length:Int)>6 then 8
 else if vj (tabErr s) s.length≠0 then vj (tabErr s) s.length
 else if ferr (refErr s) s≠0 then ferr (refErr s) s else xC s
structure SmallS (s:Sch):Prop where
 len:s.length<=1000
 tab: ∀t∈s,SmallT t
theorem j6 {t:Tbl} (h:yE t=0):xe t=0:=by
 by_cases hk:xe t=0
 ·exact hk
 ·exfalso
  revert h
  simp only [yE]
  repeat' split
  all_goals first | (intro h;omega) | (intro h;exact absurd h (by assumption))
theorem keysM_ok {t:Tbl} (h:xe t=0):yD t.columns.length t.primary=true/\t.primary.any (vw t)=false/\(yn t).all (yD t.columns.length)=true:=by
 unfold xe at h
 split at h
 ·rename_i h1
  split at h
  ·cases h
  ·rename_i h2
   split at h
   ·rename_i h3;exact ⟨h1,by simpa using h2,h3⟩
   ·cases h
 ·cases h
theorem kR {t:Tbl} (h:yE t=0): ∀k∈t.primary,inC t k:=jC (keysM_ok (j6 h)).1
theorem kS {t:Tbl} (h:yE t=0): ∀f∈t.foreigns,∀k∈f.columns,inC t k:=fun f hf=>
 jC (List.all_eq_true.1 (keysM_ok (j6 h)).2.2 f.columns (by simp only [yn,List.mem_append,List.mem_map];exact .inr ⟨f,hf,rfl⟩))
theorem uY {s:Sch} {i:Nat} (h:tabErr s i=0):yE (s.getD i default)=0:=by
 unfold tabErr at h
 split at h
 ·cases h
 ·split at h
  ·cases h
  ·exact h
theorem xW {α:Type} {f:α->Int}: ∀{l:List α},ferr f l=0-> ∀x∈l,f x=0
 | [],_,x,hx=>by simp at hx
 | y::l,h,x,hx=>by
   simp only [ferr] at h
   split at h
   ·rename_i h0
    rcases List.mem_cons.1 hx with rfl | hx
    ·exact h0
    ·exact xW h x hx
   ·rename_i h0;exact absurd h h0
theorem refM_at {s:Sch} {t:Tbl} {f:Fk} (h:refM s t f=0):0<=byT s f.table:=by
 unfold refM at h
 split at h
 ·cases h
 ·omega
theorem vf {α:Type} [Inhabited α] {l:List α} {x:α} (h:x∈l): ∃i,i<l.length/\l.getD i default=x:=by
 obtain ⟨i,hi,rfl⟩:=List.getElem_of_mem h
 exact ⟨i,hi,by rw [List.getD_eq_getElem?_getD,List.getElem?_eq_getElem hi];rfl⟩
theorem c_svalid (s:Sch) (hs:SmallS s):ACall Tryz.prog 33 [aS s] [] (num (yq s)) []:=by
 refine zp mixed ttok Tryz.func33 Tryz.ntmps33 Tryz.results33 ?_
 generalize hr:num (yq s)=R
 have hl:=hs.len
 simp -implicitDefEqProofs only [argT,↓zb,push_cast,simprocAttr,tte]
 refine za (fun h0=>?_) fun h0=>?_
 ·exact zk trivial (by rw [<-hr,yq,if_pos (of_decide_eq_true h0)];rfl) (by simp [ends])
 have h0': ¬(s.length:Int)>6:=of_decide_eq_false h0
 have hM:yq s=if vj (tabErr s) s.length≠0 then vj (tabErr s) s.length
  else if ferr (refErr s) s≠0 then ferr (refErr s) s else xC s:=by rw [yq,if_neg h0']
 refine zn mixed ttok 22 [1,20,21] [1] (by simp only [z6,ends,push_cast,simprocAttr];rfl) (by simp only [zB,zo,ends,push_cast,simprocAttr];rfl) s.length (fun n=> ∀i,i<n->tabErr s i=0) (fun _=>[]) (fun _=>[]) (fun i h=>absurd h (Nat.not_lt_zero _)) ?_ ?_
 ·exact Weak.keepL (by simp [cst,ends]) (by simp [cst,ends]) (by simp [cst,ends])
 intro I hI n hn hi
 simp -implicitDefEqProofs only [cst,↓zb,push_cast,simprocAttr,tte]
 refine za (fun h=>?_) fun h=>?_
 ·simp only [decide_eq_true_eq] at h
  have h':n<s.length:=by omega
  have hw:=zj h' (by omega)
  have hE:tabErr s n≠0->num (tabErr s n)=R:=fun hne=>by
   have:=qQ h' hi hne
   rw [<-hr,hM,this,if_pos hne]
  have hg:s.getD n default∈s:=zi h'
  refine ⟨(by first | omega | trivial | (refine ⟨?_,?_⟩<;>first | omega | trivial | (refine ⟨?_,?_⟩<;>first | omega | trivial | (refine ⟨?_,?_⟩<;>first | omega | trivial | rfl)))),?_⟩
  refine zd [[0]] [] (c_name (s.getD n default).name) ?_
  simp -implicitDefEqProofs only [↓zb,push_cast,simprocAttr,tte]
  refine za (fun g1=>?_) fun g1=>?_
  ·have hc:tabErr s n=3:=if_pos g1
   exact zk trivial (by rw [<-hE (by rw [hc];decide),hc];rfl) (by simp [ends])
  refine zd [[6],[0]] [] (c_find s (s.getD n default).name (by omega)) ?_
  simp -implicitDefEqProofs only [↓zb,push_cast,simprocAttr,tte]
  refine za (fun g2=>?_) fun g2=>?_
  ·have hc:tabErr s n=5:=by rw [tabErr,if_neg (by rw [g1];decide)];exact if_pos (of_decide_eq_true g2)
   exact zk trivial (by rw [<-hE (by rw [hc];decide),hc];rfl) (by simp [ends])
  have hcB:tabErr s n=yE (s.getD n default):=by rw [tabErr,if_neg (by rw [g1];decide)];exact if_neg (of_decide_eq_false g2)
  refine zd [[0,3,1,1,2,6]] [] (c_table (s.getD n default) (hs.tab _ hg)) ?_
  simp -implicitDefEqProofs only [↓zb,push_cast,simprocAttr,tte]
  refine za (fun g3=>?_) fun g3=>?_
  ·have g3':tabErr s n≠0:=by rw [hcB];simpa using g3
   exact zk trivial (by rw [<-hE g3',hcB];rfl) (by simp [ends])
  ·have g3':tabErr s n=0:=by rw [hcB];simpa using g3
   exact zl hI n rfl h' (fun i h2=>if h3:i=n then by rw [h3];exact g3' else hi i (by omega)) (by simp [hw,ends]) (by simp [hw,ends]) (by simp [hw,ends]) (by simp [hw,ends])
 simp only [decide_eq_false_iff_not] at h
 obtain rfl:n=s.length:=by omega
 have hM2:yq s=if ferr (refErr s) s≠0 then ferr (refErr s) s else xC s:=by rw [hM,wS hi,if_neg (by decide)]
 have htab: ∀t∈s,yE t=0:=fun t ht=>by
  obtain ⟨i,h1,h2⟩:=vf ht
  rw [<-h2];exact uY (hi i h1)
 clear hI hM h hi hn I
 refine zn mixed ttok 50 [1,48,49] [1] (by simp only [z6,ends,push_cast,simprocAttr];rfl) (by simp only [zB,zo,ends,push_cast,simprocAttr];rfl) s.length (fun n=> ∀i,i<n->refErr s (s.getD i default)=0) (fun _=>[]) (fun _=>[]) (fun i h=>absurd h (Nat.not_lt_zero _)) ?_ ?_
 ·exact Weak.keepL (by simp [cst,ends]) (by simp [cst,ends]) (by simp [cst,ends])
 intro I hI n hn hi
 simp -implicitDefEqProofs only [cst,↓zb,push_cast,simprocAttr,tte]
 refine za (fun h=>?_) fun h=>?_
 ·simp only [decide_eq_true_eq] at h
  have h':n<s.length:=by omega
  have hw:=zj h' (by omega)
  have hg:s.getD n default∈s:=zi h'
  have hE:refErr s (s.getD n default)≠0->num (refErr s (s.getD n default))=R:=fun hne=>by
   have:=x5 (refErr s) s n h' hi hne
   rw [<-hr,hM2,this,if_pos hne]
  refine ⟨(by first | omega | trivial | (refine ⟨?_,?_⟩<;>first | omega | trivial | (refine ⟨?_,?_⟩<;>first | omega | trivial | (refine ⟨?_,?_⟩<;>first | omega | trivial | rfl)))),?_⟩
  generalize hu:s.getD n default=u at hg hE
  have hT:=hs.tab u hg
  have hTf:=hT.fors
  refine zn mixed ttok 57 [1,9,48,49,50,55,56] [1,9] (by simp only [z6,ends,push_cast,simprocAttr];rfl) (by simp only [zB,zo,ends,push_cast,simprocAttr];rfl) u.foreigns.length (fun k=> ∀i,i<k->refM s u (u.foreigns.getD i default)=0) (fun _=>[]) (fun _=>[]) (fun i h=>absurd h (Nat.not_lt_zero _)) ?_ ?_
  ·exact Weak.keepL (by simp [cst,ends]) (by simp [cst,ends]) (by simp [cst,ends])
  intro J hJ k hk hki
  simp -implicitDefEqProofs only [cst,↓zb,push_cast,simprocAttr,tte]
  refine za (fun g=>?_) fun g=>?_
  ·simp only [decide_eq_true_eq] at g
   have k':k<u.foreigns.length:=by omega
   have hwk:=zj k' (by omega)
   have hfm:u.foreigns.getD k default∈u.foreigns:=zi k'
   refine ⟨(by first | omega | trivial | (refine ⟨?_,?_⟩<;>first | omega | trivial | (refine ⟨?_,?_⟩<;>first | omega | trivial | (refine ⟨?_,?_⟩<;>first | omega | trivial | rfl)))),?_⟩
   refine zd [[6],[0,3,1,1,2,6],[1,0]] [] (c_reference s u (u.foreigns.getD k default) hl (hT.forss _ hfm) (kS (htab u hg) _ hfm) (fun v hv=>kR (htab v hv))) ?_
   simp -implicitDefEqProofs only [↓zb,push_cast,simprocAttr,tte]
   refine za (fun g3=>?_) fun g3=>?_
   ·have g3':refM s u (u.foreigns.getD k default)≠0:=by simpa using g3
    have hc:refErr s u=refM s u (u.foreigns.getD k default):=x5 (refM s u) u.foreigns k k' hki g3'
    exact zk trivial (by rw [<-hE (by rw [hc];exact g3'),hc];rfl) (by simp [ends])
   ·have g3':refM s u (u.foreigns.getD k default)=0:=by simpa using g3
    exact zl hJ k rfl k' (fun i h2=>if h3:i=k then by rw [h3];exact g3' else hki i (by omega)) (by simp [hwk,ends]) (by simp [hwk,ends]) (by simp [hwk,ends]) (by simp [hwk,ends])
  ·simp only [decide_eq_false_iff_not] at g
   obtain rfl:k=u.foreigns.length:=by omega
   have hz:refErr s u=0:=yt (refM s u) u.foreigns hki
   exact zl hI n rfl h' (fun i h2=>if h3:i=n then by rw [h3,hu];exact hz else hi i (by omega)) (by simp [hw,ends]) (by simp [hw,ends]) (by simp [hw,ends]) (by simp [hw,ends])
 simp only [decide_eq_false_iff_not] at h
 obtain rfl:n=s.length:=by omega
 clear hI
 have hz:ferr (refErr s) s=0:=yt (refErr s) s hi
 have hall: ∀t∈s,∀f∈t.foreigns,0<=byT s f.table:=fun t ht f hf=>refM_at (xW (xW hz t ht) f hf)
 refine zd [[6]] [] (c_order s (by omega) (fun t ht=>(hs.tab t ht).fors) hall) ?_
 simp -implicitDefEqProofs only [↓zb,push_cast,simprocAttr,tte]
 exact zk trivial (by rw [<-hr,hM2,if_neg (by rw [hz];decide)];rfl) (by simp [ends])
end
section
open Go.Am
attribute [local simp, local push_cast] num boo str ints aV aTab zA aS aT aC zV zF aFk vT rTab rRow
def badV (c:Col) (v:Val):Bool:= !zy v || ((v.kind !=0)&&(v.kind !=c.type))
def rowErr (t:Tbl) (r:Row):Int:=if (r.length:Int)≠t.columns.length then 9 else if (List.range r.length).all (fun j=> !badV (t.columns.getD j default) (r.getD j default)) then 0 else 4
def tabF (t:Tbl) (l:Tab2):Int:=if (l.length:Int)>200 then 8 else ferr (rowErr t) l
structure SmallI (i:Inst):Prop where
 len:i.length<=1000
 tab: ∀l∈i,l.length<=1000
 row: ∀l∈i,∀r∈l,r.length<=1000
end
section
open Go.Am
attribute [local simp, local push_cast] num boo str ints aV aTab zA aS aT aC zV zF aFk vT
theorem uV (l:List Int) (v:Int) (hl:l.length<=1000000000):ACall Tryz.prog 148 [ints l,num v] [] (boo (l.all fun x=>x==v)) []:=by
 refine zp mixed ttok Tryz.func148 Tryz.ntmps148 Tryz.results148 ?_
 generalize hr:boo (l.all fun x=>x==v)=R
 simp -implicitDefEqProofs only [argT,↓zb,push_cast,simprocAttr,tte]
 refine zn mixed ttok 5 [0,1] [] (by simp only [z6,ends,push_cast,simprocAttr];rfl) (by simp only [zB,zo,ends,push_cast,simprocAttr];rfl) l.length (fun n=> ∀i,i<n->(l.getD i default==v)=true) (fun _=>[]) (fun _=>[]) (fun i h=>absurd h (Nat.not_lt_zero _)) ?_ ?_
 ·exact Weak.keepL (by simp [cst,ends]) (by simp [cst,ends]) (by simp [cst,ends])
 intro I hI n hn hi
 simp -implicitDefEqProofs only [cst,↓zb,push_cast,simprocAttr,tte]
 refine za (fun h=>?_) fun h=>?_
 ·simp only [decide_eq_true_eq] at h
  have h':n<l.length:=by omega
  have hw:=zj h' (by omega)
  refine ⟨(by first | omega | trivial | (refine ⟨?_,?_⟩<;>first | omega | trivial | (refine ⟨?_,?_⟩<;>first | omega | trivial | (refine ⟨?_,?_⟩<;>first | omega | trivial | rfl)))),?_⟩
  refine za (fun g=>?_) fun g=>?_
  ·have:(l.all fun x=>x==v)=false:=by
    rw [List.all_eq_false];exact ⟨_,zi h',by simpa using g⟩
   exact zk trivial (by rw [<-hr,this];rfl) (by simp [ends])
  ·have g':(l.getD n default==v)=true:=by simpa using g
   exact zl hI n rfl h' (fun i h2=>if h3:i=n then by rw [h3];exact g' else hi i (by omega)) (by simp [hw,ends]) (by simp [hw,ends]) (by simp [hw,ends]) (by simp [hw,ends])
 ·simp only [decide_eq_false_iff_not] at h
  obtain rfl:n=l.length:=by omega
  have:(l.all fun x=>x==v)=true:=by
   rw [List.all_eq_true];intro x hx
   obtain ⟨i,h1,rfl⟩:=vf hx
   exact hi i h1
  exact zk trivial (by rw [<-hr,this];rfl) (by simp [ends])
def yj (op n:Int):Bool:=
 if op<=5 then n==0 else if (((op==11 || op==13) || op==21) || op==24) || op==25 then n==1
 else if op==26 then n==3 else if op==28 then decide (n≥2) else n==2
theorem c_rkids (op n:Int):ACall Tryz.prog 105 [num op,num n] [] (boo (yj op n)) []:=by
 refine zp mixed ttok Tryz.func105 Tryz.ntmps105 Tryz.results105 ?_
 generalize hr:boo (yj op n)=R
 simp -implicitDefEqProofs only [argT,↓zb,push_cast,simprocAttr,tte]
 refine za (fun h1=>?_) fun h1=>?_
 ·exact zk trivial (by rw [<-hr,yj,if_pos (of_decide_eq_true h1)];rfl) (by simp [ends])
 have hk:yj op n=if (((op==11 || op==13) || op==21) || op==24) || op==25 then n==1 else if op==26 then n==3 else if op==28 then decide (n≥2) else n==2:=if_neg (of_decide_eq_false h1)
 repeat' first
  | exact zk trivial (by rw [<-hr,hk];simp only [*,Bool.true_or,Bool.or_true,Bool.or_false,Bool.false_or,Bool.false_eq_true,if_true,if_false,boo]) (by simp [ends])
  | (refine za (fun _=>?_) fun _=>?_)
theorem op_cases {op:Int} (h:isOp op=true): ∃n:Nat,n<29/\1<=n/\op=n:=by
 simp only [isOp,Bool.and_eq_true,decide_eq_true_eq] at h
 exact ⟨op.toNat,by omega,by omega,by omega⟩
set_option synthInstance.maxSize 4000 in
set_option synthInstance.maxHeartbeats 400000 in
theorem kids_tab0: ∀n∈List.range 29,n=0\/(n=1\/n=2\/n=3\/n=4\/n=5)/\(opTab.getD n default).kids=0\/(n=11\/n=13\/n=21\/n=24\/n=25)/\(opTab.getD n default).kids=1\/
 n=26/\(opTab.getD n default).kids=3\/n=28/\(opTab.getD n default).kids=2\/
 (n=6\/n=7\/n=8\/n=9\/n=10\/n=12\/n=14\/n=15\/n=16\/n=17\/n=18\/n=19\/n=20\/n=22\/n=23\/n=27)/\(opTab.getD n default).kids=2:=by decide
theorem kids_tab (n:Nat) (h1:n<29) (h2:1<=n):(((n:Int)<=5 ↔ (opTab.getD n default).kids=0)/\(((((n:Int)=11\/(n:Int)=13)\/(n:Int)=21)\/(n:Int)=24)\/(n:Int)=25 ↔ (opTab.getD n default).kids=1)/\
 ((n:Int)=26 ↔ (opTab.getD n default).kids=3)/\((opTab.getD n default).kids=0\/(opTab.getD n default).kids=1\/(opTab.getD n default).kids=2\/(opTab.getD n default).kids=3)/\
 ((n:Int)=28->(opTab.getD n default).kids=2)):=by
 have:=kids_tab0 n (by simpa using h1)
 generalize (opTab.getD n default).kids=k at this
 omega
theorem jo {e:Ex} (h:isOp e.op=true):yj e.op e.kids.length=yw e:=by
 obtain ⟨n,h1,h2,h3⟩:=op_cases h
 have hf:(yo e.op).kids=(opTab.getD n default).kids:=by rw [yo,h,if_pos rfl,opAt,h3,Int.toNat_natCast]
 obtain ⟨a1,a2,a3,a4,a5⟩:=kids_tab n h1 h2
 rw [yw,h,hf,Bool.true_and,yj,h3]
 generalize (opTab.getD n default).kids=k at a1 a2 a3 a4 a5
 generalize e.kids.length=m
 rw [Bool.eq_iff_iff]
 simp only [Bool.or_eq_true,Bool.and_eq_true,beq_iff_eq,decide_eq_true_eq]
 by_cases b1:(n:Int)<=5
 ·rw [if_pos b1];simp only [beq_iff_eq];have:=a1.1 b1;omega
 ·rw [if_neg b1]
  by_cases b2:((((n:Int)=11\/(n:Int)=13)\/(n:Int)=21)\/(n:Int)=24)\/(n:Int)=25
  ·rw [if_pos b2];simp only [beq_iff_eq];have:=a2.1 b2;omega
  ·rw [if_neg b2]
   by_cases b3:(n:Int)=26
   ·rw [if_pos b3];simp only [beq_iff_eq];have:=a3.1 b3;omega
   ·rw [if_neg b3]
    have c1: ¬k=0:=fun e=>b1 (a1.2 e)
    have c2: ¬k=1:=fun e=>b2 (a2.2 e)
    have c3: ¬k=3:=fun e=>b3 (a3.2 e)
    by_cases b4:(n:Int)=28
    ·rw [if_pos b4];simp only [decide_eq_true_eq];have:=a5 b4;omega
    ·rw [if_neg b4];simp only [beq_iff_eq];omega
end
section
open Go.Am
attribute [local simp, local push_cast] num boo str ints aV aTab zA aS aT aC zV zF aFk vT
theorem c_plain (e:Ex):ACall Tryz.prog 104 [aE e] [] (boo (isOp e.op&&zS e)) []:=by
 refine zp mixed ttok Tryz.func104 Tryz.ntmps104 Tryz.results104 ?_
 generalize hr:boo (isOp e.op&&zS e)=R
 have he:(ByteArray.mk #[]).toList=[]:=by simp [ByteArray.toList_eq]
 have he2:ByteArray.empty.toList=[]:=by simp [ByteArray.toList_eq]
 have hh:(([]:List UInt8)==[])=true:=rfl
 have h00:((0:Int)==0)=true:=rfl
 have hv1:zy ⟨1,e.num,ByteArray.empty⟩=(decide (e.num≥ -1000000000000)&&decide (e.num<=1000000000000)):=by simp [zy,he2]
 have hv2:zy ⟨2,e.num,ByteArray.empty⟩=((e.num==0) || (e.num==1)):=by simp [zy,he2]
 simp -implicitDefEqProofs only [argT,he,he2,hh,h00,↓zb,push_cast,simprocAttr,tte]
 refine za (fun k1=>?_) fun k1=>?_
 ·have hk:e.op=1:=by simpa using k1
  have g1:decide (e.op≥1)=true:=by rw [hk];decide
  have g2:decide (e.op<=28)=true:=by rw [hk];decide
  have hM:(isOp e.op&&zS e)=((((((e.type==1 || e.type==2) || e.type==3)&&true)&&(e.num==0))&&(e.text.toList==[]))&&(e.col==0)):=by simp [zS,isOp,okF,noT,noN,noX,noC,hk]
  refine za (fun a1=>?_) fun a1=>?_
  ·have ha:((e.type==1 || e.type==2) || e.type==3)=false:=by simp at a1 ⊢;omega
   exact zk trivial (by rw [<-hr,hM,ha];rfl) (by simp [ends])
  refine za (fun a2=>?_) fun a2=>?_
  ·have ha:((e.type==1 || e.type==2) || e.type==3)=false:=by simp at a2 ⊢;omega
   exact zk trivial (by rw [<-hr,hM,ha];rfl) (by simp [ends])
  have ha:((e.type==1 || e.type==2) || e.type==3)=true:=by simp at a1 a2 ⊢;omega
  rw [ha] at hM
  clear ha a1 a2 hk k1
  rw [g1,yp,g2,yp]
  repeat' first | (refine za (fun _=>?_) fun _=>?_) | exact zk trivial (by rw [<-hr,hM];simp only [*,Bool.true_and,Bool.and_true,Bool.false_and,Bool.and_false,boo]) (by simp [ends])
 refine za (fun k2=>?_) fun k2=>?_
 ·have hk:e.op=2:=by simpa using k2
  have g1:decide (e.op≥1)=true:=by rw [hk];decide
  have g2:decide (e.op<=28)=true:=by rw [hk];decide
  have hM:(isOp e.op&&zS e)=(((((decide (e.num≥ -1000000000000)&&decide (e.num<=1000000000000))&&(e.type==0))&&true)&&(e.text.toList==[]))&&(e.col==0)):=by rw [<-hv1];simp [zS,isOp,okF,noT,noN,noX,noC,hk]
  refine za (fun a1=>?_) fun a1=>?_
  ·have ha:decide (e.num≥ -1000000000000)=false:=by simp at a1 ⊢;omega
   exact zk trivial (by rw [<-hr,hM,ha];rfl) (by simp [ends])
  refine za (fun a2=>?_) fun a2=>?_
  ·have ha:decide (e.num<=1000000000000)=false:=by simp at a2 ⊢;omega
   exact zk trivial (by rw [<-hr,hM,ha,Bool.and_false];rfl) (by simp [ends])
  have ha:decide (e.num≥ -1000000000000)=true:=by simp at a1 ⊢;omega
  have ha2:decide (e.num<=1000000000000)=true:=by simp at a2 ⊢;omega
  rw [ha,ha2] at hM
  clear ha ha2 a1 a2 hk k1 k2 hv1 hv2
  rw [g1,yp,g2,yp]
  repeat' first | (refine za (fun _=>?_) fun _=>?_) | exact zk trivial (by rw [<-hr,hM];simp only [*,Bool.true_and,Bool.and_true,Bool.false_and,Bool.and_false,boo]) (by simp [ends])
 refine za (fun k3=>?_) fun k3=>?_
 ·have hk:e.op=3:=by simpa using k3
  have g1:decide (e.op≥1)=true:=by rw [hk];decide
  have g2:decide (e.op<=28)=true:=by rw [hk];decide
  have hM:(isOp e.op&&zS e)=((((((e.num==0) || (e.num==1))&&(e.type==0))&&true)&&(e.text.toList==[]))&&(e.col==0)):=by rw [<-hv2];simp [zS,isOp,okF,noT,noN,noX,noC,hk]
  have hT: ∀ha:((e.num==0) || (e.num==1))=true,(isOp e.op&&zS e)=((((true&&(e.type==0))&&true)&&(e.text.toList==[]))&&(e.col==0)):=fun ha=>by rw [hM,ha]
  refine za (fun a1=>?_) fun a1=>?_
  ·refine za (fun a2=>?_) fun a2=>?_
   ·have ha:((e.num==0) || (e.num==1))=false:=by simp at a1 a2 ⊢;omega
    exact zk trivial (by rw [<-hr,hM,ha];rfl) (by simp [ends])
   ·replace hM:=hT (by simp at a2 ⊢;omega)
    clear hT a1 a2 hk k1 k2 k3 hv1 hv2
    rw [g1,yp,g2,yp]
    repeat' first | (refine za (fun _=>?_) fun _=>?_) | exact zk trivial (by rw [<-hr,hM];simp only [*,Bool.true_and,Bool.and_true,Bool.false_and,Bool.and_false,boo]) (by simp [ends])
  ·replace hM:=hT (by simp at a1 ⊢;omega)
   clear hT a1 hk k1 k2 k3 hv1 hv2
   rw [g1,yp,g2,yp]
   repeat' first | (refine za (fun _=>?_) fun _=>?_) | exact zk trivial (by rw [<-hr,hM];simp only [*,Bool.true_and,Bool.and_true,Bool.false_and,Bool.and_false,boo]) (by simp [ends])
 refine za (fun k4=>?_) fun k4=>?_
 ·have hk:e.op=4:=by simpa using k4
  have g1:decide (e.op≥1)=true:=by rw [hk];decide
  have g2:decide (e.op<=28)=true:=by rw [hk];decide
  have hM:(isOp e.op&&zS e)=((((zy ⟨3,0,e.text⟩&&(e.type==0))&&(e.num==0))&&true)&&(e.col==0)):=by simp [zS,isOp,okF,noT,noN,noX,noC,hk]
  refine zd [[0,0,0]] [] (uU ⟨3,0,e.text⟩) ?_
  simp -implicitDefEqProofs only [he,he2,hh,h00,↓zb,push_cast,simprocAttr,tte]
  refine za (fun a1=>?_) fun a1=>?_
  ·have ha:zy ⟨3,0,e.text⟩=false:=by simpa using a1
   exact zk trivial (by rw [<-hr,hM,ha];rfl) (by simp [ends])
  have ha:zy ⟨3,0,e.text⟩=true:=by simpa using a1
  rw [ha] at hM
  clear ha a1 hk k1 k2 k3 k4 hv1 hv2
  rw [g1,yp,g2,yp]
  repeat' first | (refine za (fun _=>?_) fun _=>?_) | exact zk trivial (by rw [<-hr,hM];simp only [*,Bool.true_and,Bool.and_true,Bool.false_and,Bool.and_false,boo]) (by simp [ends])
 refine za (fun k5=>?_) fun k5=>?_
 ·have hk:e.op=5:=by simpa using k5
  have g1:decide (e.op≥1)=true:=by rw [hk];decide
  have g2:decide (e.op<=28)=true:=by rw [hk];decide
  have hM:(isOp e.op&&zS e)=((((true&&(e.type==0))&&(e.num==0))&&(e.text.toList==[]))&&true):=by simp [zS,isOp,okF,noT,noN,noX,noC,hk]
  clear hk k1 k2 k3 k4 k5 hv1 hv2
  rw [g1,yp,g2,yp]
  repeat' first | (refine za (fun _=>?_) fun _=>?_) | exact zk trivial (by rw [<-hr,hM];simp only [*,Bool.true_and,Bool.and_true,Bool.false_and,Bool.and_false,boo]) (by simp [ends])
 have hk1: ¬e.op=1:=by simpa using k1
 have hk2: ¬e.op=2:=by simpa using k2
 have hk3: ¬e.op=3:=by simpa using k3
 have hk4: ¬e.op=4:=by simpa using k4
 have hk5: ¬e.op=5:=by simpa using k5
 have hM:(isOp e.op&&zS e)=((((((decide (e.op≥1)&&decide (e.op<=28))&&true)&&(e.type==0))&&(e.num==0))&&(e.text.toList==[]))&&(e.col==0)):=by
  have:zS e=((((true&&(e.type==0))&&(e.num==0))&&(e.text.toList==[]))&&(e.col==0)):=by simp [zS,okF,noT,noN,noX,noC,hk1,hk2,hk3,hk4,hk5]
  rw [this,isOp];simp only [ge_iff_le,Bool.true_and,Bool.and_true,Bool.and_assoc]
 clear hk1 hk2 hk3 hk4 hk5 k1 k2 k3 k4 k5 hv1 hv2
 repeat' first | (refine za (fun _=>?_) fun _=>?_) | exact zk trivial (by rw [<-hr,hM];simp only [*,Bool.true_and,Bool.and_true,Bool.false_and,Bool.and_false,boo]) (by simp [ends])
end
section
open Go.Am
attribute [local simp, local push_cast] num boo str ints aV aTab zA aS aT aC zV zF aFk vT
def zM (op:Int):Bool:=((((op==6 || op==7) || op==8) || op==9) || op==10) || op==11
def zI (op:Int):Bool:=((op==22 || op==23) || op==24) || op==25
def yf (l:List Int) (v:Int):Bool:=l.all fun x=>x==v
def zt (ts:List Int) (e:Ex) (l:List Int):Int:=
 if e.op==1 then e.type else if e.op==2 then 1 else if e.op==3 then 2 else if e.op==4 then 3 else if e.op==5 then ts.getD e.col.toNat default
 else if zM e.op then (if yf l 1 then 1 else 0)
 else if e.op==12 then (if yf l 3 then 3 else 0)
 else if e.op==13 then (if yf l 3 then 1 else 0)
 else if e.op==21 then 2
 else if zI e.op then (if yf l 2 then 2 else 0)
 else if e.op==26 then (if (l.getD 0 default==2)&&(l.getD 1 default==l.getD 2 default) then l.getD 1 default else 0)
 else if e.op==27 then (if l.getD 0 default==l.getD 1 default then l.getD 0 default else 0)
 else (if yf l (l.getD 0 default) then 2 else 0)
theorem ux {b:Bool} {p q:Prop} (h:b=true) (x:p):vq b p q:=by subst h;exact yp _ _ ▸ x
theorem c_result (ts:List Int) (e:Ex) (l:List Int) (hl:l.length<=1000000000) (hc5:e.op=5->0<=e.col/\e.col<ts.length) (hc26:e.op=26->l.length=3) (hc27:e.op=27->l.length=2)
 (hE:isOp e.op=true->5<e.op->0<l.length) (ho:isOp e.op=true):ACall Tryz.prog 106 [ints ts,aE e,ints l] [] (num (zt ts e l)) []:=by
 refine zp mixed ttok Tryz.func106 Tryz.ntmps106 Tryz.results106 ?_
 generalize hr:num (zt ts e l)=R
 simp -implicitDefEqProofs only [argT,↓zb,push_cast,simprocAttr,tte]
 have hop:=hE ho
 refine za (fun h1=>?_) fun h1=>?_
 ·have hv:zt ts e l=e.type:=by simp only [zt,zM,zI,yf,h1,Bool.true_or,Bool.or_true,Bool.or_false,Bool.false_or,Bool.or_self,Bool.true_and,Bool.false_and,Bool.and_self,Bool.false_eq_true,if_true,if_false]
  exact zk trivial (by rw [<-hr,hv];rfl) (by simp [ends])
 refine za (fun h2=>?_) fun h2=>?_
 ·have hv:zt ts e l=1:=by simp only [zt,zM,zI,yf,h1,h2,Bool.true_or,Bool.or_true,Bool.or_false,Bool.false_or,Bool.or_self,Bool.true_and,Bool.false_and,Bool.and_self,Bool.false_eq_true,if_true,if_false]
  exact zk trivial (by rw [<-hr,hv];rfl) (by simp [ends])
 refine za (fun h3=>?_) fun h3=>?_
 ·have hv:zt ts e l=2:=by simp only [zt,zM,zI,yf,h1,h2,h3,Bool.true_or,Bool.or_true,Bool.or_false,Bool.false_or,Bool.or_self,Bool.true_and,Bool.false_and,Bool.and_self,Bool.false_eq_true,if_true,if_false]
  exact zk trivial (by rw [<-hr,hv];rfl) (by simp [ends])
 refine za (fun h4=>?_) fun h4=>?_
 ·have hv:zt ts e l=3:=by simp only [zt,zM,zI,yf,h1,h2,h3,h4,Bool.true_or,Bool.or_true,Bool.or_false,Bool.false_or,Bool.or_self,Bool.true_and,Bool.false_and,Bool.and_self,Bool.false_eq_true,if_true,if_false]
  exact zk trivial (by rw [<-hr,hv];rfl) (by simp [ends])
 refine za (fun h5=>?_) fun h5=>?_
 ·refine ⟨hc5 (by simpa using h5),?_⟩
  have hv:zt ts e l=ts.getD e.col.toNat default:=by simp only [zt,zM,zI,yf,h1,h2,h3,h4,h5,Bool.true_or,Bool.or_true,Bool.or_false,Bool.false_or,Bool.or_self,Bool.true_and,Bool.false_and,Bool.and_self,Bool.false_eq_true,if_true,if_false]
  exact zk trivial (by rw [<-hr,hv];rfl) (by simp [ends])
 refine za (fun h6=>?_) fun h6=>?_
 ·refine ux h6 ?_
  refine zd [[1],[0]] [] (uV l 1 hl) ?_
  simp -implicitDefEqProofs only [↓zb,push_cast,simprocAttr,tte]
  refine za (fun g=>?_) fun g=>?_
  ·have hv:zt ts e l=1:=by simp only [zt,zM,zI,yf,h1,h2,h3,h4,h5,h6,g,Bool.true_or,Bool.or_true,Bool.or_false,Bool.false_or,Bool.or_self,Bool.true_and,Bool.false_and,Bool.and_self,Bool.false_eq_true,if_true,if_false]
   exact zk trivial (by rw [<-hr,hv];rfl) (by simp [ends])
  ·have hv:zt ts e l=0:=by simp only [zt,zM,zI,yf,h1,h2,h3,h4,h5,h6,g,Bool.true_or,Bool.or_true,Bool.or_false,Bool.false_or,Bool.or_self,Bool.true_and,Bool.false_and,Bool.and_self,Bool.false_eq_true,if_true,if_false]
   exact zk trivial (by rw [<-hr,hv];rfl) (by simp [ends])
 refine za (fun h7=>?_) fun h7=>?_
 ·refine ux h7 ?_
  refine zd [[1],[0]] [] (uV l 1 hl) ?_
  simp -implicitDefEqProofs only [↓zb,push_cast,simprocAttr,tte]
  refine za (fun g=>?_) fun g=>?_
  ·have hv:zt ts e l=1:=by simp only [zt,zM,zI,yf,h1,h2,h3,h4,h5,h6,h7,g,Bool.true_or,Bool.or_true,Bool.or_false,Bool.false_or,Bool.or_self,Bool.true_and,Bool.false_and,Bool.and_self,Bool.false_eq_true,if_true,if_false]
   exact zk trivial (by rw [<-hr,hv];rfl) (by simp [ends])
  ·have hv:zt ts e l=0:=by simp only [zt,zM,zI,yf,h1,h2,h3,h4,h5,h6,h7,g,Bool.true_or,Bool.or_true,Bool.or_false,Bool.false_or,Bool.or_self,Bool.true_and,Bool.false_and,Bool.and_self,Bool.false_eq_true,if_true,if_false]
   exact zk trivial (by rw [<-hr,hv];rfl) (by simp [ends])
 refine za (fun h8=>?_) fun h8=>?_
 ·refine ux h8 ?_
  refine zd [[1],[0]] [] (uV l 1 hl) ?_
  simp -implicitDefEqProofs only [↓zb,push_cast,simprocAttr,tte]
  refine za (fun g=>?_) fun g=>?_
  ·have hv:zt ts e l=1:=by simp only [zt,zM,zI,yf,h1,h2,h3,h4,h5,h6,h7,h8,g,Bool.true_or,Bool.or_true,Bool.or_false,Bool.false_or,Bool.or_self,Bool.true_and,Bool.false_and,Bool.and_self,Bool.false_eq_true,if_true,if_false]
   exact zk trivial (by rw [<-hr,hv];rfl) (by simp [ends])
  ·have hv:zt ts e l=0:=by simp only [zt,zM,zI,yf,h1,h2,h3,h4,h5,h6,h7,h8,g,Bool.true_or,Bool.or_true,Bool.or_false,Bool.false_or,Bool.or_self,Bool.true_and,Bool.false_and,Bool.and_self,Bool.false_eq_true,if_true,if_false]
   exact zk trivial (by rw [<-hr,hv];rfl) (by simp [ends])
 refine za (fun h9=>?_) fun h9=>?_
 ·refine ux h9 ?_
  refine zd [[1],[0]] [] (uV l 1 hl) ?_
  simp -implicitDefEqProofs only [↓zb,push_cast,simprocAttr,tte]
  refine za (fun g=>?_) fun g=>?_
  ·have hv:zt ts e l=1:=by simp only [zt,zM,zI,yf,h1,h2,h3,h4,h5,h6,h7,h8,h9,g,Bool.true_or,Bool.or_true,Bool.or_false,Bool.false_or,Bool.or_self,Bool.true_and,Bool.false_and,Bool.and_self,Bool.false_eq_true,if_true,if_false]
   exact zk trivial (by rw [<-hr,hv];rfl) (by simp [ends])
  ·have hv:zt ts e l=0:=by simp only [zt,zM,zI,yf,h1,h2,h3,h4,h5,h6,h7,h8,h9,g,Bool.true_or,Bool.or_true,Bool.or_false,Bool.false_or,Bool.or_self,Bool.true_and,Bool.false_and,Bool.and_self,Bool.false_eq_true,if_true,if_false]
   exact zk trivial (by rw [<-hr,hv];rfl) (by simp [ends])
 refine za (fun h10=>?_) fun h10=>?_
 ·refine ux h10 ?_
  refine zd [[1],[0]] [] (uV l 1 hl) ?_
  simp -implicitDefEqProofs only [↓zb,push_cast,simprocAttr,tte]
  refine za (fun g=>?_) fun g=>?_
  ·have hv:zt ts e l=1:=by simp only [zt,zM,zI,yf,h1,h2,h3,h4,h5,h6,h7,h8,h9,h10,g,Bool.true_or,Bool.or_true,Bool.or_false,Bool.false_or,Bool.or_self,Bool.true_and,Bool.false_and,Bool.and_self,Bool.false_eq_true,if_true,if_false]
   exact zk trivial (by rw [<-hr,hv];rfl) (by simp [ends])
  ·have hv:zt ts e l=0:=by simp only [zt,zM,zI,yf,h1,h2,h3,h4,h5,h6,h7,h8,h9,h10,g,Bool.true_or,Bool.or_true,Bool.or_false,Bool.false_or,Bool.or_self,Bool.true_and,Bool.false_and,Bool.and_self,Bool.false_eq_true,if_true,if_false]
   exact zk trivial (by rw [<-hr,hv];rfl) (by simp [ends])
 refine za (fun h11=>?_) fun h11=>?_
 ·refine zd [[1],[0]] [] (uV l 1 hl) ?_
  simp -implicitDefEqProofs only [↓zb,push_cast,simprocAttr,tte]
  refine za (fun g=>?_) fun g=>?_
  ·have hv:zt ts e l=1:=by simp only [zt,zM,zI,yf,h1,h2,h3,h4,h5,h6,h7,h8,h9,h10,h11,g,Bool.true_or,Bool.or_true,Bool.or_false,Bool.false_or,Bool.or_self,Bool.true_and,Bool.false_and,Bool.and_self,Bool.false_eq_true,if_true,if_false]
   exact zk trivial (by rw [<-hr,hv];rfl) (by simp [ends])
  ·have hv:zt ts e l=0:=by simp only [zt,zM,zI,yf,h1,h2,h3,h4,h5,h6,h7,h8,h9,h10,h11,g,Bool.true_or,Bool.or_true,Bool.or_false,Bool.false_or,Bool.or_self,Bool.true_and,Bool.false_and,Bool.and_self,Bool.false_eq_true,if_true,if_false]
   exact zk trivial (by rw [<-hr,hv];rfl) (by simp [ends])
 refine za (fun h12=>?_) fun h12=>?_
 ·refine zd [[1],[0]] [] (uV l 3 hl) ?_
  simp -implicitDefEqProofs only [↓zb,push_cast,simprocAttr,tte]
  refine za (fun g=>?_) fun g=>?_
  ·have hv:zt ts e l=3:=by simp only [zt,zM,zI,yf,h1,h2,h3,h4,h5,h6,h7,h8,h9,h10,h11,h12,g,Bool.true_or,Bool.or_true,Bool.or_false,Bool.false_or,Bool.or_self,Bool.true_and,Bool.false_and,Bool.and_self,Bool.false_eq_true,if_true,if_false]
   exact zk trivial (by rw [<-hr,hv];rfl) (by simp [ends])
  ·have hv:zt ts e l=0:=by simp only [zt,zM,zI,yf,h1,h2,h3,h4,h5,h6,h7,h8,h9,h10,h11,h12,g,Bool.true_or,Bool.or_true,Bool.or_false,Bool.false_or,Bool.or_self,Bool.true_and,Bool.false_and,Bool.and_self,Bool.false_eq_true,if_true,if_false]
   exact zk trivial (by rw [<-hr,hv];rfl) (by simp [ends])
 refine za (fun h13=>?_) fun h13=>?_
 ·refine zd [[1],[0]] [] (uV l 3 hl) ?_
  simp -implicitDefEqProofs only [↓zb,push_cast,simprocAttr,tte]
  refine za (fun g=>?_) fun g=>?_
  ·have hv:zt ts e l=1:=by simp only [zt,zM,zI,yf,h1,h2,h3,h4,h5,h6,h7,h8,h9,h10,h11,h12,h13,g,Bool.true_or,Bool.or_true,Bool.or_false,Bool.false_or,Bool.or_self,Bool.true_and,Bool.false_and,Bool.and_self,Bool.false_eq_true,if_true,if_false]
   exact zk trivial (by rw [<-hr,hv];rfl) (by simp [ends])
  ·have hv:zt ts e l=0:=by simp only [zt,zM,zI,yf,h1,h2,h3,h4,h5,h6,h7,h8,h9,h10,h11,h12,h13,g,Bool.true_or,Bool.or_true,Bool.or_false,Bool.false_or,Bool.or_self,Bool.true_and,Bool.false_and,Bool.and_self,Bool.false_eq_true,if_true,if_false]
   exact zk trivial (by rw [<-hr,hv];rfl) (by simp [ends])
 refine za (fun h21=>?_) fun h21=>?_
 ·have hv:zt ts e l=2:=by simp only [zt,zM,zI,yf,h1,h2,h3,h4,h5,h6,h7,h8,h9,h10,h11,h12,h13,h21,Bool.true_or,Bool.or_true,Bool.or_false,Bool.false_or,Bool.or_self,Bool.true_and,Bool.false_and,Bool.and_self,Bool.false_eq_true,if_true,if_false]
  exact zk trivial (by rw [<-hr,hv];rfl) (by simp [ends])
 refine za (fun h22=>?_) fun h22=>?_
 ·refine ux h22 ?_
  refine zd [[1],[0]] [] (uV l 2 hl) ?_
  simp -implicitDefEqProofs only [↓zb,push_cast,simprocAttr,tte]
  refine za (fun g=>?_) fun g=>?_
  ·have hv:zt ts e l=2:=by simp only [zt,zM,zI,yf,h1,h2,h3,h4,h5,h6,h7,h8,h9,h10,h11,h12,h13,h21,h22,g,Bool.true_or,Bool.or_true,Bool.or_false,Bool.false_or,Bool.or_self,Bool.true_and,Bool.false_and,Bool.and_self,Bool.false_eq_true,if_true,if_false]
   exact zk trivial (by rw [<-hr,hv];rfl) (by simp [ends])
  ·have hv:zt ts e l=0:=by simp only [zt,zM,zI,yf,h1,h2,h3,h4,h5,h6,h7,h8,h9,h10,h11,h12,h13,h21,h22,g,Bool.true_or,Bool.or_true,Bool.or_false,Bool.false_or,Bool.or_self,Bool.true_and,Bool.false_and,Bool.and_self,Bool.false_eq_true,if_true,if_false]
   exact zk trivial (by rw [<-hr,hv];rfl) (by simp [ends])
 refine za (fun h23=>?_) fun h23=>?_
 ·refine ux h23 ?_
  refine zd [[1],[0]] [] (uV l 2 hl) ?_
  simp -implicitDefEqProofs only [↓zb,push_cast,simprocAttr,tte]
  refine za (fun g=>?_) fun g=>?_
  ·have hv:zt ts e l=2:=by simp only [zt,zM,zI,yf,h1,h2,h3,h4,h5,h6,h7,h8,h9,h10,h11,h12,h13,h21,h22,h23,g,Bool.true_or,Bool.or_true,Bool.or_false,Bool.false_or,Bool.or_self,Bool.true_and,Bool.false_and,Bool.and_self,Bool.false_eq_true,if_true,if_false]
   exact zk trivial (by rw [<-hr,hv];rfl) (by simp [ends])
  ·have hv:zt ts e l=0:=by simp only [zt,zM,zI,yf,h1,h2,h3,h4,h5,h6,h7,h8,h9,h10,h11,h12,h13,h21,h22,h23,g,Bool.true_or,Bool.or_true,Bool.or_false,Bool.false_or,Bool.or_self,Bool.true_and,Bool.false_and,Bool.and_self,Bool.false_eq_true,if_true,if_false]
   exact zk trivial (by rw [<-hr,hv];rfl) (by simp [ends])
 refine za (fun h24=>?_) fun h24=>?_
 ·refine ux h24 ?_
  refine zd [[1],[0]] [] (uV l 2 hl) ?_
  simp -implicitDefEqProofs only [↓zb,push_cast,simprocAttr,tte]
  refine za (fun g=>?_) fun g=>?_
  ·have hv:zt ts e l=2:=by simp only [zt,zM,zI,yf,h1,h2,h3,h4,h5,h6,h7,h8,h9,h10,h11,h12,h13,h21,h22,h23,h24,g,Bool.true_or,Bool.or_true,Bool.or_false,Bool.false_or,Bool.or_self,Bool.true_and,Bool.false_and,Bool.and_self,Bool.false_eq_true,if_true,if_false]
   exact zk trivial (by rw [<-hr,hv];rfl) (by simp [ends])
  ·have hv:zt ts e l=0:=by simp only [zt,zM,zI,yf,h1,h2,h3,h4,h5,h6,h7,h8,h9,h10,h11,h12,h13,h21,h22,h23,h24,g,Bool.true_or,Bool.or_true,Bool.or_false,Bool.false_or,Bool.or_self,Bool.true_and,Bool.false_and,Bool.and_self,Bool.false_eq_true,if_true,if_false]
   exact zk trivial (by rw [<-hr,hv];rfl) (by simp [ends])
 refine za (fun h25=>?_) fun h25=>?_
 ·refine zd [[1],[0]] [] (uV l 2 hl) ?_
  simp -implicitDefEqProofs only [↓zb,push_cast,simprocAttr,tte]
  refine za (fun g=>?_) fun g=>?_
  ·have hv:zt ts e l=2:=by simp only [zt,zM,zI,yf,h1,h2,h3,h4,h5,h6,h7,h8,h9,h10,h11,h12,h13,h21,h22,h23,h24,h25,g,Bool.true_or,Bool.or_true,Bool.or_false,Bool.false_or,Bool.or_self,Bool.true_and,Bool.false_and,Bool.and_self,Bool.false_eq_true,if_true,if_false]
   exact zk trivial (by rw [<-hr,hv];rfl) (by simp [ends])
  ·have hv:zt ts e l=0:=by simp only [zt,zM,zI,yf,h1,h2,h3,h4,h5,h6,h7,h8,h9,h10,h11,h12,h13,h21,h22,h23,h24,h25,g,Bool.true_or,Bool.or_true,Bool.or_false,Bool.false_or,Bool.or_self,Bool.true_and,Bool.false_and,Bool.and_self,Bool.false_eq_true,if_true,if_false]
   exact zk trivial (by rw [<-hr,hv];rfl) (by simp [ends])
 refine za (fun h26=>?_) fun h26=>?_
 ·have hlen:l.length=3:=hc26 (by simpa using h26)
  refine ⟨by omega,?_⟩
  refine za (fun a1=>?_) fun a1=>?_
  ·refine ⟨by omega,by omega,zg (by kernel_rfl),?_⟩
   refine za (fun a2=>?_) fun a2=>?_
   ·refine ⟨by omega,?_⟩
    have hv:zt ts e l=l.getD 1 default:=by simp only [zt,zM,zI,yf,h1,h2,h3,h4,h5,h6,h7,h8,h9,h10,h11,h12,h13,h21,h22,h23,h24,h25,h26,a1,a2,Bool.true_or,Bool.or_true,Bool.or_false,Bool.false_or,Bool.or_self,Bool.true_and,Bool.false_and,Bool.and_self,Bool.false_eq_true,if_true,if_false]
    exact zk trivial (by rw [<-hr,hv];rfl) (by simp [ends])
   ·have hv:zt ts e l=0:=by simp only [zt,zM,zI,yf,h1,h2,h3,h4,h5,h6,h7,h8,h9,h10,h11,h12,h13,h21,h22,h23,h24,h25,h26,a1,a2,Bool.true_or,Bool.or_true,Bool.or_false,Bool.false_or,Bool.or_self,Bool.true_and,Bool.false_and,Bool.and_self,Bool.false_eq_true,if_true,if_false]
    exact zk trivial (by rw [<-hr,hv];rfl) (by simp [ends])
  ·refine ⟨zg (by kernel_rfl),?_⟩
   have hv:zt ts e l=0:=by simp only [zt,zM,zI,yf,h1,h2,h3,h4,h5,h6,h7,h8,h9,h10,h11,h12,h13,h21,h22,h23,h24,h25,h26,a1,Bool.true_or,Bool.or_true,Bool.or_false,Bool.false_or,Bool.or_self,Bool.true_and,Bool.false_and,Bool.and_self,Bool.false_eq_true,if_true,if_false]
   exact zk trivial (by rw [<-hr,hv];rfl) (by simp [ends])
 refine za (fun h27=>?_) fun h27=>?_
 ·have hlen:l.length=2:=hc27 (by simpa using h27)
  refine ⟨by omega,by omega,zg (by kernel_rfl),?_⟩
  refine za (fun a1=>?_) fun a1=>?_
  ·refine ⟨by omega,?_⟩
   have hv:zt ts e l=l.getD 0 default:=by simp only [zt,zM,zI,yf,h1,h2,h3,h4,h5,h6,h7,h8,h9,h10,h11,h12,h13,h21,h22,h23,h24,h25,h26,h27,a1,Bool.true_or,Bool.or_true,Bool.or_false,Bool.false_or,Bool.or_self,Bool.true_and,Bool.false_and,Bool.and_self,Bool.false_eq_true,if_true,if_false]
   exact zk trivial (by rw [<-hr,hv];rfl) (by simp [ends])
  ·have hv:zt ts e l=0:=by simp only [zt,zM,zI,yf,h1,h2,h3,h4,h5,h6,h7,h8,h9,h10,h11,h12,h13,h21,h22,h23,h24,h25,h26,h27,a1,Bool.true_or,Bool.or_true,Bool.or_false,Bool.false_or,Bool.or_self,Bool.true_and,Bool.false_and,Bool.and_self,Bool.false_eq_true,if_true,if_false]
   exact zk trivial (by rw [<-hr,hv];rfl) (by simp [ends])
 have hgt:5<e.op:=by
  simp only [beq_eq_false_iff_ne,ne_eq] at h1 h2 h3 h4 h5
  simp only [isOp,Bool.and_eq_true,decide_eq_true_eq] at ho
  omega
 have hlen:=hE ho hgt
 refine ⟨by omega,?_⟩
 refine zd [[1],[0]] [] (uV l (l.getD 0 default) hl) ?_
 simp -implicitDefEqProofs only [↓zb,push_cast,simprocAttr,tte]
 refine za (fun g=>?_) fun g=>?_
 ·have hv:zt ts e l=2:=by simp only [zt,zM,zI,yf,h1,h2,h3,h4,h5,h6,h7,h8,h9,h10,h11,h12,h13,h21,h22,h23,h24,h25,h26,h27,g,Bool.true_or,Bool.or_true,Bool.or_false,Bool.false_or,Bool.or_self,Bool.true_and,Bool.false_and,Bool.and_self,Bool.false_eq_true,if_true,if_false]
  exact zk trivial (by rw [<-hr,hv];rfl) (by simp [ends])
 ·have hv:zt ts e l=0:=by simp only [zt,zM,zI,yf,h1,h2,h3,h4,h5,h6,h7,h8,h9,h10,h11,h12,h13,h21,h22,h23,h24,h25,h26,h27,g,Bool.true_or,Bool.or_true,Bool.or_false,Bool.false_or,Bool.or_self,Bool.true_and,Bool.false_and,Bool.and_self,Bool.false_eq_true,if_true,if_false]
  exact zk trivial (by rw [<-hr,hv];rfl) (by simp [ends])
end
section
open Go.Am
attribute [local simp, local push_cast] num boo str ints aV aTab zA aS aT aC zV zF aFk vT
def ownR (ts:List Int) (e:Ex) (l:List Int):Int×Int:=
 if !(isOp e.op&&zS e) then (0,1)
 else if !yw e then (0,9)
 else if (e.op==5&&(decide (e.col<0) || decide (e.col≥ts.length))) then (0,3)
 else if (decide (zt ts e l<1) || decide (zt ts e l>3)) then (0,4)
 else (zt ts e l,0)
def isT (k:Int):Prop:=1<=k/\k<=3
theorem own_tab0: ∀n∈List.range 29,
 n=0\/(n=1\/n=5)/\(opTab.getD n default).types=0\/n=2/\(opTab.getD n default).types=0/\(opTab.getD n default).own=1\/n=3/\(opTab.getD n default).types=0/\(opTab.getD n default).own=2\/
 n=4/\(opTab.getD n default).types=0/\(opTab.getD n default).own=3\/(6<=n/\n<=11)/\(opTab.getD n default).types=1/\(opTab.getD n default).own=1\/n=12/\(opTab.getD n default).types=2/\(opTab.getD n default).own=3\/
 n=13/\(opTab.getD n default).types=2/\(opTab.getD n default).own=1\/n=21/\(opTab.getD n default).types=5/\(opTab.getD n default).own=2\/(22<=n/\n<=25)/\(opTab.getD n default).types=3/\(opTab.getD n default).own=2\/
 n=26/\(opTab.getD n default).types=6/\(opTab.getD n default).own=0\/n=27/\(opTab.getD n default).types=4/\(opTab.getD n default).own=0\/((14<=n/\n<=20)\/n=28)/\(opTab.getD n default).types=4/\(opTab.getD n default).own=2:=by decide
theorem okF_type {e:Ex} (h:zS e=true) (h1:e.op=1):1<=e.type/\e.type<=3:=by
 simp [zS,okF,h1] at h;omega
theorem own_eq (ts:List Int) (e:Ex) (l:List Int) (hl:l.length=e.kids.length) (hk: ∀x∈l,isT x):ownM ts e l=ownR ts e l:=by
 unfold ownM ownR
 by_cases ho':isOp e.op=false
 ·simp [ho']
 have ho:isOp e.op=true:=by simpa using ho'
 by_cases hc':zS e=false
 ·simp [hc']
 have hc:zS e=true:=by simpa using hc'
 by_cases hn':yw e=false
 ·simp [hn',ho,hc]
 have hn:yw e=true:=by simpa using hn'
 by_cases h3:(e.op==5&&(decide (e.col<0) || decide (e.col≥ts.length)))=true
 ·rw [ho,hc,hn,h3];rfl
 have h3':(e.op==5&&(decide (e.col<0) || decide (e.col≥ts.length)))=false:=by simpa using h3
 rw [ho,hc,hn,h3']
 simp only [Bool.not_true,Bool.or_self,Bool.false_eq_true,if_false,Bool.and_self]
 have hcount:=uh hn
 obtain ⟨n,n1,n2,n3⟩:=op_cases ho
 have hf:yo e.op=opTab.getD n default:=by rw [yo,ho,if_pos rfl,opAt,n3,Int.toNat_natCast]
 have ht:=own_tab0 n (by simpa using n1)
 have hkt:=kids_tab0 n (by simpa using n1)
 rw [hf] at hcount ⊢
 generalize hO:opTab.getD n default=o at ht hkt hcount
 obtain ⟨w,kn,ty,ow⟩:=o
 simp only at ht hkt hcount
 unfold fitM zt
 rcases ht with h | ⟨h,ht⟩ | ⟨h,ht,ht2⟩ | ⟨h,ht,ht2⟩ | ⟨h,ht,ht2⟩ | ⟨h,ht,ht2⟩ | ⟨h,ht,ht2⟩ | ⟨h,ht,ht2⟩ | ⟨h,ht,ht2⟩ | ⟨h,ht,ht2⟩ | ⟨h,ht,ht2⟩ | ⟨h,ht,ht2⟩ | ⟨h,ht,ht2⟩
 ·omega
 ·rcases h with h | h
  ·have he:e.op=1:=by omega
   have:=okF_type hc he
   have h4: ¬e.type<1:=by omega
   have h5: ¬3<e.type:=by omega
   simp [he,ht,h4,h5]
  ·have he:e.op=5:=by omega
   simp only [he,ht]
   generalize ts.getD e.col.toNat default=v
   simp [zC]
   split<;>split<;>(try rfl)<;>(exfalso;omega)
 ·have he:e.op=2:=by omega
  simp [he,ht,ht2]
 ·have he:e.op=3:=by omega
  simp [he,ht,ht2]
 ·have he:e.op=4:=by omega
  simp [he,ht,ht2]
 ·have hno:zM e.op=true:=by simp [zM];omega
  have e1: ¬e.op=1:=by omega
  have e2: ¬e.op=2:=by omega
  have e3: ¬e.op=3:=by omega
  have e4: ¬e.op=4:=by omega
  have e5: ¬e.op=5:=by omega
  by_cases ha:(l.all fun x=>x==1)=true
  ·simp [e1,e2,e3,e4,e5,hno,ht,ht2,ha,yf]
  ·have ha':(l.all fun x=>x==1)=false:=by simpa using ha
   simp [e1,e2,e3,e4,e5,hno,ht,ht2,ha',yf]
 ·have he:e.op=12:=by omega
  by_cases ha:(l.all fun x=>x==3)=true
  ·simp [he,zM,ht,ht2,ha,yf]
  ·have ha':(l.all fun x=>x==3)=false:=by simpa using ha
   simp [he,zM,ht,ht2,ha',yf]
 ·have he:e.op=13:=by omega
  by_cases ha:(l.all fun x=>x==3)=true
  ·simp [he,zM,ht,ht2,ha,yf]
  ·have ha':(l.all fun x=>x==3)=false:=by simpa using ha
   simp [he,zM,ht,ht2,ha',yf]
 ·have he:e.op=21:=by omega
  simp [he,zM,ht,ht2]
 ·have hno:zM e.op=false:=by simp [zM];omega
  have htr:zI e.op=true:=by simp [zI];omega
  have e1: ¬e.op=1:=by omega
  have e2: ¬e.op=2:=by omega
  have e3: ¬e.op=3:=by omega
  have e4: ¬e.op=4:=by omega
  have e5: ¬e.op=5:=by omega
  have e12: ¬e.op=12:=by omega
  have e13: ¬e.op=13:=by omega
  have e21: ¬e.op=21:=by omega
  by_cases ha:(l.all fun x=>x==2)=true
  ·simp [e1,e2,e3,e4,e5,e12,e13,e21,hno,htr,ht,ht2,ha,yf]
  ·have ha':(l.all fun x=>x==2)=false:=by simpa using ha
   simp [e1,e2,e3,e4,e5,e12,e13,e21,hno,htr,ht,ht2,ha',yf]
 ·have he:e.op=26:=by omega
  have hl3:l.length=3:=by omega
  obtain ⟨a,b,c,rfl⟩: ∃a b c,l=[a,b,c]:=by
   match l,hl3 with
   | [a,b,c],_=>exact ⟨a,b,c,rfl⟩
  have hb:isT b:=hk b (by simp)
  have h4: ¬b<1:=by have:=hb.1;omega
  have h5: ¬3<b:=by have:=hb.2;omega
  simp only [he,ht,ht2]
  by_cases q1:a=2<;>by_cases q2:b=c<;>simp [zM,zI,q1,q2]<;>(have hb1:=hb.1;have hb2:=hb.2;omega)
 ·have he:e.op=27:=by omega
  have hl2:l.length=2:=by omega
  obtain ⟨a,b,rfl⟩: ∃a b,l=[a,b]:=by
   match l,hl2 with
   | [a,b],_=>exact ⟨a,b,rfl⟩
  have hb:isT a:=hk a (by simp)
  have h4: ¬a<1:=by have:=hb.1;omega
  have h5: ¬3<a:=by have:=hb.2;omega
  simp only [he,ht,ht2]
  by_cases q2:a=b
  ·subst q2;simp [zM,zI,h4,h5]
  ·have q3: ¬b=a:=fun e=>q2 e.symm
   simp [zM,zI,q2,q3]
 ·have hno:zM e.op=false:=by simp [zM];omega
  have htr:zI e.op=false:=by simp [zI];omega
  have e1: ¬e.op=1:=by omega
  have e2: ¬e.op=2:=by omega
  have e3: ¬e.op=3:=by omega
  have e4: ¬e.op=4:=by omega
  have e5: ¬e.op=5:=by omega
  have e12: ¬e.op=12:=by omega
  have e13: ¬e.op=13:=by omega
  have e21: ¬e.op=21:=by omega
  have e26: ¬e.op=26:=by omega
  have e27: ¬e.op=27:=by omega
  by_cases ha:(l.all fun x=>x==l.getD 0 default)=true
  ·simp only [yf,ha]
   simp [e1,e2,e3,e4,e5,e12,e13,e21,e26,e27,hno,htr,ht,ht2]
  ·have ha':(l.all fun x=>x==l.getD 0 default)=false:=by simpa using ha
   simp only [yf,ha']
   simp [e1,e2,e3,e4,e5,e12,e13,e21,e26,e27,hno,htr,ht,ht2]
theorem own_isT (ts:List Int) (e:Ex) (l:List Int) (h:(ownR ts e l).2=0):isT (ownR ts e l).1:=by
 unfold ownR at h ⊢
 split at h
 ·cases h
 ·split at h
  ·cases h
  ·split at h
   ·cases h
   ·split at h
    ·cases h
    ·rename_i h4
     rw [if_neg (by assumption),if_neg (by assumption),if_neg (by assumption),if_neg (by assumption)]
     simp only [Bool.or_eq_true,decide_eq_true_eq,not_or] at h4
     exact ⟨by omega,by omega⟩
theorem typK_isT {ts:List Int} {e:Ex} {rs:List (Int×Int)} (h:(typK (ownR ts) e rs).2=0):isT (typK (ownR ts) e rs).1:=by
 unfold typK at h ⊢
 split
 ·rename_i h1;rw [if_pos h1] at h;exact own_isT _ _ _ h
 ·rename_i h1;rw [if_neg h1] at h;exact absurd h h1
theorem typ_isT {ts:List Int} {e:Ex} (h:(typG (ownR ts) e).2=0):isT (typG (ownR ts) e).1:=by
 rw [uk] at h ⊢;exact typK_isT h
theorem typ_eq (ts:List Int): ∀e:Ex,typG (ownM ts) e=typG (ownR ts) e:=jr (p:=fun e=>typG (ownM ts) e=typG (ownR ts) e) fun e ih=>by
 rw [uk,uk]
 have hm:e.kids.map (typG (ownM ts))=e.kids.map (typG (ownR ts)):=List.map_congr_left fun k hk=>ih k hk
 rw [hm,typK,typK]
 split
 ·rename_i h
  refine own_eq ts e _ (by simp) fun x hx=>?_
  simp only [List.map_map,List.mem_map,Function.comp] at hx
  obtain ⟨k,hk,rfl⟩:=hx
  have:=xW h _ (List.mem_map.2 ⟨k,hk,rfl⟩)
  exact typ_isT this
 ·rfl
theorem c_typed (ts:List Int) (hts:ts.length<=1000000000): ∀e:Ex,Ok12 e->ACall Tryz.prog 53 [ints ts,aE e] [] (zF (typG (ownR ts) e)) []:=
 jr (p:=fun e=>Ok12 e->ACall Tryz.prog 53 [ints ts,aE e] [] (zF (typG (ownR ts) e)) []) fun e ih ho=>by
 refine zp mixed ttok Tryz.func53 Tryz.ntmps53 Tryz.results53 ?_
 generalize hr:zF (typG (ownR ts) e)=R
 have hl:=ho.kids
 simp -implicitDefEqProofs only [argT,↓zb,push_cast,simprocAttr,tte]
 refine zn mixed ttok 7 [0,3] [3] (by simp only [z6,ends,push_cast,simprocAttr];rfl) (by simp only [zB,zo,ends,push_cast,simprocAttr];rfl) e.kids.length (fun n=> ∀i,i<n->(typG (ownR ts) (e.kids.getD i default)).2=0) (fun n=>[(6,.vec 500 n)]) (fun n=>[(500,.vec 3 1 (ze rI (vb (ownR ts) e n)) 0)]) (fun i h=>absurd h (Nat.not_lt_zero _)) ?_ ?_
 ·exact (Weak.nilL 6 500 3 1 rfl rfl).trans (Weak.keepL (by simp [cst,ends]) (by simp [cst,vb,ends]) (by simp [cst,ends]))
 intro I hI n hn hi
 have hl2:=qr (ownR ts) e n hn
 simp -implicitDefEqProofs only [cst,↓zb,push_cast,simprocAttr,tte]
 refine za (fun h=>?_) fun h=>?_
 ·simp only [decide_eq_true_eq] at h
  have h':n<e.kids.length:=by omega
  have hw:=zj h' (by omega)
  have hs:=tysTo_succ (ownR ts) e n h'
  refine ⟨(by first | omega | trivial | (refine ⟨?_,?_⟩<;>first | omega | trivial | (refine ⟨?_,?_⟩<;>first | omega | trivial | (refine ⟨?_,?_⟩<;>first | omega | trivial | rfl)))),?_⟩
  refine zd [[1],[0,0,0,0,0,6]] [] (ih _ (zi h') (ho.kid (zi h'))) ?_
  simp -implicitDefEqProofs only [zF,↓zb,push_cast,simprocAttr,tte]
  refine za (fun g=>?_) fun g=>?_
  ·have g':(typG (ownR ts) (e.kids.getD n default)).2≠0:=by simpa using g
   have hf:ferr Prod.snd (e.kids.map (typG (ownR ts)))=(typG (ownR ts) (e.kids.getD n default)).2:=by rw [wB];exact x5 _ _ n h' hi g'
   have hE:typG (ownR ts) e=(0,(typG (ownR ts) (e.kids.getD n default)).2):=by rw [uk (ownR ts) e,typK,hf,if_neg g']
   exact zD trivial (by rw [<-hr,hE];rfl) (by simp [ends])
  ·have g':(typG (ownR ts) (e.kids.getD n default)).2=0:=by simpa using g
   refine ⟨⟨hl2.symm,by rw [hl2];omega⟩,?_⟩
   exact zl hI n rfl h' (fun i h2=>if h3:i=n then by rw [h3];exact g' else hi i (by omega)) (by simp [hw,hs,hl2,zf,ends]) (by simp [hw,hs,hl2,zf,ends]) (by simp [hw,hs,hl2,zf,ends]) (by simp [hw,hs,hl2,zf,ends])
 simp only [decide_eq_false_iff_not] at h
 obtain rfl:n=e.kids.length:=by omega
 clear hI
 have hf:ferr Prod.snd (e.kids.map (typG (ownR ts)))=0:=by rw [wB];exact yt _ _ hi
 have hT:vb (ownR ts) e e.kids.length=(e.kids.map (typG (ownR ts))).map Prod.fst:=by rw [vb,List.take_length,List.map_map];rfl
 have hM:typG (ownR ts) e=ownR ts e (vb (ownR ts) e e.kids.length):=by rw [uk (ownR ts) e,typK,if_pos hf,hT]
 rw [hM] at hr
 generalize vb (ownR ts) e e.kids.length=l at hl2 hr ⊢
 refine zd [[0,0,0,0,0,6]] [] (c_plain e) ?_
 simp -implicitDefEqProofs only [↓zb,push_cast,simprocAttr,tte]
 refine za (fun h1=>?_) fun h1=>?_
 ·have hv:ownR ts e l=(0,1):=if_pos h1
  exact zD trivial (by rw [<-hr,hv];rfl) (by simp [ends])
 have ho2:isOp e.op=true/\zS e=true:=by simpa using h1
 have hv1:ownR ts e l=if !yw e then (0,9)
  else if (e.op==5&&(decide (e.col<0) || decide (e.col≥ts.length))) then (0,3)
  else if (decide (zt ts e l<1) || decide (zt ts e l>3)) then (0,4) else (zt ts e l,0):=if_neg (by rw [h1];decide)
 have hkc:=jo ho2.1
 refine ⟨hl2.symm,?_⟩
 refine zd [[0],[0]] [] (c_rkids e.op e.kids.length) ?_
 simp -implicitDefEqProofs only [↓zb,push_cast,simprocAttr,tte]
 rw [hkc]
 refine za (fun h2=>?_) fun h2=>?_
 ·have hv:ownR ts e l=(0,9):=by rw [hv1,if_pos h2]
  exact zD trivial (by rw [<-hr,hv];rfl) (by simp [ends])
 have hcnt:yw e=true:=by simpa using h2
 have hv2:ownR ts e l=if (e.op==5&&(decide (e.col<0) || decide (e.col≥ts.length))) then (0,3)
  else if (decide (zt ts e l<1) || decide (zt ts e l>3)) then (0,4) else (zt ts e l,0):=by rw [hv1,if_neg (by rw [h2];decide)]
 have hcount:=uh hcnt
 obtain ⟨n,n1,n2,n3⟩:=op_cases ho2.1
 have hf:yo e.op=opTab.getD n default:=by rw [yo,ho2.1,if_pos rfl,opAt,n3,Int.toNat_natCast]
 have hkt:=kids_tab0 n (by simpa using n1)
 rw [hf] at hcount
 generalize hO:opTab.getD n default=o at hkt hcount
 have c26:e.op=26->l.length=3:=by omega
 have c27:e.op=27->l.length=2:=by omega
 have cE:isOp e.op=true->5<e.op->0<l.length:=by omega
 refine za (fun h3=>?_) fun h3=>?_
 ·have h3':e.op=5:=by simpa using h3
  refine za (fun h4=>?_) fun h4=>?_
  ·have hv:ownR ts e l=(0,3):=by rw [hv2,h3,h4];rfl
   exact zD trivial (by rw [<-hr,hv];rfl) (by simp [ends])
  refine za (fun h5=>?_) fun h5=>?_
  ·have hv:ownR ts e l=(0,3):=by rw [hv2,h3,h4,h5];rfl
   exact zD trivial (by rw [<-hr,hv];rfl) (by simp [ends])
  have hv3:ownR ts e l=if (decide (zt ts e l<1) || decide (zt ts e l>3)) then (0,4) else (zt ts e l,0):=by rw [hv2,h3,h4,h5];rfl
  have hcol:0<=e.col/\e.col<ts.length:=by simp only [decide_eq_false_iff_not] at h4 h5;omega
  refine zd [[1],[0,0,0,0,0,6],[1]] [] (c_result ts e l (by omega) (fun _=>hcol) c26 c27 cE ho2.1) ?_
  simp -implicitDefEqProofs only [↓zb,push_cast,simprocAttr,tte]
  refine za (fun r1=>?_) fun r1=>?_
  ·have hv:ownR ts e l=(0,4):=by rw [hv3,r1];rfl
   exact zD trivial (by rw [<-hr,hv];rfl) (by simp [ends])
  refine za (fun r2=>?_) fun r2=>?_
  ·have hv:ownR ts e l=(0,4):=by rw [hv3,r2,Bool.or_true];rfl
   exact zD trivial (by rw [<-hr,hv];rfl) (by simp [ends])
  have hv:ownR ts e l=(zt ts e l,0):=by rw [hv3,r1,r2];rfl
  exact zD trivial (by rw [<-hr,hv];rfl) (by simp [ends])
 have h3': ¬e.op=5:=by simpa using h3
 have hv3:ownR ts e l=if (decide (zt ts e l<1) || decide (zt ts e l>3)) then (0,4) else (zt ts e l,0):=by rw [hv2,h3];rfl
 refine zd [[1],[0,0,0,0,0,6],[1]] [] (c_result ts e l (by omega) (fun h=>absurd h h3') c26 c27 cE ho2.1) ?_
 simp -implicitDefEqProofs only [↓zb,push_cast,simprocAttr,tte]
 refine za (fun r1=>?_) fun r1=>?_
 ·have hv:ownR ts e l=(0,4):=by rw [hv3,r1];rfl
  exact zD trivial (by rw [<-hr,hv];rfl) (by simp [ends])
 refine za (fun r2=>?_) fun r2=>?_
 ·have hv:ownR ts e l=(0,4):=by rw [hv3,r2,Bool.or_true];rfl
  exact zD trivial (by rw [<-hr,hv];rfl) (by simp [ends])
 have hv:ownR ts e l=(zt ts e l,0):=by rw [hv3,r1,r2];rfl
 exact zD trivial (by rw [<-hr,hv];rfl) (by simp [ends])
theorem kG (ts:List Int) (hts:ts.length<=1000000000) (e:Ex) (ho:Ok12 e):ACall Tryz.prog 17 [ints ts,aE e] [] (zF (zL (ownM ts) e)) []:=by
 refine zp mixed ttok Tryz.func17 Tryz.ntmps17 Tryz.results17 ?_
 generalize hr:zF (zL (ownM ts) e)=R
 simp -implicitDefEqProofs only [argT,↓zb,push_cast,simprocAttr,tte]
 refine zd [[0,0,0,0,0,6]] [] (qZ e ho) ?_
 simp -implicitDefEqProofs only [↓zb,push_cast,simprocAttr,tte]
 refine za (fun h=>?_) fun h=>?_
 ·have hv:zL (ownM ts) e=(0,8):=if_pos (of_decide_eq_true h)
  exact zD trivial (by rw [<-hr,hv];rfl) (by simp [ends])
 have h': ¬x7 e>200:=of_decide_eq_false h
 refine zd [[0,0,0,0,0,6]] [] (c_rdepth e ho) ?_
 simp -implicitDefEqProofs only [↓zb,push_cast,simprocAttr,tte]
 refine za (fun g=>?_) fun g=>?_
 ·have hv:zL (ownM ts) e=(0,13):=by rw [zL,if_neg h',if_pos (of_decide_eq_true g)]
  exact zD trivial (by rw [<-hr,hv];rfl) (by simp [ends])
 have g': ¬yU e>24:=of_decide_eq_false g
 refine zd [[1],[0,0,0,0,0,6]] [] (c_typed ts hts e ho) ?_
 have hv:zL (ownM ts) e=typG (ownR ts) e:=by rw [zL,if_neg h',if_neg g',typ_eq]
 simp -implicitDefEqProofs only [zF,↓zb,push_cast,simprocAttr,tte]
 exact zD trivial (by rw [<-hr,hv];rfl) (by simp [ends])
end
section
open Go.Am
attribute [local simp, local push_cast] num boo str ints aV aTab zA aS aT aC zV zF aFk vT
def rS (w:ByteArray):List D:=[.lit (.string w)]
attribute [local simp, local push_cast] rS
theorem c_reserved:ACall Tryz.prog 80 [] [] (.d (.sl 1 (ze rS words))) []:=by
 refine zp mixed ttok Tryz.func80 Tryz.ntmps80 Tryz.results80 ?_
 generalize hr:A.d (.sl 1 (ze rS words))=R
 simp -implicitDefEqProofs only [argT,↓zb,push_cast,simprocAttr,tte]
 refine zr [1] rfl (by simp) (by simp [zc]<;>omega) ?_ (by first | rfl | simp [ends] | (subst_vars;simp [ends])) (by simp [ends]) (by simp [ends])
 exact hr
def goodR (s:ByteArray):Bool:=(wD s).all fun c=> !badM c
def vA (s:ByteArray):Bool:=(((decide (1<=s.size)&&decide (s.size<=16))&&letM ((s.data.getD 0 0).toNat:Nat))&&goodR s)&& !(words.any fun w=>w.toList==s.toList)
theorem c_rname (s:ByteArray):ACall Tryz.prog 40 [str s] [] (boo (vA s)) []:=by
 refine zp mixed ttok Tryz.func40 Tryz.ntmps40 Tryz.results40 ?_
 generalize hr:boo (vA s)=R
 have hr0:=hr
 simp -implicitDefEqProofs only [argT,↓zb,push_cast,simprocAttr,tte]
 refine za (fun h1=>?_) fun h1=>?_
 ·have:vA s=false:=by rw [vA,decide_eq_false (by have:=of_decide_eq_true h1;omega)];rfl
  exact zk trivial (by rw [<-hr,this];rfl) (by simp [ends])
 have h1':1<=s.size:=by have:=of_decide_eq_false h1;omega
 refine za (fun h2=>?_) fun h2=>?_
 ·have:vA s=false:=by rw [vA,decide_eq_false (p:=s.size<=16) (by have:=of_decide_eq_true h2;omega),Bool.and_false];rfl
  exact zk trivial (by rw [<-hr,this];rfl) (by simp [ends])
 have h2':s.size<=16:=by have:=of_decide_eq_false h2;omega
 refine ⟨by omega,?_⟩
 refine za (fun h3=>?_) fun h3=>?_
 ·have:vA s=false:=by rw [vA,letM,decide_eq_false (p:=((s.data.getD 0 0).toNat:Int)≥97) (by have:=of_decide_eq_true h3;omega),Bool.false_and,Bool.and_false];rfl
  exact zk trivial (by rw [<-hr,this];rfl) (by simp [ends])
 refine ⟨by omega,?_⟩
 refine za (fun h4=>?_) fun h4=>?_
 ·have:vA s=false:=by rw [vA,letM,decide_eq_false (p:=((s.data.getD 0 0).toNat:Int)<=122) (by have:=of_decide_eq_true h4;omega),Bool.and_false,Bool.and_false];rfl
  exact zk trivial (by rw [<-hr,this];rfl) (by simp [ends])
 have hM:vA s=(goodR s&& !(words.any fun w=>w.toList==s.toList)):=by
  rw [vA,letM,decide_eq_true h1',decide_eq_true h2',decide_eq_true (p:=((s.data.getD 0 0).toNat:Int)≥97) (by have:=of_decide_eq_false h3;omega),decide_eq_true (p:=((s.data.getD 0 0).toNat:Int)<=122) (by have:=of_decide_eq_false h4;omega)];rfl
 clear h1 h2 h3 h4
 refine zn mixed ttok 3 [0] [] (by simp only [z6,ends,push_cast,simprocAttr];rfl) (by simp only [zB,zo,ends,push_cast,simprocAttr];rfl) s.size (fun n=>((wD s).drop n).all (fun c=> !badM c)=goodR s) (fun _=>[]) (fun _=>[]) rfl ?_ ?_
 ·exact Weak.keepL (by simp [cst,ends]) (by simp [cst,ends]) (by simp [cst,ends])
 intro I hI n hn hi
 simp -implicitDefEqProofs only [cst,↓zb,push_cast,simprocAttr,tte]
 refine za (fun k=>?_) fun k=>?_
 ·simp only [decide_eq_true_eq] at k
  have k':n<s.size:=by omega
  have hw:=zj k' (by omega)
  rw [zR _ n (by rw [wY];exact k'),List.all_cons,bytesI_getD s n k'] at hi
  have bad:badM ((s.data.getD n 0).toNat:Nat)=true->vA s=false:=fun h=>by rw [hM,<-hi,h];rfl
  have good:badM ((s.data.getD n 0).toNat:Nat)=false->((wD s).drop (n+1)).all (fun c=> !badM c)=goodR s:=fun h=>by rw [<-hi,h];rfl
  clear hM hr
  have bad':badM ((s.data.getD n 0).toNat:Nat)=true->boo false=R:=fun h=>by rw [<-hr0,bad h]
  clear bad hr0
  generalize (((s.data.getD n 0).toNat:Nat):Int)=c at bad' good ⊢
  refine ⟨(by first | omega | trivial | (refine ⟨?_,?_⟩<;>first | omega | trivial | (refine ⟨?_,?_⟩<;>first | omega | trivial | (refine ⟨?_,?_⟩<;>first | omega | trivial | rfl)))),?_⟩
  repeat' first
   | refine za (fun _=>?_) fun _=>?_
   | exact zk trivial (bad' (by simp only [badM,letM,Bool.and_eq_true,Bool.or_eq_true,Bool.not_eq_true',Bool.and_eq_false_iff,Bool.or_eq_false_iff,Bool.not_eq_false',decide_eq_true_eq,decide_eq_false_iff_not,bne_iff_ne,bne_eq_false_iff_eq,ne_eq] at *;omega)) (by simp [ends])
   | exact zl hI n rfl k' (good (by simp only [badM,letM,Bool.and_eq_true,Bool.or_eq_true,Bool.not_eq_true',Bool.and_eq_false_iff,Bool.or_eq_false_iff,Bool.not_eq_false',decide_eq_true_eq,decide_eq_false_iff_not,bne_iff_ne,bne_eq_false_iff_eq,ne_eq] at *;omega)) (by simp [hw,ends]) (by simp [hw,ends]) (by simp [hw,ends]) (by simp [hw,ends])
   | refine ⟨(by first | omega | trivial | (refine ⟨?_,?_⟩<;>first | omega | trivial | (refine ⟨?_,?_⟩<;>first | omega | trivial | (refine ⟨?_,?_⟩<;>first | omega | trivial | rfl)))),?_⟩
 simp only [decide_eq_false_iff_not] at k
 obtain rfl:n=s.size:=by omega
 rw [List.drop_eq_nil_of_le (by rw [wY];omega)] at hi
 have hM2:vA s= !(words.any fun w=>w.toList==s.toList):=by rw [hM,<-hi];rfl
 clear hM hI hi hn k I
 refine zd [] [] (c_reserved) ?_
 simp -implicitDefEqProofs only [↓zb,push_cast,simprocAttr,tte]
 generalize hwd:words=W at hM2
 have hWl:W.length=52:=by rw [<-hwd];rfl
 clear hwd
 refine zn mixed ttok 5 [0,4] [] (by simp only [z6,ends,push_cast,simprocAttr];rfl) (by simp only [zB,zo,ends,push_cast,simprocAttr];rfl) W.length (fun n=> ∀i,i<n->((W.getD i default).toList==s.toList)=false) (fun _=>[]) (fun _=>[]) (fun i h=>absurd h (Nat.not_lt_zero _)) ?_ ?_
 ·exact Weak.keepL (by simp [cst,ends]) (by simp [cst,ends]) (by simp [cst,ends])
 intro I hI n hn hi
 simp -implicitDefEqProofs only [cst,↓zb,push_cast,simprocAttr,tte]
 refine za (fun k=>?_) fun k=>?_
 ·simp only [decide_eq_true_eq] at k
  have k':n<W.length:=by omega
  have hw:=zj k' (by omega)
  refine ⟨(by first | omega | trivial | (refine ⟨?_,?_⟩<;>first | omega | trivial | (refine ⟨?_,?_⟩<;>first | omega | trivial | (refine ⟨?_,?_⟩<;>first | omega | trivial | rfl)))),?_⟩
  refine za (fun g=>?_) fun g=>?_
  ·have:(W.any fun w=>w.toList==s.toList)=true:=List.any_eq_true.2 ⟨_,zi k',g⟩
   exact zk trivial (by rw [<-hr0,hM2,this];rfl) (by simp [ends])
  ·exact zl hI n rfl k' (fun i h2=>if h3:i=n then by rw [h3];exact g else hi i (by omega)) (by simp [hw,ends]) (by simp [hw,ends]) (by simp [hw,ends]) (by simp [hw,ends])
 simp only [decide_eq_false_iff_not] at k
 obtain rfl:n=W.length:=by omega
 have:(W.any fun w=>w.toList==s.toList)=false:=by
  rw [List.any_eq_false]
  intro x hx
  obtain ⟨i,h1,rfl⟩:=vf hx
  rw [hi i h1];decide
 exact zk trivial (by rw [<-hr0,hM2,this];rfl) (by simp [ends])
theorem contains_iff (L p:List UInt8):Lib.contains L p=true ↔ ∃a b,L=a++(p++b):=by
 unfold Lib.contains
 rw [decide_eq_true_eq]
 rcases Lib.index_spec L p with ⟨h1,h2⟩ | ⟨i,h1,h2,h3,_⟩
 ·constructor
  ·intro h;omega
  ·rintro ⟨a,b,rfl⟩
   have:=h2 a.length (by simp)
   simp only [Lib.occAt,List.drop_left] at this
   rw [List.isPrefixOf_iff_prefix.2 (List.prefix_append p b)] at this
   cases this
 ·constructor
  ·intro _
   simp only [Lib.occAt] at h3
   have h4:=List.isPrefixOf_iff_prefix.1 h3
   obtain ⟨b,hb⟩:=h4
   exact ⟨L.take i,b,by rw [hb,List.take_append_drop]⟩
  ·intro _;omega
theorem cut32: ∀(w s:List UInt8) (x y:List UInt8),(32:UInt8) ∉ w->(32:UInt8) ∉ s->w++32::x=s++32::y->w=s
 | [],[],_,_,_,_,_=>rfl
 | [],c::s,_,_,_,hs,h=>by simp at h;exact absurd (by rw [h.1];simp) hs
 | c::w,[],_,_,hw,_,h=>by simp at h;exact absurd (by rw [h.1];simp) hw
 | c::w,d::s,x,y,hw,hs,h=>by
   simp only [List.cons_append,List.cons.injEq] at h
   rw [h.1,cut32 w s x y (fun hm=>hw (by simp [hm])) (fun hm=>hs (by simp [hm])) h.2]
theorem jump32: ∀(w a x y:List UInt8),(32:UInt8) ∉ w->w++32::x=a++32::y-> ∃c,a=w++c/\32::x=c++32::y
 | [],a,x,y,_,h=>⟨a,rfl,h⟩
 | c::w,[],x,y,hw,h=>by simp at h;exact absurd (by rw [h.1];simp) hw
 | c::w,d::a,x,y,hw,h=>by
   simp only [List.cons_append,List.cons.injEq] at h
   obtain ⟨c',h1,h2⟩:=jump32 w a x y (fun hm=>hw (by simp [hm])) h.2
   exact ⟨c',by rw [h.1,h1];rfl,h2⟩
def qL:List (List UInt8)->List UInt8
 | []=>[]
 | w::ws=>w++32::qL ws
theorem in_join (s:List UInt8) (hs:(32:UInt8) ∉ s): ∀ws:List (List UInt8),(∀w∈ws,(32:UInt8) ∉ w)->((∃a b,32::qL ws=a++((32::(s++[32]))++b)) ↔ s∈ws)
 | [],_=>by
   constructor
   ·rintro ⟨a,b,h⟩
    have:=congrArg List.length h
    simp [qL] at this
    omega
   ·intro h;simp at h
 | w::ws,hw=>by
   have hw0:(32:UInt8) ∉ w:=hw w (by simp)
   have ih:=in_join s hs ws (fun v hv=>hw v (by simp [hv]))
   constructor
   ·rintro ⟨a,b,h⟩
    cases a with
    | nil=>
      simp only [qL,List.nil_append,List.cons_append,List.cons.injEq,true_and,List.append_assoc] at h
      have:=cut32 w s _ _ hw0 hs h
      simp [this]
    | cons x a=>
      simp only [qL,List.cons_append,List.cons.injEq] at h
      obtain ⟨c,h1,h2⟩:=jump32 w a _ _ hw0 h.2
      exact List.mem_cons_of_mem _ (ih.1 ⟨c,b,by rw [h2];rfl⟩)
   ·intro h
    rcases List.mem_cons.1 h with rfl | h
    ·exact ⟨[],qL ws,by simp [qL]⟩
    ·obtain ⟨a,b,h2⟩:=ih.2 h
     exact ⟨32::(w++a),b,by rw [qL,h2];simp⟩
theorem resv_join:resv.data.toList=32::qL (words.map (·.data.toList)):=by decide
theorem words_32: ∀w∈words.map (·.data.toList),(32:UInt8) ∉ w:=by decide
theorem hasW_eq (s:ByteArray) (hg:goodR s=true):hasW s=words.any fun w=>w.toList==s.toList:=by
 have h32:(32:UInt8) ∉ s.data.toList:=by
  intro hm
  have:=List.all_eq_true.1 hg (((32:UInt8).toNat:Nat):Int) (List.mem_map.2 ⟨32,hm,rfl⟩)
  revert this;decide
 rw [Bool.eq_iff_iff,hasW,contains_iff,resv_join]
 have hd:(⟨#[32]⟩++s++⟨#[32]⟩:ByteArray).data.toList=32::(s.data.toList++[32]):=by
  simp [ByteArray.data_append]
 rw [hd]
 refine (in_join s.data.toList h32 _ words_32).trans ?_
 simp only [List.mem_map,List.any_eq_true,beq_iff_eq,ByteArray.toList_eq]
theorem name_eq (s:ByteArray):vA s=w8 s:=by
 have h0:s.data[0]?.getD 0=s.data.getD 0 0:=by rw [Array.getD_eq_getD_getElem?]
 have h1:(!(s.toList==[] || decide (s.size>16)))=(decide (1<=s.size)&&decide (s.size<=16)):=by
  have:(s.toList==[])=decide (s.size=0):=by
   rw [Bool.eq_iff_iff,ByteArray.toList_eq]
   simp only [beq_iff_eq,decide_eq_true_eq]
   rw [<-List.length_eq_zero_iff,Array.length_toList];rfl
  rw [this,Bool.eq_iff_iff]
  simp only [Bool.not_eq_true',Bool.or_eq_false_iff,Bool.and_eq_true,decide_eq_false_iff_not,decide_eq_true_eq]
  omega
 unfold vA w8
 rw [h0,h1,show ((wD s).all fun c=> !badM c)=goodR s from rfl]
 by_cases hg:goodR s=true
 ·rw [hasW_eq s hg,hg,Bool.and_true,Bool.and_true]
 ·have:goodR s=false:=by simpa using hg
  rw [this];simp
theorem c_rname2 (s:ByteArray):ACall Tryz.prog 40 [str s] [] (boo (w8 s)) []:=by rw [<-name_eq];exact c_rname s
end
section
open Go.Am
attribute [local simp, local push_cast] num boo str ints aV aTab zA aS aT aC zV zF aFk vT
theorem okKey_false {c:Nat} {l:List Int} {n:Nat} (h:n<l.length) (hn:okAt c l n=false):yD c l=false:=by rw [yD,xY h hn];rfl
theorem c_listed (t:Tbl) (l:List Int) (hl:l.length<=1000000000):ACall Tryz.prog 82 [aT t,ints l] [] (boo (yD t.columns.length l)) []:=by
 refine zp mixed ttok Tryz.func82 Tryz.ntmps82 Tryz.results82 ?_
 generalize hr:boo (yD t.columns.length l)=R
 simp -implicitDefEqProofs only [argT,↓zb,push_cast,simprocAttr,tte]
 refine zn mixed ttok 5 [1,2] [2] (by simp only [z6,ends,push_cast,simprocAttr];rfl) (by simp only [zB,zo,ends,push_cast,simprocAttr];rfl) l.length (fun n=> ∀i,i<n->okAt t.columns.length l i=true) (fun _=>[]) (fun _=>[]) (fun i h=>absurd h (Nat.not_lt_zero _)) ?_ ?_
 ·exact Weak.keepL (by simp [cst,ends]) (by simp [cst,ends]) (by simp [cst,ends])
 intro I hI n hn hi
 simp -implicitDefEqProofs only [cst,↓zb,push_cast,simprocAttr,tte]
 refine za (fun h=>?_) fun h=>?_
 ·simp only [decide_eq_true_eq] at h
  have h':n<l.length:=by omega
  have hw:=zj h' (by omega)
  have hbad:okAt t.columns.length l n=false->boo false=R:=fun hb=>by rw [<-hr,okKey_false h' hb]
  refine ⟨(by first | omega | trivial | (refine ⟨?_,?_⟩<;>first | omega | trivial | (refine ⟨?_,?_⟩<;>first | omega | trivial | (refine ⟨?_,?_⟩<;>first | omega | trivial | rfl)))),?_⟩
  refine za (fun g1=>?_) fun g1=>?_
  ·refine ⟨zg (by kernel_rfl),?_⟩
   exact zk trivial (hbad (by rw [okAt,decide_eq_false (by have:=of_decide_eq_true g1;omega)];rfl)) (by simp [ends])
  refine ⟨(by first | omega | trivial | (refine ⟨?_,?_⟩<;>first | omega | trivial | (refine ⟨?_,?_⟩<;>first | omega | trivial | (refine ⟨?_,?_⟩<;>first | omega | trivial | rfl)))),zg (by kernel_rfl),?_⟩
  refine za (fun g2=>?_) fun g2=>?_
  ·exact zk trivial (hbad (by rw [okAt,decide_eq_false (p:=l.getD n default<t.columns.length) (by have:=of_decide_eq_true g2;omega),Bool.and_false];rfl)) (by simp [ends])
  have hin:(decide (0<=l.getD n default)&&decide (l.getD n default<t.columns.length))=true:=by
   have:=of_decide_eq_false g1;have:=of_decide_eq_false g2
   simp only [Bool.and_eq_true,decide_eq_true_eq];omega
  refine zn mixed ttok 6 [1,2,5] [2] (by simp only [z6,ends,push_cast,simprocAttr];rfl) (by simp only [zB,zo,ends,push_cast,simprocAttr];rfl) n (fun k=> ∀i,i<k->l.getD i default≠l.getD n default) (fun _=>[]) (fun _=>[]) (fun i h=>absurd h (Nat.not_lt_zero _)) ?_ ?_
  ·exact Weak.keepL (by simp [cst,ends]) (by simp [cst,ends]) (by simp [cst,ends])
  intro J hJ k hk hki
  simp -implicitDefEqProofs only [cst,↓zb,push_cast,simprocAttr,tte]
  refine za (fun q=>?_) fun q=>?_
  ·simp only [decide_eq_true_eq] at q
   have q':k<n:=by omega
   have hwk:=zj q' (by omega)
   refine ⟨(by first | omega | trivial | (refine ⟨?_,?_⟩<;>first | omega | trivial | (refine ⟨?_,?_⟩<;>first | omega | trivial | (refine ⟨?_,?_⟩<;>first | omega | trivial | rfl)))),(by first | omega | trivial | (refine ⟨?_,?_⟩<;>first | omega | trivial | (refine ⟨?_,?_⟩<;>first | omega | trivial | (refine ⟨?_,?_⟩<;>first | omega | trivial | rfl)))),zg (by kernel_rfl),?_⟩
   refine za (fun e=>?_) fun e=>?_
   ·have he:l.getD k default=l.getD n default:=by simpa using e
    exact zk trivial (hbad (by
     have:(l.take n).contains (l.getD n default)=true:=by
      rw [<-he,List.contains_iff_mem]
      have hk2:k<(l.take n).length:=by simp;omega
      have:=List.getElem_mem hk2
      rw [List.getElem_take] at this
      rwa [List.getD_eq_getElem?_getD,List.getElem?_eq_getElem (by omega)]
     rw [okAt,this,Bool.not_true,Bool.and_false])) (by simp [ends])
   ·have he:l.getD k default≠l.getD n default:=by simpa using e
    exact zl hJ k rfl q' (fun i h2=>if h3:i=k then by rw [h3];exact he else hki i (by omega)) (by simp [hwk,ends]) (by simp [hwk,ends]) (by simp [hwk,ends]) (by simp [hwk,ends])
  ·simp only [decide_eq_false_iff_not] at q
   obtain rfl:k=n:=by omega
   have hok:okAt t.columns.length l k=true:=by
    rw [okAt,hin,Bool.true_and,Bool.not_eq_true',<-Bool.not_eq_true,List.contains_iff_mem]
    intro hm
    obtain ⟨i,hi3,he⟩:=List.getElem_of_mem hm
    have hi4:i<k:=by simp at hi3;omega
    rw [List.getElem_take] at he
    refine hki i hi4 ?_
    rw [<-he,List.getD_eq_getElem?_getD,List.getElem?_eq_getElem (by omega)];rfl
   exact zl hI k rfl h' (fun i h2=>if h3:i=k then by rw [h3];exact hok else hi i (by omega)) (by simp [hw,ends]) (by simp [hw,ends]) (by simp [hw,ends]) (by simp [hw,ends])
 ·simp only [decide_eq_false_iff_not] at h
  obtain rfl:n=l.length:=by omega
  have:yD t.columns.length l=decide ((l.length:Int)>0):=by
   rw [yD,all_range.2 hi,Bool.true_and]
   cases l<;>simp
  exact zk trivial (by rw [<-hr,this];rfl) (by simp [ends])
theorem qY (s:Sch) (i j:Nat) (hs:s.length<=1000) (hi:i<s.length) (hj:j<(s.getD i default).foreigns.length):ACall Tryz.prog 43 [aS s,num i,num j] [] (zV (byT s ((s.getD i default).foreigns.getD j default).table)) []:=by
 refine zp mixed ttok Tryz.func43 Tryz.ntmps43 Tryz.results43 ?_
 generalize hr:zV (byT s ((s.getD i default).foreigns.getD j default).table)=R
 simp -implicitDefEqProofs only [argT,↓zb,push_cast,simprocAttr,tte]
 refine za (fun h=>absurd (of_decide_eq_true h) (by omega)) fun _=>?_
 refine za (fun h=>absurd (of_decide_eq_true h) (by omega)) fun _=>?_
 refine za (fun h=>absurd (of_decide_eq_true h) (by omega)) fun _=>?_
 refine ⟨by omega,?_⟩
 refine za (fun h=>absurd (of_decide_eq_true h) (by omega)) fun _=>?_
 refine ⟨by omega,by omega,?_⟩
 refine zd [[6],[0]] [] (c_rfind s ((s.getD i default).foreigns.getD j default).table (by omega)) ?_
 simp -implicitDefEqProofs only [↓zb,push_cast,simprocAttr,tte]
 refine ⟨zg (by kernel_rfl),?_⟩
 exact zD trivial (by rw [<-hr];rfl) (by simp [ends])
theorem fidx_self {α:Type} [Inhabited α] (p:α->Bool): ∀(l:List α) (i:Nat),i<l.length->p (l.getD i default)=true->0<=fidx p l/\fidx p l<=i
 | [],i,h,_=>by simp at h
 | x::l,0,_,hp=>by simp at hp;simp [fidx,hp]
 | x::l,i+1,h,hp=>by
   have:=fidx_self p l i (by simpa using h) (by simpa using hp)
   simp only [fidx]
   split
   ·omega
   ·rw [if_neg (by omega)];omega
theorem byC_self (l:List Col) (i:Nat) (h:i<l.length):(wI (byC l (l.getD i default).name)<i) ↔ wI (byC l (l.getD i default).name)≠i:=by
 have:0<=byC l (l.getD i default).name/\byC l (l.getD i default).name<=i:=fidx_self (fun t:Col=>t.name.toList==(l.getD i default).name.toList) l i h (by simp)
 unfold wI
 rw [if_neg (by omega)]
 omega
theorem byT_self (l:Sch) (i:Nat) (h:i<l.length):(wI (byT l (l.getD i default).name)<i) ↔ wI (byT l (l.getD i default).name)≠i:=by
 have:0<=byT l (l.getD i default).name/\byT l (l.getD i default).name<=i:=fidx_self (fun t:Tbl=>t.name.toList==(l.getD i default).name.toList) l i h (by simp)
 unfold wI
 rw [if_neg (by omega)]
 omega
theorem c_rtable (t:Tbl) (ht:SmallT t):ACall Tryz.prog 42 [aT t] [] (num (yE t)) []:=by
 refine zp mixed ttok Tryz.func42 Tryz.ntmps42 Tryz.results42 ?_
 generalize hr:num (yE t)=R
 simp -implicitDefEqProofs only [argT,↓zb,push_cast,simprocAttr,tte]
 have hcl:=ht.cols
 have hkl:=ht.chk
 have hpl:=ht.prim
 have hul:=ht.uniq
 have hfl:=ht.fors
 have hbig:bigT t=true->retx (some (True,A.d (D.lit (Value.int .i64 8)))) ⟨[],[(1,vT t)]⟩ R []:=fun hb=>zk trivial (by rw [<-hr,yE,if_pos hb];rfl) (by simp [ends])
 simp only [vT] at hbig
 refine za (fun h1=>?_) fun h1=>?_
 ·exact hbig (by rw [bigT,h1];simp only [Bool.true_or])
 refine za (fun h2=>?_) fun h2=>?_
 ·exact hbig (by rw [bigT,h2];simp only [Bool.or_true,Bool.true_or])
 refine za (fun h3=>?_) fun h3=>?_
 ·exact hbig (by rw [bigT,h3];simp only [Bool.or_true,Bool.true_or])
 refine za (fun h4=>?_) fun h4=>?_
 ·exact hbig (by rw [bigT,h4];simp only [Bool.or_true])
 clear hbig
 have hb: ¬bigT t=true:=by rw [bigT,h1,h2,h3,h4];decide
 refine za (fun h5=>?_) fun h5=>?_
 ·have h5':t.columns.length=0:=by simpa using h5
  exact zk trivial (by rw [<-hr,yE,if_neg hb,if_pos h5'];rfl) (by simp [ends])
 have h5': ¬t.columns.length=0:=by simpa using h5
 have hM:yE t=if vj (y9 t) t.columns.length≠0 then vj (y9 t) t.columns.length
  else if xe t≠0 then xe t else ferr (yR t) t.checks:=by rw [yE,if_neg hb,if_neg h5']
 clear h1 h2 h3 h4 h5
 refine zn mixed ttok 3 [1] [1] (by simp only [z6,ends,push_cast,simprocAttr];rfl) (by simp only [zB,zo,ends,push_cast,simprocAttr];rfl) t.columns.length (fun n=> ∀i,i<n->y9 t i=0) (fun _=>[]) (fun _=>[]) (fun i h=>absurd h (Nat.not_lt_zero _)) ?_ ?_
 ·exact Weak.keepL (by simp [cst,ends]) (by simp [cst,ends]) (by simp [cst,ends])
 intro I hI n hn hi
 simp -implicitDefEqProofs only [cst,↓zb,push_cast,simprocAttr,tte]
 refine za (fun h=>?_) fun h=>?_
 ·simp only [decide_eq_true_eq] at h
  have h':n<t.columns.length:=by omega
  have hw:=zj h' (by omega)
  have hE:y9 t n≠0->num (y9 t n)=R:=fun hne=>by
   have:=qQ h' hi hne
   rw [<-hr,hM,this,if_pos hne]
  refine ⟨(by first | omega | trivial | (refine ⟨?_,?_⟩<;>first | omega | trivial | (refine ⟨?_,?_⟩<;>first | omega | trivial | (refine ⟨?_,?_⟩<;>first | omega | trivial | rfl)))),?_⟩
  refine zd [[0]] [] (c_rname2 (t.columns.getD n default).name) ?_
  simp -implicitDefEqProofs only [↓zb,push_cast,simprocAttr,tte]
  refine za (fun g1=>?_) fun g1=>?_
  ·have hc:y9 t n=3:=if_pos g1
   exact zk trivial (by rw [<-hE (by rw [hc];decide),hc];rfl) (by simp [ends])
  refine zd [[0,3,1,1,2,6],[0]] [] (c_rcolumn t (t.columns.getD n default).name (by omega)) ?_
  simp -implicitDefEqProofs only [↓zb,push_cast,simprocAttr,tte]
  refine za (fun g2=>?_) fun g2=>?_
  ·have g2':wI (byC t.columns (t.columns.getD n default).name)≠n:=by simpa [wI] using g2
   have hc:y9 t n=5:=by rw [y9,if_neg (by rw [g1];decide),if_pos ((byC_self t.columns n h').2 g2')]
   exact zk trivial (by rw [<-hE (by rw [hc];decide),hc];rfl) (by simp [ends])
  have g2': ¬wI (byC t.columns (t.columns.getD n default).name)≠n:=by simpa [wI] using g2
  have hcB:y9 t n=if wi (t.columns.getD n default).type then 4 else 0:=by
   rw [y9,if_neg (by rw [g1];decide),if_neg (fun q=>g2' ((byC_self t.columns n h').1 q))]
  have hbt:wi (t.columns.getD n default).type=(decide ((t.columns.getD n default).type<1) || decide ((t.columns.getD n default).type>3)):=by
   rw [Bool.eq_iff_iff]
   simp only [wi,Bool.and_eq_true,Bool.or_eq_true,bne_iff_ne,ne_eq,decide_eq_true_eq]
   omega
  have hinv:wi (t.columns.getD n default).type=false-> ∀i,i<n+1->y9 t i=0:=fun hb i h2=>if h3:i=n then by rw [h3,hcB,hb];rfl else hi i (by omega)
  refine za (fun g3=>?_) fun g3=>?_
  ·have hc:y9 t n=4:=by rw [hcB,hbt,g3];rfl
   exact zk trivial (by rw [<-hE (by rw [hc];decide),hc];rfl) (by simp [ends])
  refine za (fun g4=>?_) fun g4=>?_
  ·have hc:y9 t n=4:=by rw [hcB,hbt,g4,Bool.or_true];rfl
   exact zk trivial (by rw [<-hE (by rw [hc];decide),hc];rfl) (by simp [ends])
  exact zl hI n rfl h' (hinv (by rw [hbt,g3,g4];rfl)) (by simp [hw,ends]) (by simp [hw,ends]) (by simp [hw,ends]) (by simp [hw,ends])
 simp only [decide_eq_false_iff_not] at h
 obtain rfl:n=t.columns.length:=by omega
 clear hI
 have hM2:yE t=if xe t≠0 then xe t else ferr (yR t) t.checks:=by rw [hM,wS hi,if_neg (by decide)]
 clear hM h hi hn I
 refine zd [[0,3,1,1,2,6],[1]] [] (c_listed t t.primary (by omega)) ?_
 simp -implicitDefEqProofs only [↓zb,push_cast,simprocAttr,tte]
 refine za (fun p1=>?_) fun p1=>?_
 ·have p1':yD t.columns.length t.primary=false:=by simpa using p1
  have hk:xe t=6:=by rw [xe,p1'];rfl
  exact zk trivial (by rw [<-hr,hM2,hk];rfl) (by simp [ends])
 have p1':yD t.columns.length t.primary=true:=by simpa using p1
 have hin:=jC p1'
 refine zn mixed ttok 7 [1] [1] (by simp only [z6,ends,push_cast,simprocAttr];rfl) (by simp only [zB,zo,ends,push_cast,simprocAttr];rfl) t.primary.length (fun n=> ∀i,i<n->vw t (t.primary.getD i default)=false) (fun _=>[]) (fun _=>[]) (fun i h=>absurd h (Nat.not_lt_zero _)) ?_ ?_
 ·exact Weak.keepL (by simp [cst,ends]) (by simp [cst,ends]) (by simp [cst,ends])
 intro I hI n hn hi
 simp -implicitDefEqProofs only [cst,↓zb,push_cast,simprocAttr,tte]
 refine za (fun h=>?_) fun h=>?_
 ·simp only [decide_eq_true_eq] at h
  have h':n<t.primary.length:=by omega
  have hw:=zj h' (by omega)
  have hic:=hin _ (zi h')
  obtain ⟨hc0,hc1⟩:=hic
  refine ⟨(by first | omega | trivial | (refine ⟨?_,?_⟩<;>first | omega | trivial | (refine ⟨?_,?_⟩<;>first | omega | trivial | (refine ⟨?_,?_⟩<;>first | omega | trivial | rfl)))),⟨hc0,hc1⟩,zg (by kernel_rfl),?_⟩
  refine za (fun g=>?_) fun g=>?_
  ·have hk:xe t=4:=by
    have:t.primary.any (vw t)=true:=List.any_eq_true.2 ⟨_,zi h',g⟩
    rw [xe,p1',this];rfl
   exact zk trivial (by rw [<-hr,hM2,hk];rfl) (by simp [ends])
  ·exact zl hI n rfl h' (fun i h2=>if h3:i=n then by rw [h3];exact g else hi i (by omega)) (by simp [hw,ends]) (by simp [hw,ends]) (by simp [hw,ends]) (by simp [hw,ends])
 simp only [decide_eq_false_iff_not] at h
 obtain rfl:n=t.primary.length:=by omega
 clear hI
 have hany:t.primary.any (vw t)=false:=by
  rw [List.any_eq_false];intro x hx
  obtain ⟨i,h1,rfl⟩:=vf hx
  rw [hi i h1];decide
 have hkM:xe t=if (yn t).all (yD t.columns.length) then 0 else 6:=by rw [xe,p1',hany];rfl
 have hbad:(∃l∈yn t,yD t.columns.length l=false)->num 6=R:=fun ⟨l,hl,hk⟩=>by
  have:(yn t).all (yD t.columns.length)=false:=List.all_eq_false.2 ⟨l,hl,by rw [hk];decide⟩
  rw [<-hr,hM2,hkM,this];rfl
 clear hi hn h I
 refine zn mixed ttok 8 [1] [1] (by simp only [z6,ends,push_cast,simprocAttr];rfl) (by simp only [zB,zo,ends,push_cast,simprocAttr];rfl) t.uniques.length (fun n=> ∀i,i<n->yD t.columns.length (t.uniques.getD i default)=true) (fun _=>[]) (fun _=>[]) (fun i h=>absurd h (Nat.not_lt_zero _)) ?_ ?_
 ·exact Weak.keepL (by simp [cst,ends]) (by simp [cst,ends]) (by simp [cst,ends])
 intro I hI n hn hi
 simp -implicitDefEqProofs only [cst,↓zb,push_cast,simprocAttr,tte]
 refine za (fun h=>?_) fun h=>?_
 ·simp only [decide_eq_true_eq] at h
  have h':n<t.uniques.length:=by omega
  have hw:=zj h' (by omega)
  have hlu:=ht.uniqs _ (zi h')
  refine ⟨(by first | omega | trivial | (refine ⟨?_,?_⟩<;>first | omega | trivial | (refine ⟨?_,?_⟩<;>first | omega | trivial | (refine ⟨?_,?_⟩<;>first | omega | trivial | rfl)))),?_⟩
  refine zd [[0,3,1,1,2,6],[1]] [] (c_listed t (t.uniques.getD n default) (by omega)) ?_
  simp -implicitDefEqProofs only [↓zb,push_cast,simprocAttr,tte]
  refine ⟨zg (by kernel_rfl),?_⟩
  refine za (fun g=>?_) fun g=>?_
  ·have g':yD t.columns.length (t.uniques.getD n default)=false:=by simpa using g
   exact zk trivial (hbad ⟨_,List.mem_append.2 (.inl (zi h')),g'⟩) (by simp [ends])
  ·have g':yD t.columns.length (t.uniques.getD n default)=true:=by simpa using g
   exact zl hI n rfl h' (fun i h2=>if h3:i=n then by rw [h3];exact g' else hi i (by omega)) (by simp [hw,ends]) (by simp [hw,ends]) (by simp [hw,ends]) (by simp [hw,ends])
 simp only [decide_eq_false_iff_not] at h
 obtain rfl:n=t.uniques.length:=by omega
 clear hI
 have hU:=hi
 clear hi hn h I
 refine zn mixed ttok 9 [1] [1] (by simp only [z6,ends,push_cast,simprocAttr];rfl) (by simp only [zB,zo,ends,push_cast,simprocAttr];rfl) t.foreigns.length (fun n=> ∀i,i<n->yD t.columns.length (t.foreigns.getD i default).columns=true) (fun _=>[]) (fun _=>[]) (fun i h=>absurd h (Nat.not_lt_zero _)) ?_ ?_
 ·exact Weak.keepL (by simp [cst,ends]) (by simp [cst,ends]) (by simp [cst,ends])
 intro I hI n hn hi
 simp -implicitDefEqProofs only [cst,↓zb,push_cast,simprocAttr,tte]
 refine za (fun h=>?_) fun h=>?_
 ·simp only [decide_eq_true_eq] at h
  have h':n<t.foreigns.length:=by omega
  have hw:=zj h' (by omega)
  have hlu:=ht.forss _ (zi h')
  refine ⟨(by first | omega | trivial | (refine ⟨?_,?_⟩<;>first | omega | trivial | (refine ⟨?_,?_⟩<;>first | omega | trivial | (refine ⟨?_,?_⟩<;>first | omega | trivial | rfl)))),?_⟩
  refine zd [[0,3,1,1,2,6],[1]] [] (c_listed t (t.foreigns.getD n default).columns (by omega)) ?_
  simp -implicitDefEqProofs only [↓zb,push_cast,simprocAttr,tte]
  refine ⟨zg (by kernel_rfl),?_⟩
  refine za (fun g=>?_) fun g=>?_
  ·have g':yD t.columns.length (t.foreigns.getD n default).columns=false:=by simpa using g
   exact zk trivial (hbad ⟨_,List.mem_append.2 (.inr (List.mem_map.2 ⟨_,zi h',rfl⟩)),g'⟩) (by simp [ends])
  ·have g':yD t.columns.length (t.foreigns.getD n default).columns=true:=by simpa using g
   exact zl hI n rfl h' (fun i h2=>if h3:i=n then by rw [h3];exact g' else hi i (by omega)) (by simp [hw,ends]) (by simp [hw,ends]) (by simp [hw,ends]) (by simp [hw,ends])
 simp only [decide_eq_false_iff_not] at h
 obtain rfl:n=t.foreigns.length:=by omega
 clear hI
 have hk0:xe t=0:=by
  have:(yn t).all (yD t.columns.length)=true:=by
   rw [List.all_eq_true]
   intro l hl
   rcases List.mem_append.1 hl with hl | hl
   ·obtain ⟨i,h1,rfl⟩:=vf hl;exact hU i h1
   ·obtain ⟨f,hf,rfl⟩:=List.mem_map.1 hl
    obtain ⟨i,h1,rfl⟩:=vf hf;exact hi i h1
  rw [hkM,this];rfl
 rw [hk0,if_neg (by decide)] at hM2
 clear hi hn h I hbad hkM hU
 refine zn mixed ttok 10 [1] [1] (by simp only [z6,ends,push_cast,simprocAttr];rfl) (by simp only [zB,zo,ends,push_cast,simprocAttr];rfl) t.checks.length (fun n=> ∀i,i<n->yR t (t.checks.getD i default)=0) (fun _=>[]) (fun _=>[]) (fun i h=>absurd h (Nat.not_lt_zero _)) ?_ ?_
 ·exact Weak.keepL (by simp [cst,ends]) (by simp [cst,ends]) (by simp [cst,ends])
 intro I hI n hn hi
 simp -implicitDefEqProofs only [cst,↓zb,push_cast,simprocAttr,tte]
 refine za (fun h=>?_) fun h=>?_
 ·simp only [decide_eq_true_eq] at h
  have h':n<t.checks.length:=by omega
  have hw:=zj h' (by omega)
  have hE:yR t (t.checks.getD n default)≠0->num (yR t (t.checks.getD n default))=R:=fun hne=>by
   have:=x5 (yR t) t.checks n h' hi hne
   rw [<-hr,hM2,this]
  have hl:(zX t).length<=1000000000:=by rw [zX,List.length_map];omega
  refine zd [[0,3,1,1,2,6]] [] (c_rtypes t (by omega)) ?_
  simp -implicitDefEqProofs only [↓zb,push_cast,simprocAttr,tte]
  refine ⟨(by first | omega | trivial | (refine ⟨?_,?_⟩<;>first | omega | trivial | (refine ⟨?_,?_⟩<;>first | omega | trivial | (refine ⟨?_,?_⟩<;>first | omega | trivial | rfl)))),?_⟩
  refine zd [[1],[0,0,0,0,0,6]] [] (kG (zX t) hl (t.checks.getD n default) (ht.chks _ (zi h'))) ?_
  simp -implicitDefEqProofs only [zF,↓zb,push_cast,simprocAttr,tte]
  refine ⟨zg (by kernel_rfl),?_⟩
  refine za (fun g1=>?_) fun g1=>?_
  ·have g1':(zL (ownM (zX t)) (t.checks.getD n default)).2≠0:=by simpa using g1
   have hc:yR t (t.checks.getD n default)=(zL (ownM (zX t)) (t.checks.getD n default)).2:=if_pos g1'
   exact zk trivial (by rw [<-hE (by rw [hc];exact g1'),hc];rfl) (by simp [ends])
  have g1': ¬(zL (ownM (zX t)) (t.checks.getD n default)).2≠0:=by simpa using g1
  refine za (fun g2=>?_) fun g2=>?_
  ·have g2':(zL (ownM (zX t)) (t.checks.getD n default)).1≠2:=by simpa using g2
   have hc:yR t (t.checks.getD n default)=4:=by rw [yR,if_neg g1',if_pos g2']
   exact zk trivial (by rw [<-hE (by rw [hc];decide),hc];rfl) (by simp [ends])
  have g2': ¬(zL (ownM (zX t)) (t.checks.getD n default)).1≠2:=by simpa using g2
  have hc:yR t (t.checks.getD n default)=0:=by rw [yR,if_neg g1',if_neg g2']
  exact zl hI n rfl h' (fun i h2=>if h3:i=n then by rw [h3];exact hc else hi i (by omega)) (by simp [hw,ends]) (by simp [hw,ends]) (by simp [hw,ends]) (by simp [hw,ends])
 simp only [decide_eq_false_iff_not] at h
 obtain rfl:n=t.checks.length:=by omega
 exact zk trivial (by rw [<-hr,hM2,yt _ _ hi];rfl) (by simp [ends])
end
section
open Go.Am
attribute [local simp, local push_cast] num boo str ints aV aTab zA aS aT aC zV zF aFk vT
def rB (b:Bool):List D:=[.lit (.bool b)]
attribute [local simp, local push_cast] rB
def j0 (s:Sch) (p:List Int):List Bool:=(List.range s.length).map fun i:Nat=>p.contains (i:Int)
theorem qT (s:Sch) (p:List Int):(j0 s p).length=s.length:=by simp [j0]
theorem doneL_get (s:Sch) (p:List Int) (i:Nat) (h:i<s.length):(j0 s p).getD i default=p.contains (i:Int):=by
 rw [j0,List.getD_eq_getElem?_getD,List.getElem?_map,List.getElem?_range h];rfl
theorem doneL_nil (s:Sch):j0 s []=List.replicate s.length false:=by
 apply List.ext_getElem?
 intro i
 simp only [j0,List.getElem?_map,List.getElem?_replicate]
 by_cases h:i<s.length
 ·rw [List.getElem?_range h,if_pos h];rfl
 ·rw [List.getElem?_eq_none (by simp;omega),if_neg h];rfl
theorem doneL_set (s:Sch) (p:List Int) (k:Int) (h0:0<=k) (h1:k<s.length):(j0 s p).set k.toNat true=j0 s (p++[k]):=by
 apply List.ext_getElem?
 intro i
 rw [List.getElem?_set,qT]
 by_cases hi:i<s.length
 ·simp only [j0,List.getElem?_map]
  rw [List.getElem?_range hi]
  by_cases hk:k.toNat=i
  ·rw [if_pos hk,if_pos (by omega)]
   have:k=(i:Int):=by omega
   simp [this]
  ·rw [if_neg hk]
   have: ¬(i:Int)=k:=by omega
   simp [this]
 ·rw [if_neg (by omega)]
  simp only [j0,List.getElem?_map]
  rw [List.getElem?_eq_none (by simp;omega)];rfl
def cst0 (kt:List (Nat×A)) (ts:Nat->List (Nat×A)) (os:Nat->List (Nat×Ob)) (n:Nat):SL:=⟨ts n++kt,os n⟩
theorem loop_count0 {P:Program} {tt:Types} (hm:P.follows .mixedOrders=true) (T':tt.ok P) {c:Code} {K:Exit->SL->Prop} {t:List (Nat×A)} {o:List (Nat×Ob)} {kt:List (Nat×A)}
 (keep:List Nat) (hk:z6 t keep=kt) (N:Nat) (Inv:Nat->Prop) (ts:Nat->List (Nat×A)) (os:Nat->List (Nat×Ob)) (h0:Inv 0)
 (hw:Weak (SL.mk t o).st (cst0 kt ts os 0).st)
 (step: ∀(I:{n:Nat // n<=N/\Inv n}->SL),(∀x,I x=cst0 kt ts os x.1)-> ∀(n:Nat) (hn:n<=N) (hi:Inv n),ev P tt c (ua I (fun x=>N-x.1) ⟨n,hn,hi⟩ K) (cst0 kt ts os n)):
 vZ P c K ⟨t,o⟩:=
 xk hm T' (fun x:{n:Nat // n<=N/\Inv n}=>cst0 kt ts os x.1) (fun x=>N-x.1) ⟨0,Nat.zero_le _,h0⟩ hw fun ⟨n,hn,hi⟩=>step _ (fun _=>rfl) n hn hi
theorem cnt_again0 {N:Nat} {Inv:Nat->Prop} {I:{n:Nat // n<=N/\Inv n}->SL} {kt:List (Nat×A)} {ts:Nat->List (Nat×A)} {os:Nat->List (Nat×Ob)} (hI: ∀x,I x=cst0 kt ts os x.1)
 (n:Nat) {x:{n:Nat // n<=N/\Inv n}} (hx:x.1=n) {K:Exit->SL->Prop} {t:List (Nat×A)} {o:List (Nat×Ob)} (h1:n<N) (h2:Inv (n+1))
 (hw:Weak (SL.mk t o).st (cst0 kt ts os (n+1)).st):ua I (fun x=>N-x.1) x K .normal ⟨t,o⟩:=by
 refine ⟨⟨n+1,h1,h2⟩,by show N-(n+1)<N-x.1;omega,?_⟩
 rw [hI]
 exact hw
def vv (s:Sch) (p:List Int):Nat->Int
 | 0=> -1
 | j+1=>if xM s p j then j else -1
theorem vv_pick {s:Sch} {p:List Int} {j:Nat} (hj:j<=s.length) (hji: ∀i,i+1<j->xM s p i=false) (h:j=s.length\/ ¬vv s p j<0):vv s p j=yC s p:=by
 have hg: ∀i,i<s.length->(List.range s.length).getD i default=i:=fun i hi=>wk hi
 cases j with
 | zero=>
   rcases h with h | h
   ·have:yC s p= -1:=by rw [yC,<-h];rfl
    rw [this];rfl
   ·exact absurd (show (-1:Int)<0 by decide) h
 | succ j=>
   by_cases hf:xM s p j=true
   ·have h1:vv s p (j+1)=j:=if_pos hf
    rw [h1,yC]
    symm
    refine x4 (xM s p) (List.range s.length) j (by simp;omega) (fun i hi=>?_) ?_
    ·rw [hg i (by omega)];exact hji i (by omega)
    ·rw [hg j (by omega)];exact hf
   ·have hf':xM s p j=false:=by simpa using hf
    have h1:vv s p (j+1)= -1:=if_neg hf
    rw [h1] at h ⊢
    have hj2:j+1=s.length:=h.resolve_right (by decide)
    rw [yC]
    symm
    refine yO (xM s p) (List.range s.length) fun i hi=>?_
    rw [List.length_range] at hi
    rw [hg i hi]
    by_cases hij:i=j
    ·rw [hij];exact hf'
    ·exact hji i (by omega)
def frK (s:Sch) (p:List Int) (j k:Nat):Bool:=(!p.contains (j:Int))&&((fks s j).take k).all fun f=>p.contains (byT s f.table)
theorem frK_zero (s:Sch) (p:List Int) (j:Nat):frK s p j 0= !p.contains (j:Int):=by rw [frK];simp
theorem frK_succ (s:Sch) (p:List Int) (j k:Nat) (h:k<(fks s j).length):frK s p j (k+1)=(frK s p j k&&p.contains (byT s ((fks s j).getD k default).table)):=by
 rw [frK,frK,zH _ _ h,List.all_append];simp [Bool.and_assoc]
theorem frK_all (s:Sch) (p:List Int) (j:Nat):frK s p j (fks s j).length=xM s p j:=by rw [frK,List.take_length];rfl
theorem setB_rows (l:List Bool) (k:Nat) (h:k<l.length):(ze rB l).set k (D.lit (Value.bool true)::List.drop 1 ((ze rB l).getD k []))=ze rB (l.set k true):=by
 have h1:(ze rB l).getD k []=rB (l.getD k default):=by
  simp only [ze,List.getD_eq_getElem?_getD,List.getElem?_map,List.getElem?_eq_getElem h];rfl
 rw [h1]
 show (ze rB l).set k (rB true)=_
 rw [ze,ze,List.map_set]
theorem c_rorder (s:Sch) (hs:s.length<=6) (hf: ∀t∈s,t.foreigns.length<=1000) (hall: ∀t∈s,∀f∈t.foreigns,0<=byT s f.table):
 ACall Tryz.prog 44 [aS s] [] (.tup [ints (xt s),num (xC s)]) []:=by
 refine zp mixed ttok Tryz.func44 Tryz.ntmps44 Tryz.results44 ?_
 generalize hr:A.tup [ints (xt s),num (xC s)]=R
 simp -implicitDefEqProofs only [argT,↓zb,push_cast,simprocAttr,tte]
 refine zn mixed ttok 4 [1] [1] (by simp only [z6,ends,push_cast,simprocAttr];rfl) (by simp only [zB,zo,ends,push_cast,simprocAttr];rfl) s.length (fun _=>True) (fun _=>[]) (fun _=>[]) trivial ?_ ?_
 ·exact Weak.keepL (by simp [cst,ends]) (by simp [cst,ends]) (by simp [cst,ends])
 intro I hI n hn hi
 simp -implicitDefEqProofs only [cst,↓zb,push_cast,simprocAttr,tte]
 refine za (fun h=>?_) fun h=>?_
 ·simp only [decide_eq_true_eq] at h
  have h':n<s.length:=by omega
  have hw:=zj h' (by omega)
  have hlF:=hf _ (zi h')
  have hallF:=hall _ (zi h')
  refine zn mixed ttok 5 [1,4] [1] (by simp only [z6,ends,push_cast,simprocAttr];rfl) (by simp only [zB,zo,ends,push_cast,simprocAttr];rfl) (s.getD n default).foreigns.length (fun _=>True) (fun _=>[]) (fun _=>[]) trivial ?_ ?_
  ·exact Weak.keepL (by simp [cst,ends]) (by simp [cst,ends]) (by simp [cst,ends])
  intro J hJ k hk _
  simp -implicitDefEqProofs only [cst,↓zb,push_cast,simprocAttr,tte]
  refine ⟨(by first | omega | trivial | (refine ⟨?_,?_⟩<;>first | omega | trivial | (refine ⟨?_,?_⟩<;>first | omega | trivial | (refine ⟨?_,?_⟩<;>first | omega | trivial | rfl)))),?_⟩
  refine za (fun g=>?_) fun g=>?_
  ·simp only [decide_eq_true_eq] at g
   have k':k<(s.getD n default).foreigns.length:=by omega
   have hwk:=zj k' (by omega)
   refine zd [[6],[0],[0]] [] (qY s n k (by omega) h' k') ?_
   simp -implicitDefEqProofs only [↓zb,push_cast,simprocAttr,tte]
   have hge:=hallF _ (zi k')
   refine za (fun h=>absurd h (by rw [decide_eq_true hge];decide)) fun _=>?_
   exact zl hJ k rfl k' trivial (by simp [hwk,ends]) (by simp [hwk,ends]) (by simp [hwk,ends]) (by simp [hwk,ends])
  ·exact zl hI n rfl h' trivial (by simp [hw,ends]) (by simp [hw,ends]) (by simp [hw,ends]) (by simp [hw,ends])
 clear hI hi hn I
 clear h
 refine ⟨⟨by omega,by omega,by omega⟩,?_⟩
 have hrep:List.replicate s.length [D.lit (Value.bool false)]=ze rB (j0 s []):=by rw [doneL_nil,ze,List.map_replicate];rfl
 rw [hrep]
 refine loop_count0 mixed ttok [1,8] (by simp only [z6,ends,ite_true,ite_false,reduceIte,Nat.reduceEqDiff,Nat.reduceLeDiff,Nat.reduceLT,Nat.reduceAdd,reduceCtorEq,num,boo,str,ints,aV,aTab,zA,aS,aT,aC,zV,zF,aFk,vT,rB];rfl) s.length (fun n=> ∀i,i<n->0<=yC s (picks s i)) (fun n=>[(9,.vec 500 n)])
  (fun n=>[(46,.vec 4 1 (ze rB (j0 s (picks s n))) 0),(500,.vec 3 1 (ze rI (picks s n)) 0),(1,.var [.d (.sl 6 (ze rT s))])]) (fun i h=>absurd h (Nat.not_lt_zero _)) ?_ ?_
 ·exact (Weak.nilL 9 500 3 1 rfl rfl).trans (Weak.keepL (by simp [cst0,ends]) (by simp [cst0,picks,ends]) (by simp [cst0,ends]))
 intro I hI n hn hi
 have hpl:=vD s n
 generalize hp:picks s n=p at hpl
 have hdl:=qT s p
 simp -implicitDefEqProofs only [cst0,hp,↓zb,push_cast,simprocAttr,tte]
 refine ⟨hpl.symm,?_⟩
 refine za (fun h=>?_) fun h=>?_
 ·simp only [decide_eq_true_eq] at h
  have h':n<s.length:=by omega
  refine zn mixed ttok 11 [1,8,9] [46,500,1] (by simp only [z6,ends,ite_true,ite_false,reduceIte,Nat.reduceEqDiff,Nat.reduceLeDiff,Nat.reduceLT,Nat.reduceAdd,reduceCtorEq,num,boo,str,ints,aV,aTab,zA,aS,aT,aC,zV,zF,aFk,vT,rB];rfl) (by simp only [zB,zo,ends,ite_true,ite_false,reduceIte,Nat.reduceEqDiff,Nat.reduceLeDiff,Nat.reduceLT,Nat.reduceAdd,reduceCtorEq,num,boo,str,ints,aV,aTab,zA,aS,aT,aC,zV,zF,aFk,vT,rB];rfl) s.length (fun j=> ∀i,i+1<j->xM s p i=false)
   (fun j=>[(10,.d (.lit (.int .i64 (vv s p j))))]) (fun _=>[]) (fun i h=>absurd h (by omega)) ?_ ?_
  ·exact Weak.keepL (by simp [cst,vv,ends]) (by simp [cst,ends]) (by simp [cst,ends])
  intro J hJ j hj hji
  simp -implicitDefEqProofs only [cst,↓zb,push_cast,simprocAttr,tte]
  have hFe:(s.getD j default).foreigns=fks s j:=rfl
  refine za (fun q1=>?_) fun q1=>?_
  ·simp only [decide_eq_true_eq] at q1
   have j':j<s.length:=by omega
   have hwj:=zj j' (by omega)
   refine za (fun q2=>?_) fun q2=>?_
   ·have q2':vv s p j<0:=of_decide_eq_true q2
    have hji2: ∀i,i+1<j+1->xM s p i=false:=fun i h2=>by
     by_cases h3:i+1=j
     ·subst h3
      simp only [vv] at q2'
      split at q2'
      ·omega
      ·rename_i hh;simpa using hh
     ·exact hji i (by omega)
    refine ⟨⟨by omega,hdl.symm⟩,by omega,hdl.symm,?_⟩
    have hlF:=hf _ (zi j')
    have hallF:=hall _ (zi j')
    have hd0:=doneL_get s p j j'
    rw [hd0,<-frK_zero s p j]
    rw [hFe] at hlF hallF
    refine zn mixed ttok 13 [1,8,9,10,11] [46,500,1] (by simp only [z6,ends,push_cast,simprocAttr];rfl) (by simp only [zB,zo,ends,push_cast,simprocAttr];rfl) (fks s j).length (fun _=>True) (fun k=>[(12,.d (.lit (.bool (frK s p j k))))]) (fun _=>[]) trivial ?_ ?_
    ·exact Weak.keepL (by simp [cst,ends]) (by simp [cst,ends]) (by simp [cst,ends])
    intro Q hQ k hk _
    simp -implicitDefEqProofs only [cst,hFe,↓zb,push_cast,simprocAttr,tte]
    refine ⟨(by first | omega | trivial | (refine ⟨?_,?_⟩<;>first | omega | trivial | (refine ⟨?_,?_⟩<;>first | omega | trivial | (refine ⟨?_,?_⟩<;>first | omega | trivial | rfl)))),?_⟩
    refine za (fun g=>?_) fun g=>?_
    ·simp only [decide_eq_true_eq] at g
     have k':k<(fks s j).length:=by omega
     have hwk:=zj k' (by omega)
     have hge:=hallF _ (zi k')
     have hlt:byT s ((fks s j).getD k default).table<s.length:=wg _ _
     refine zd [[6],[0],[0]] [] (qY s j k (by omega) j' k') ?_
     simp -implicitDefEqProofs only [hFe,↓zb,push_cast,simprocAttr,tte]
     have hd1:=doneL_get s p (byT s ((fks s j).getD k default).table).toNat (by omega)
     rw [Int.toNat_of_nonneg hge] at hd1
     simp only [if_neg (show¬0>byT s ((fks s j).getD k default).table by omega)]
     have hsk:=frK_succ s p j k k'
     refine za (fun f1=>?_) fun f1=>?_
     ·refine ⟨⟨⟨hge,hlt⟩,hdl.symm⟩,by omega,hdl.symm,?_⟩
      rw [hd1]
      exact zl hQ k rfl k' trivial (by simp [hwk,hsk,f1,ends]) (by simp [hwk,hsk,f1,ends]) (by simp [hwk,hsk,f1,ends]) (by simp [hwk,hsk,f1,ends])
     ·exact zl hQ k rfl k' trivial (by simp [hwk,hsk,f1,ends]) (by simp [hwk,hsk,f1,ends]) (by simp [hwk,hsk,f1,ends]) (by simp [hwk,hsk,f1,ends])
    ·simp only [decide_eq_false_iff_not] at g
     obtain rfl:k=(fks s j).length:=by omega
     rw [frK_all]
     refine za (fun f1=>?_) fun f1=>?_
     ·have hvs:vv s p (j+1)=j:=if_pos f1
      exact zl hJ j rfl j' hji2 (by simp [hwj,hvs,ends]) (by simp [hwj,hvs,ends]) (by simp [hwj,hvs,ends]) (by simp [hwj,hvs,ends])
     ·have hvs:vv s p (j+1)=vv s p j:=by
       have h1:vv s p (j+1)= -1:=by simp only [vv,f1];rfl
       rw [h1]
       cases j with
       | zero=>rfl
       | succ i=>simp only [vv] at q2' ⊢;split at q2'<;>first | omega | (rename_i hh;rw [if_neg hh])
      exact zl hJ j rfl j' hji2 (by simp [hwj,hvs,ends]) (by simp [hwj,hvs,ends]) (by simp [hwj,hvs,ends]) (by simp [hwj,hvs,ends])
   ·have hv:=vv_pick hj hji (.inr (of_decide_eq_false q2))
    have hE:yC s p<0->A.tup [ints [],num 7]=R:=fun hneg=>by
     have hno:orderOk s=false:=xY h' (by rw [hp];exact decide_eq_false (by omega))
     rw [<-hr,xt,xC,hno];rfl
    rw [hv]
    refine za (fun hneg=>?_) fun hneg=>?_
    ·have hR:=hE (of_decide_eq_true hneg)
     subst hR
     refine zm [[1],[0]] rfl (by simp) (by simp [zc]<;>omega) ?_ (by first | rfl | simp [ends] | (subst_vars;simp [ends])) (by simp [ends]) (by simp [ends])
     rfl
    have hge:0<=yC s p:=by have:=of_decide_eq_false hneg;omega
    have hlt:yC s p<s.length:=by have:=wg (xM s p) (List.range s.length);rw [List.length_range] at this;exact this
    have hinv: ∀i,i<n+1->0<=yC s (picks s i):=fun i h2=>if h3:i=n then by rw [h3,hp];exact hge else hi i (by omega)
    have hpk:picks s (n+1)=p++[yC s p]:=by rw [picks,hp]
    have hds:=doneL_set s p (yC s p) hge hlt
    refine ⟨⟨⟨hge,hlt⟩,hdl.symm⟩,⟨hdl.symm,by omega,by omega⟩,⟨hpl.symm,by omega⟩,?_⟩
    rw [setB_rows _ _ (by omega),hds,<-hpk]
    exact cnt_again0 hI n rfl h' hinv (Weak.keepL (by simp [cst0,hpl,ends]) (by simp [cst0,ends]) (by simp [cst0,ends]))
  ·have hv:=vv_pick hj hji (.inl (by have:=of_decide_eq_false q1;omega))
   have hE:yC s p<0->A.tup [ints [],num 7]=R:=fun hneg=>by
    have hno:orderOk s=false:=xY h' (by rw [hp];exact decide_eq_false (by omega))
    rw [<-hr,xt,xC,hno];rfl
   rw [hv]
   refine za (fun hneg=>?_) fun hneg=>?_
   ·have hR:=hE (of_decide_eq_true hneg)
    subst hR
    refine zm [[1],[0]] rfl (by simp) (by simp [zc]<;>omega) ?_ (by first | rfl | simp [ends] | (subst_vars;simp [ends])) (by simp [ends]) (by simp [ends])
    rfl
   have hge:0<=yC s p:=by have:=of_decide_eq_false hneg;omega
   have hlt:yC s p<s.length:=by have:=wg (xM s p) (List.range s.length);rw [List.length_range] at this;exact this
   have hinv: ∀i,i<n+1->0<=yC s (picks s i):=fun i h2=>if h3:i=n then by rw [h3,hp];exact hge else hi i (by omega)
   have hpk:picks s (n+1)=p++[yC s p]:=by rw [picks,hp]
   have hds:=doneL_set s p (yC s p) hge hlt
   refine ⟨⟨⟨hge,hlt⟩,hdl.symm⟩,⟨hdl.symm,by omega,by omega⟩,⟨hpl.symm,by omega⟩,?_⟩
   rw [setB_rows _ _ (by omega),hds,<-hpk]
   exact cnt_again0 hI n rfl h' hinv (Weak.keepL (by simp [cst0,hpl,ends]) (by simp [cst0,ends]) (by simp [cst0,ends]))
 ·simp only [decide_eq_false_iff_not] at h
  obtain rfl:n=s.length:=by omega
  have hok:orderOk s=true:=all_range.2 fun i hi2=>decide_eq_true (hi i hi2)
  have hR:A.tup [ints p,num 0]=R:=by rw [<-hr,xt,xC,hok,<-hp];rfl
  subst hR
  refine zm [[1],[0]] rfl (by simp) (by simp [zc]<;>omega) ?_ (by first | rfl | simp [ends] | (subst_vars;simp [ends])) (by simp [ends]) (by simp [ends])
  rfl
end
section
open Go.Am
attribute [local simp, local push_cast] num boo str ints aV aTab zA aS aT aC zV zF aFk vT
theorem c_rsvalid (s:Sch) (hs:SmallS s):ACall Tryz.prog 11 [aS s] [] (num (yq s)) []:=by
 refine zp mixed ttok Tryz.func11 Tryz.ntmps11 Tryz.results11 ?_
 generalize hr:num (yq s)=R
 have hl:=hs.len
 simp -implicitDefEqProofs only [argT,↓zb,push_cast,simprocAttr,tte]
 refine za (fun h0=>?_) fun h0=>?_
 ·exact zk trivial (by rw [<-hr,yq,if_pos (of_decide_eq_true h0)];rfl) (by simp [ends])
 have h0': ¬(s.length:Int)>6:=of_decide_eq_false h0
 have hM:yq s=if vj (tabErr s) s.length≠0 then vj (tabErr s) s.length
  else if ferr (refErr s) s≠0 then ferr (refErr s) s else xC s:=by rw [yq,if_neg h0']
 refine zn mixed ttok 3 [1] [1] (by simp only [z6,ends,push_cast,simprocAttr];rfl) (by simp only [zB,zo,ends,push_cast,simprocAttr];rfl) s.length (fun n=> ∀i,i<n->tabErr s i=0) (fun _=>[]) (fun _=>[]) (fun i h=>absurd h (Nat.not_lt_zero _)) ?_ ?_
 ·exact Weak.keepL (by simp [cst,ends]) (by simp [cst,ends]) (by simp [cst,ends])
 intro I hI n hn hi
 simp -implicitDefEqProofs only [cst,↓zb,push_cast,simprocAttr,tte]
 refine za (fun h=>?_) fun h=>?_
 ·simp only [decide_eq_true_eq] at h
  have h':n<s.length:=by omega
  have hw:=zj h' (by omega)
  have hE:tabErr s n≠0->num (tabErr s n)=R:=fun hne=>by
   have:=qQ h' hi hne
   rw [<-hr,hM,this,if_pos hne]
  have hg:s.getD n default∈s:=zi h'
  refine ⟨(by first | omega | trivial | (refine ⟨?_,?_⟩<;>first | omega | trivial | (refine ⟨?_,?_⟩<;>first | omega | trivial | (refine ⟨?_,?_⟩<;>first | omega | trivial | rfl)))),?_⟩
  refine zd [[0]] [] (c_rname2 (s.getD n default).name) ?_
  simp -implicitDefEqProofs only [↓zb,push_cast,simprocAttr,tte]
  refine za (fun g1=>?_) fun g1=>?_
  ·have hc:tabErr s n=3:=if_pos g1
   exact zk trivial (by rw [<-hE (by rw [hc];decide),hc];rfl) (by simp [ends])
  refine ⟨(by first | omega | trivial | (refine ⟨?_,?_⟩<;>first | omega | trivial | (refine ⟨?_,?_⟩<;>first | omega | trivial | (refine ⟨?_,?_⟩<;>first | omega | trivial | rfl)))),?_⟩
  refine zd [[6],[0]] [] (c_rfind s (s.getD n default).name (by omega)) ?_
  simp -implicitDefEqProofs only [↓zb,push_cast,simprocAttr,tte]
  refine ⟨zg (by kernel_rfl),?_⟩
  refine za (fun g2=>?_) fun g2=>?_
  ·have g2':wI (byT s (s.getD n default).name)≠n:=by simpa [wI] using g2
   have hc:tabErr s n=5:=by rw [tabErr,if_neg (by rw [g1];decide),if_pos ((byT_self s n h').2 g2')]
   exact zk trivial (by rw [<-hE (by rw [hc];decide),hc];rfl) (by simp [ends])
  have g2': ¬wI (byT s (s.getD n default).name)≠n:=by simpa [wI] using g2
  have hcB:tabErr s n=yE (s.getD n default):=by rw [tabErr,if_neg (by rw [g1];decide),if_neg (fun q=>g2' ((byT_self s n h').1 q))]
  refine ⟨(by first | omega | trivial | (refine ⟨?_,?_⟩<;>first | omega | trivial | (refine ⟨?_,?_⟩<;>first | omega | trivial | (refine ⟨?_,?_⟩<;>first | omega | trivial | rfl)))),?_⟩
  refine zd [[0,3,1,1,2,6]] [] (c_rtable (s.getD n default) (hs.tab _ hg)) ?_
  simp -implicitDefEqProofs only [↓zb,push_cast,simprocAttr,tte]
  refine za (fun g3=>?_) fun g3=>?_
  ·have g3':tabErr s n≠0:=by rw [hcB];simpa using g3
   exact zk trivial (by rw [<-hE g3',hcB];rfl) (by simp [ends])
  ·have g3':tabErr s n=0:=by rw [hcB];simpa using g3
   exact zl hI n rfl h' (fun i h2=>if h3:i=n then by rw [h3];exact g3' else hi i (by omega)) (by simp [hw,ends]) (by simp [hw,ends]) (by simp [hw,ends]) (by simp [hw,ends])
 simp only [decide_eq_false_iff_not] at h
 obtain rfl:n=s.length:=by omega
 have hM2:yq s=if ferr (refErr s) s≠0 then ferr (refErr s) s else xC s:=by rw [hM,wS hi,if_neg (by decide)]
 have htab: ∀t∈s,yE t=0:=fun t ht=>by
  obtain ⟨i,h1,h2⟩:=vf ht
  rw [<-h2];exact uY (hi i h1)
 clear hI hM h hi hn I
 refine zn mixed ttok 7 [1] [1] (by simp only [z6,ends,push_cast,simprocAttr];rfl) (by simp only [zB,zo,ends,push_cast,simprocAttr];rfl) s.length (fun n=> ∀i,i<n->refErr s (s.getD i default)=0) (fun _=>[]) (fun _=>[]) (fun i h=>absurd h (Nat.not_lt_zero _)) ?_ ?_
 ·exact Weak.keepL (by simp [cst,ends]) (by simp [cst,ends]) (by simp [cst,ends])
 intro I hI n hn hi
 simp -implicitDefEqProofs only [cst,↓zb,push_cast,simprocAttr,tte]
 refine za (fun h=>?_) fun h=>?_
 ·simp only [decide_eq_true_eq] at h
  have h':n<s.length:=by omega
  have hw:=zj h' (by omega)
  have hg:s.getD n default∈s:=zi h'
  have hE:refErr s (s.getD n default)≠0->num (refErr s (s.getD n default))=R:=fun hne=>by
   have:=x5 (refErr s) s n h' hi hne
   rw [<-hr,hM2,this,if_pos hne]
  have hT:=hs.tab _ hg
  have hTf:=hT.fors
  have hfs:=kS (htab _ hg)
  refine zn mixed ttok 8 [1,7] [1] (by simp only [z6,ends,push_cast,simprocAttr];rfl) (by simp only [zB,zo,ends,push_cast,simprocAttr];rfl) (s.getD n default).foreigns.length (fun k=> ∀i,i<k->refM s (s.getD n default) ((s.getD n default).foreigns.getD i default)=0) (fun _=>[]) (fun _=>[]) (fun i h=>absurd h (Nat.not_lt_zero _)) ?_ ?_
  ·exact Weak.keepL (by simp [cst,ends]) (by simp [cst,ends]) (by simp [cst,ends])
  intro J hJ k hk hki
  simp -implicitDefEqProofs only [cst,↓zb,push_cast,simprocAttr,tte]
  refine ⟨(by first | omega | trivial | (refine ⟨?_,?_⟩<;>first | omega | trivial | (refine ⟨?_,?_⟩<;>first | omega | trivial | (refine ⟨?_,?_⟩<;>first | omega | trivial | rfl)))),?_⟩
  refine za (fun g=>?_) fun g=>?_
  ·simp only [decide_eq_true_eq] at g
   have k':k<(s.getD n default).foreigns.length:=by omega
   have hwk:=zj k' (by omega)
   have hfm:=zi k'
   refine zd [[6],[0],[0]] [] (qY s n k hl h' k') ?_
   simp -implicitDefEqProofs only [↓zb,push_cast,simprocAttr,tte]
   have hE2:refM s (s.getD n default) ((s.getD n default).foreigns.getD k default)≠0->num (refM s (s.getD n default) ((s.getD n default).foreigns.getD k default))=R:=fun hne=>by
    have hc:refErr s (s.getD n default)=refM s (s.getD n default) ((s.getD n default).foreigns.getD k default):=x5 (refM s (s.getD n default)) (s.getD n default).foreigns k k' hki hne
    rw [<-hc];exact hE (by rw [hc];exact hne)
   have hz2:refM s (s.getD n default) ((s.getD n default).foreigns.getD k default)=0-> ∀i,i<k+1->refM s (s.getD n default) ((s.getD n default).foreigns.getD i default)=0:=fun hz i h2=>if h3:i=k then by rw [h3];exact hz else hki i (by omega)
   have hcols:=hfs _ hfm
   have hlc:=hT.forss _ hfm
   generalize hf:(s.getD n default).foreigns.getD k default=f at hE2 hz2 hcols hlc
   refine za (fun g1=>?_) fun g1=>?_
   ·have g1':byT s f.table<0:=by simpa using g1
    have hc:refM s (s.getD n default) f=11:=if_pos g1'
    exact zk trivial (by rw [<-hE2 (by rw [hc];decide),hc];rfl) (by simp [ends])
   have g1': ¬byT s f.table<0:=by simpa using g1
   have hlt:byT s f.table<s.length:=wg _ _
   have hcB:refM s (s.getD n default) f=if xm (s.getD n default) (s.getD (byT s f.table).toNat default) f.columns (s.getD (byT s f.table).toNat default).primary then 0 else 6:=if_neg g1'
   have hUm:s.getD (byT s f.table).toNat default∈s:=zi (by omega)
   have hprim:=kR (htab _ hUm)
   simp only [if_neg (show¬0>byT s f.table by omega)]
   generalize byT s f.table=bt at g1' hlt hcB hprim ⊢
   generalize hU:s.getD bt.toNat default=U at hcB hprim
   refine ⟨by omega,by omega,⟨by omega,hlt⟩,zg (by kernel_rfl),?_⟩
   refine za (fun g2=>?_) fun g2=>?_
   ·have hne:=ne_nat g2
    have hc:refM s (s.getD n default) f=6:=by rw [hcB,xm,beq_false_of_ne hne];rfl
    exact zk trivial (by rw [<-hE2 (by rw [hc];decide),hc];rfl) (by simp [ends])
   have hle:=eq_nat g2
   have hcC:refM s (s.getD n default) f=if (List.range f.columns.length).all (fun i=>yB (s.getD n default) (f.columns.getD i default)==yB U (U.primary.getD i default)) then 0 else 6:=by
    rw [hcB,xm,hle,beq_self_eq_true,Bool.true_and]
   refine zn mixed ttok 13 [1,7,8,9,11,12] [1] (by simp only [z6,ends,push_cast,simprocAttr];rfl) (by simp only [zB,zo,ends,push_cast,simprocAttr];rfl) f.columns.length (fun j=> ∀i,i<j->(yB (s.getD n default) (f.columns.getD i default)==yB U (U.primary.getD i default))=true) (fun _=>[]) (fun _=>[]) (fun i h=>absurd h (Nat.not_lt_zero _)) ?_ ?_
   ·exact Weak.keepL (by simp [cst,ends]) (by simp [cst,ends]) (by simp [cst,ends])
   intro Q hQ j hj hji
   simp -implicitDefEqProofs only [cst,↓zb,push_cast,simprocAttr,tte]
   refine za (fun q=>?_) fun q=>?_
   ·simp only [decide_eq_true_eq] at q
    have j':j<f.columns.length:=by omega
    have hwj:=zj j' (by omega)
    obtain ⟨a0,a1⟩:=hcols _ (zi j')
    obtain ⟨b0,b1⟩:=hprim (U.primary.getD j default) (zi (by omega))
    refine ⟨by omega,by omega,⟨a0,a1⟩,⟨by omega,hlt⟩,by omega,⟨b0,by rw [hU];exact b1⟩,zg (by kernel_rfl),?_⟩
    rw [hU]
    refine za (fun e=>?_) fun e=>?_
    ·have e':(yB (s.getD n default) (f.columns.getD j default)==yB U (U.primary.getD j default))=false:=by simpa [bne,yB] using e
     have hc:refM s (s.getD n default) f=6:=by rw [hcC,xY (n:=j) j' e'];rfl
     exact zk trivial (by rw [<-hE2 (by rw [hc];decide),hc];rfl) (by simp [ends])
    ·have e':(yB (s.getD n default) (f.columns.getD j default)==yB U (U.primary.getD j default))=true:=by simpa [bne,yB] using e
     exact zl hQ j rfl j' (fun i h2=>if h3:i=j then by rw [h3];exact e' else hji i (by omega)) (by simp [hwj,ends]) (by simp [hwj,ends]) (by simp [hwj,ends]) (by simp [hwj,ends])
   ·simp only [decide_eq_false_iff_not] at q
    obtain rfl:j=f.columns.length:=by omega
    have hc:refM s (s.getD n default) f=0:=by rw [hcC,all_range.2 hji];rfl
    exact zl hJ k rfl k' (hz2 hc) (by simp [hwk,ends]) (by simp [hwk,ends]) (by simp [hwk,ends]) (by simp [hwk,ends])
  ·simp only [decide_eq_false_iff_not] at g
   obtain rfl:k=(s.getD n default).foreigns.length:=by omega
   have hz:refErr s (s.getD n default)=0:=yt _ _ hki
   exact zl hI n rfl h' (fun i h2=>if h3:i=n then by rw [h3];exact hz else hi i (by omega)) (by simp [hw,ends]) (by simp [hw,ends]) (by simp [hw,ends]) (by simp [hw,ends])
 simp only [decide_eq_false_iff_not] at h
 obtain rfl:n=s.length:=by omega
 clear hI
 have hz:ferr (refErr s) s=0:=yt (refErr s) s hi
 have hall: ∀t∈s,∀f∈t.foreigns,0<=byT s f.table:=fun t ht f hf=>refM_at (xW (xW hz t ht) f hf)
 refine zd [[6]] [] (c_rorder s (by omega) (fun t ht=>(hs.tab t ht).fors) hall) ?_
 simp -implicitDefEqProofs only [↓zb,push_cast,simprocAttr,tte]
 exact zk trivial (by rw [<-hr,hM2,if_neg (by rw [hz];decide)];rfl) (by simp [ends])
end
end Go.Proofs.YtampbaaiddbacaaGreatDoor
