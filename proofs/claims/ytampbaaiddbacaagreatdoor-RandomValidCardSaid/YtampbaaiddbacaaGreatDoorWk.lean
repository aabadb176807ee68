/- What random makes of a tape is valid, of its types, and not too large: a proof over an abstract machine of our own (part Wk) -/
import Derived.Test.YtampbaaiddbacaaGreatDoorWh
import Derived.Test.YtampbaaiddbacaaGreatDoorWb
set_option maxRecDepth 100000
set_option maxHeartbeats 4000000
set_option linter.all false
namespace Go.Proofs.YtampbaaiddbacaaGreatDoor
section
open Go.Am
attribute [local simp, local push_cast] num boo str ints aV aTab zA aS aT aC y5 yJ yY vQ
theorem qx: ∀(a b:List Ex) (n:Int),sizeL n (a++b)=sizeL (sizeL n a) b
 | [],b,n=>rfl
 | e::a,b,n=>by simp only [List.cons_append,sizeL];exact qx a b _
theorem argsQ_nil:xb []=[]:=rfl
theorem c_rqdepth: ∀q:Qr,OkQ q->ACall Tryz.prog 15 [aQ q] [] (num (yk q)) []:=
 q_ind (p:=fun q=>OkQ q->ACall Tryz.prog 15 [aQ q] [] (num (yk q)) []) fun q ih ho=>by
 have hq:=ho.one
 have hkl:=hq.kids
 rw [zY]
 refine zp mixed ttok Tryz.func15 Tryz.ntmps15 Tryz.results15 ?_
 generalize hr:num (yk q)=R
 simp -implicitDefEqProofs only [argT,↓zb,push_cast,simprocAttr,tte]
 refine zn mixed ttok 4 [1] [1] (by simp only [z6,ends,push_cast,simprocAttr];rfl) (by simp only [zB,zo,ends,push_cast,simprocAttr];rfl) q.kids.length (fun _=>True) (fun n=>[(3,num (depthQs 0 (q.kids.take n)))]) (fun _=>[]) trivial ?_ ?_
 ·exact Weak.keepL (by simp [cst,depthQs,ends]) (by simp [cst,vQ,ends]) (by simp [cst,ends])
 intro I hI n hn hi
 simp -implicitDefEqProofs only [cst,vQ,↓zb,push_cast,simprocAttr,tte]
 refine za (fun h=>?_) fun h=>?_
 ·have h':n<q.kids.length:=by have:=of_decide_eq_true h;omega
  have hw:=zj h' (by omega)
  have ht:=ju (q.kids.getD n default) (q.kids.take n) 0
  rw [<-zH _ _ h'] at ht
  refine ⟨(by first | omega | trivial | (refine ⟨?_,?_⟩<;>first | omega | trivial | (refine ⟨?_,?_⟩<;>first | omega | trivial | (refine ⟨?_,?_⟩<;>first | omega | trivial | rfl)))),?_⟩
  have hc:=ih _ (zi h') (ho.kid (zi h'))
  rw [zY] at hc
  refine zd [[0,0,0,0,0,0,0,0,0,6,6,7,1,1,15]] [] (hc) ?_
  simp -implicitDefEqProofs only [↓zb,push_cast,simprocAttr,tte]
  exact zl hI n rfl h' trivial (by simp [hw,ht,vQ,ends]) (by simp [hw,ht,vQ,ends]) (by simp [hw,ht,vQ,ends]) (by simp [hw,ht,vQ,ends])
 obtain rfl:n=q.kids.length:=by have:=of_decide_eq_false h;omega
 exact zk trivial (by rw [<-hr,uQ,List.take_length];rfl) (by simp [ends])
theorem c_rqsize: ∀q:Qr,OkQ q->ACall Tryz.prog 48 [aQ q] [] (num (uD q)) []:=
 q_ind (p:=fun q=>OkQ q->ACall Tryz.prog 48 [aQ q] [] (num (uD q)) []) fun q ih ho=>by
 have hq:=ho.one
 have hel:=hq.exprs
 have hal:=hq.aggs
 have hrl:=hq.rows
 have hkl:=hq.kids
 rw [zY]
 refine zp mixed ttok Tryz.func48 Tryz.ntmps48 Tryz.results48 ?_
 generalize hr:num (uD q)=R
 obtain ⟨e4,he4⟩: ∃b,(q.op==4)=b:=⟨_,rfl⟩
 obtain ⟨e10,he10⟩: ∃b,(q.op==10)=b:=⟨_,rfl⟩
 obtain ⟨E1,hE1⟩: ∃l,(if (e4 || e10)=true then q.exprs else [])=l:=⟨_,rfl⟩
 obtain ⟨G,hG⟩: ∃l,(if e10=true then q.aggs else [])=l:=⟨_,rfl⟩
 obtain ⟨s0,hs0⟩: ∃s,(if (q.op==3 || q.op==5)=true then IntKind.i64.wrap (1+x7 q.cond) else 1)=s:=⟨_,rfl⟩
 have hM:uD q=sizeQs (uG (sizeL (sizeL s0 E1) (xb G)) q.rows) q.kids:=by
  have hx:sizeL 1 (xl q)=sizeL (sizeL s0 E1) (xb G):=by
   unfold xl
   rw [he4,he10,qx]
   subst hE1;subst hG;subst hs0
   cases h35:(q.op==3 || q.op==5) with
   | true=>
     have h4:e4=false:=by rw [<-he4];simp only [Bool.or_eq_true,beq_iff_eq] at h35;exact beq_eq_false_iff_ne.2 (by omega)
     have h10:e10=false:=by rw [<-he10];simp only [Bool.or_eq_true,beq_iff_eq] at h35;exact beq_eq_false_iff_ne.2 (by omega)
     rw [h4,h10]
     rfl
   | false=>
     cases e10<;>cases e4<;>rfl
  rw [sizeQ_eq,hx]
 have hE1l:E1.length<=1000:=by
  rw [<-hE1]
  split
  ·exact hel
  ·exact Nat.zero_le _
 have hGl:G.length<=1000:=by
  rw [<-hG]
  split
  ·exact hal
  ·exact Nat.zero_le _
 have hE1x: ∀e∈E1,Ok12 e:=by
  rw [<-hE1]
  split
  ·exact hq.ex
  ·exact fun _ h=>by cases h
 have hGx: ∀a∈G,Ok12 a.arg:=by
  rw [<-hG]
  split
  ·exact hq.ag
  ·exact fun _ h=>by cases h
 have hc0:=qZ q.cond hq.cond
 rw [yb] at hc0
 simp -implicitDefEqProofs only [argT,he4,he10,↓zb,push_cast,simprocAttr,tte]
 refine za (fun h3=>?_) (fun h3=>za (fun h5=>?_) (fun h5=>?_))
 all_goals first
  | (rw [if_pos (by rw [h3];rfl)] at hs0
     refine zd [[0,0,0,0,0,6]] [] (hc0) ?_
     simp -implicitDefEqProofs only [↓zb,push_cast,simprocAttr,tte])
  | (rw [if_pos (by rw [h3,h5];rfl)] at hs0
     refine zd [[0,0,0,0,0,6]] [] (hc0) ?_
     simp -implicitDefEqProofs only [↓zb,push_cast,simprocAttr,tte])
  | rw [if_neg (by rw [h3,h5];decide)] at hs0
 all_goals
  refine zn mixed ttok 4 [1] [1] (by simp only [z6,ends,push_cast,simprocAttr];rfl) (by simp only [zB,zo,ends,push_cast,simprocAttr];rfl) E1.length (fun _=>True) (fun n=>[(3,num (sizeL s0 (E1.take n)))]) (fun _=>[]) trivial ?_ ?_
  ·exact Weak.keepL (by simp [cst,sizeL,<-hs0,ends]) (by simp [cst,vQ,ends]) (by simp [cst,ends])
  intro I hI n hn hi
  simp -implicitDefEqProofs only [cst,vQ,he4,he10,↓zb,push_cast,simprocAttr,tte]
  cases hc:(e4 || e10)
  all_goals first
   | (have hEq:E1=q.exprs:=by rw [<-hE1,hc];rfl
      subst hEq
      refine za (fun h=>?_) (fun h=>?_)
      ·
       have h':n<q.exprs.length:=by have:=of_decide_eq_true h;omega
       have hw:=zj h' (by omega)
       have ht:=wP (q.exprs.getD n default) (q.exprs.take n) s0
       rw [<-zH _ _ h'] at ht
       have hcs:=qZ (q.exprs.getD n default) (hE1x _ (zi h'))
       rw [yb] at hcs
       refine za (fun _=>?_) (fun g4=>za (fun _=>?_) (fun g10=>absurd hc (by rw [g4,g10];decide)))<;>
        (refine ⟨(by first | omega | trivial | (refine ⟨?_,?_⟩<;>first | omega | trivial | (refine ⟨?_,?_⟩<;>first | omega | trivial | (refine ⟨?_,?_⟩<;>first | omega | trivial | rfl)))),?_⟩
         refine zd [[0,0,0,0,0,6]] [] (hcs) ?_
         simp -implicitDefEqProofs only [↓zb,push_cast,simprocAttr,tte]
         exact zl hI n rfl h' trivial (by simp [hw,ht,vQ,ends]) (by simp [hw,ht,vQ,ends]) (by simp [hw,ht,vQ,ends]) (by simp [hw,ht,vQ,ends]))
      have hnE:n=q.exprs.length:=by have:=of_decide_eq_false h;omega)
   | (have hEq:E1=[]:=by rw [<-hE1,hc];rfl
      subst hEq
      have g4:e4=false:=by cases e4<;>first | rfl | cases hc
      have g10:e10=false:=by cases e10<;>first | rfl | (cases e4<;>cases hc)
      simp -implicitDefEqProofs only [g4,g10,↓zb,push_cast,simprocAttr,tte]
      have hnE:n=([]:List Ex).length:=by simpa using hn
      refine za (fun h=>?_) (fun h=>?_))
 all_goals
  subst hnE
  clear hI hn hi hc
  try rw [List.take_length]
  first | (simp only [sizeL] at hM ⊢;revert hM;generalize s0=s1;intro hM) | generalize sizeL s0 q.exprs=s1 at hM ⊢
  clear I h
  refine zn mixed ttok 5 [1] [1] (by simp only [z6,ends,push_cast,simprocAttr];rfl) (by simp only [zB,zo,ends,push_cast,simprocAttr];rfl) G.length (fun _=>True) (fun n=>[(3,num (sizeL s1 (xb (G.take n))))]) (fun _=>[]) trivial ?_ ?_
  ·exact Weak.keepL (by simp [cst,sizeL,xb,ends]) (by simp [cst,vQ,ends]) (by simp [cst,ends])
  intro I hI n hn hi
  simp -implicitDefEqProofs only [cst,vQ,he10,↓zb,push_cast,simprocAttr,tte]
  cases e10
  all_goals first
   | (cases g10;done)
   | (have hEq:G=[]:=by rw [<-hG];rfl
      subst hEq
      simp -implicitDefEqProofs only [↓zb,push_cast,simprocAttr,tte]
      have hnE:n=([]:List Agg).length:=by simpa using hn
      refine za (fun h=>?_) (fun h=>?_))
   | (have hEq:G=q.aggs:=by rw [<-hG];rfl
      subst hEq
      simp -implicitDefEqProofs only [↓zb,push_cast,simprocAttr,tte]
      refine za (fun h=>?_) (fun h=>?_)
      ·
       have h':n<q.aggs.length:=by have:=of_decide_eq_true h;omega
       have hw:=zj h' (by omega)
       have ht:xb (q.aggs.take (n+1))=xb (q.aggs.take n)++(if (q.aggs.getD n default).fn==1 then [] else [(q.aggs.getD n default).arg]):=by
        rw [<-argsQ_snoc,zH _ _ h']
       refine ⟨(by first | omega | trivial | (refine ⟨?_,?_⟩<;>first | omega | trivial | (refine ⟨?_,?_⟩<;>first | omega | trivial | (refine ⟨?_,?_⟩<;>first | omega | trivial | rfl)))),?_⟩
       refine za (fun g=>?_) fun g=>?_
       ·have g':((q.aggs.getD n default).fn==1)=false:=by simpa [bne] using g
        rw [g',if_neg (by decide)] at ht
        have ht2:=wP (q.aggs.getD n default).arg (xb (q.aggs.take n)) s1
        rw [<-ht] at ht2
        have hcs:=qZ (q.aggs.getD n default).arg (hGx _ (zi h'))
        rw [yb] at hcs
        refine ⟨(by first | omega | trivial | (refine ⟨?_,?_⟩<;>first | omega | trivial | (refine ⟨?_,?_⟩<;>first | omega | trivial | (refine ⟨?_,?_⟩<;>first | omega | trivial | rfl)))),?_⟩
        refine zd [[0,0,0,0,0,6]] [] (hcs) ?_
        simp -implicitDefEqProofs only [↓zb,push_cast,simprocAttr,tte]
        exact zl hI n rfl h' trivial (by simp [hw,ht2,vQ,ends]) (by simp [hw,ht2,vQ,ends]) (by simp [hw,ht2,vQ,ends]) (by simp [hw,ht2,vQ,ends])
       ·have g':((q.aggs.getD n default).fn==1)=true:=by simpa [bne] using g
        rw [g',if_pos rfl,List.append_nil] at ht
        exact zl hI n rfl h' trivial (by simp [hw,ht,vQ,ends]) (by simp [hw,ht,vQ,ends]) (by simp [hw,ht,vQ,ends]) (by simp [hw,ht,vQ,ends])
      have hnE:n=q.aggs.length:=by have:=of_decide_eq_false h;omega)
 all_goals
  subst hnE
  clear hI hn hi
  try rw [List.take_length]
  first | (simp only [sizeL,argsQ_nil] at hM ⊢;revert hM;generalize s1=s2;intro hM) | generalize sizeL s1 (xb q.aggs)=s2 at hM ⊢
  clear I h
  refine zn mixed ttok 6 [1] [1] (by simp only [z6,ends,push_cast,simprocAttr];rfl) (by simp only [zB,zo,ends,push_cast,simprocAttr];rfl) q.rows.length (fun _=>True) (fun n=>[(3,num (uG s2 (q.rows.take n)))]) (fun _=>[]) trivial ?_ ?_
  ·exact Weak.keepL (by simp [cst,uG,ends]) (by simp [cst,vQ,ends]) (by simp [cst,ends])
  intro I hI n hn hi
  simp -implicitDefEqProofs only [cst,vQ,↓zb,push_cast,simprocAttr,tte]
  refine za (fun h=>?_) fun h=>?_
  ·have h':n<q.rows.length:=by have:=of_decide_eq_true h;omega
   have hw:=zj h' (by omega)
   have ht:=kW (q.rows.getD n default) (q.rows.take n) s2
   rw [<-zH _ _ h'] at ht
   refine ⟨(by first | omega | trivial | (refine ⟨?_,?_⟩<;>first | omega | trivial | (refine ⟨?_,?_⟩<;>first | omega | trivial | (refine ⟨?_,?_⟩<;>first | omega | trivial | rfl)))),?_⟩
   exact zl hI n rfl h' trivial (by simp [hw,ht,vQ,ends]) (by simp [hw,ht,vQ,ends]) (by simp [hw,ht,vQ,ends]) (by simp [hw,ht,vQ,ends])
  obtain rfl:n=q.rows.length:=by have:=of_decide_eq_false h;omega
  clear hI
  rw [List.take_length]
  generalize uG s2 q.rows=s3 at hM ⊢
  refine zn mixed ttok 7 [1] [1] (by simp only [z6,ends,push_cast,simprocAttr];rfl) (by simp only [zB,zo,ends,push_cast,simprocAttr];rfl) q.kids.length (fun _=>True) (fun n=>[(3,num (sizeQs s3 (q.kids.take n)))]) (fun _=>[]) trivial ?_ ?_
  ·exact Weak.keepL (by simp [cst,sizeQs,ends]) (by simp [cst,vQ,ends]) (by simp [cst,ends])
  intro I hI n hn hi
  simp -implicitDefEqProofs only [cst,vQ,↓zb,push_cast,simprocAttr,tte]
  refine za (fun h=>?_) fun h=>?_
  ·have h':n<q.kids.length:=by have:=of_decide_eq_true h;omega
   have hw:=zj h' (by omega)
   have ht:=j8 (q.kids.getD n default) (q.kids.take n) s3
   rw [<-zH _ _ h'] at ht
   refine ⟨(by first | omega | trivial | (refine ⟨?_,?_⟩<;>first | omega | trivial | (refine ⟨?_,?_⟩<;>first | omega | trivial | (refine ⟨?_,?_⟩<;>first | omega | trivial | rfl)))),?_⟩
   have hc:=ih _ (zi h') (ho.kid (zi h'))
   rw [zY] at hc
   refine zd [[0,0,0,0,0,0,0,0,0,6,6,7,1,1,15]] [] (hc) ?_
   simp -implicitDefEqProofs only [↓zb,push_cast,simprocAttr,tte]
   exact zl hI n rfl h' trivial (by simp [hw,ht,vQ,ends]) (by simp [hw,ht,vQ,ends]) (by simp [hw,ht,vQ,ends]) (by simp [hw,ht,vQ,ends])
  obtain rfl:n=q.kids.length:=by have:=of_decide_eq_false h;omega
  exact zk trivial (by rw [<-hr,hM,List.take_length];rfl) (by simp [ends])
end
section
open Go.Am
attribute [local simp, local push_cast] num boo str ints aV aTab zA aS aT aC y5 yJ yY zF aAgg
theorem c_rsame0 (e:Ex) (hl:e.kids.length<=1000):ACall Tryz.prog 32 [aE e,aE e0] [] (boo (wF e)) []:=by
 rw [yb,aE_e0]
 refine zp mixed ttok Tryz.func32 Tryz.ntmps32 Tryz.results32 ?_
 generalize hr:boo (wF e)=R
 have he:ByteArray.empty.toList=[]:=by simp [ByteArray.toList_eq]
 simp -implicitDefEqProofs only [argT,he,↓zb,push_cast,simprocAttr,tte]
 unfold wF at hr
 refine za (fun h1=>?_) fun h1=>?_
 ·exact zk trivial (by rw [<-hr,show (e.op==0)=false by simpa [bne] using h1];rfl) (by simp [ends])
 have g1:(e.op==0)=true:=by simpa [bne] using h1
 refine za (fun h2=>?_) fun h2=>?_
 ·exact zk trivial (by rw [<-hr,g1,show (e.type==0)=false by simpa [bne] using h2];rfl) (by simp [ends])
 have g2:(e.type==0)=true:=by simpa [bne] using h2
 refine za (fun h3=>?_) fun h3=>?_
 ·exact zk trivial (by rw [<-hr,g1,g2,show (e.num==0)=false by simpa [bne] using h3];rfl) (by simp [ends])
 have g3:(e.num==0)=true:=by simpa [bne] using h3
 refine za (fun h4=>?_) fun h4=>?_
 ·exact zk trivial (by rw [<-hr,g1,g2,g3,show (e.text.toList==[])=false by simpa using h4];rfl) (by simp [ends])
 have g4:(e.text.toList==[])=true:=by simpa using h4
 refine za (fun h5=>?_) fun h5=>?_
 ·exact zk trivial (by rw [<-hr,g1,g2,g3,g4,show (e.col==0)=false by simpa [bne] using h5];rfl) (by simp [ends])
 have g5:(e.col==0)=true:=by simpa [bne] using h5
 refine za (fun h6=>?_) fun h6=>?_
 ·have h6': ¬e.kids.length=0:=by simp at h6;intro h;rw [List.length_eq_zero_iff] at h;exact h6 h
  exact zk trivial (by rw [<-hr,g1,g2,g3,g4,g5,show (e.kids.length==0)=false from beq_eq_false_iff_ne.2 h6'];rfl) (by simp [ends])
 have h6':e.kids.length=0:=by simp at h6;rw [h6];rfl
 refine zn mixed ttok 5 [2,3] [2,3] (by simp only [z6,ends,push_cast,simprocAttr];rfl) (by simp only [zB,zo,ends,push_cast,simprocAttr];rfl) 0 (fun _=>True) (fun _=>[]) (fun _=>[]) trivial ?_ ?_
 ·exact Weak.keepL (by simp [cst,ends]) (by simp [cst,ends]) (by simp [cst,ends])
 intro I hI n hn hi
 obtain rfl:n=0:=by omega
 simp -implicitDefEqProofs only [cst,h6',↓zb,push_cast,simprocAttr,tte]
 exact zk trivial (by rw [<-hr,g1,g2,g3,g4,g5,h6'];rfl) (by simp [ends])
theorem c_zero4 (e:Ex) (hl:e.kids.length<=1000):ACall Tryz.prog 146 [aE e] [] (boo (wF e)) []:=by
 have hc:=c_rsame0 e hl
 rw [yb,aE_e0] at hc
 rw [yb]
 refine zp mixed ttok Tryz.func146 Tryz.ntmps146 Tryz.results146 ?_
 simp -implicitDefEqProofs only [argT,↓zb,push_cast,simprocAttr,tte]
 refine zd [[0,0,0,0,0,6],[0,0,0,0,0,6]] [] (hc) ?_
 simp -implicitDefEqProofs only [↓zb,push_cast,simprocAttr,tte]
 exact zk trivial rfl (by simp [ends])
def kids4 (op:Int):Int:=if op=1\/op=2 then 0 else if op=5\/op=6\/op=7\/op=8 then 2 else 1
theorem c_kids4 (op:Int):ACall Tryz.prog 95 [num op] [] (num (kids4 op)) []:=by
 refine zp mixed ttok Tryz.func95 Tryz.ntmps95 Tryz.results95 ?_
 generalize hr:num (kids4 op)=R
 unfold kids4 at hr
 simp -implicitDefEqProofs only [argT,↓zb,push_cast,simprocAttr,tte]
 repeat' first
  | exact zk trivial (by rw [<-hr];simp_all) (by simp [ends])
  | (refine za (fun h=>?_) fun h=>?_<;>(try simp only [beq_iff_eq,beq_eq_false_iff_ne] at h))
theorem c_cond4 (ts:List Int) (hts:ts.length<=1000000) (e:Ex) (ho:Ok12 e):ACall Tryz.prog 97 [ints ts,aE e] [] (num (wM ts e)) []:=by
 have hc:=kG ts (by omega) e ho
 rw [yb] at hc ⊢
 refine zp mixed ttok Tryz.func97 Tryz.ntmps97 Tryz.results97 ?_
 generalize hr:num (wM ts e)=R
 unfold wM at hr
 simp -implicitDefEqProofs only [argT,↓zb,push_cast,simprocAttr,tte]
 refine zd [[1],[0,0,0,0,0,6]] [] (hc) ?_
 generalize zL (ownM ts) e=T at hr ⊢
 simp -implicitDefEqProofs only [zF,↓zb,push_cast,simprocAttr,tte]
 refine za (fun h1=>?_) fun h1=>?_
 ·have h1': ¬T.2=0:=by simpa using h1
  exact zk trivial (by rw [<-hr,if_neg (fun h=>h1' h.1)];rfl) (by simp [ends])
 have h1':T.2=0:=by simpa using h1
 refine za (fun h2=>?_) fun h2=>?_
 ·have h2': ¬T.1=2:=by simpa using h2
  exact zk trivial (by rw [<-hr,if_pos ⟨h1',h2'⟩];rfl) (by simp [ends])
 ·have h2':T.1=2:=by simpa using h2
  exact zk trivial (by rw [<-hr,if_neg (fun h=>h.2 h2'),h1'];rfl) (by simp [ends])
theorem c_ints4 (a b:List Int) (hl:a.length<=1000000):ACall Tryz.prog 69 [ints a,ints b] [] (boo (a==b)) []:=by
 refine zp mixed ttok Tryz.func69 Tryz.ntmps69 Tryz.results69 ?_
 generalize hr:boo (a==b)=R
 simp -implicitDefEqProofs only [argT,↓zb,push_cast,simprocAttr,tte]
 refine za (fun h0=>?_) fun h0=>?_
 ·have h0': ¬a.length=b.length:=by simp at h0;omega
  have:(a==b)=false:=by
   cases h:a==b
   ·rfl
   ·rw [eq_of_beq h] at h0';exact absurd rfl h0'
  exact zk trivial (by rw [<-hr,this];rfl) (by simp [ends])
 have h0':a.length=b.length:=by simp at h0;omega
 refine zn mixed ttok 5 [0,1] [] (by simp only [z6,ends,push_cast,simprocAttr];rfl) (by simp only [zB,zo,ends,push_cast,simprocAttr];rfl) a.length (fun n=> ∀i,i<n->a.getD i default=b.getD i default) (fun _=>[]) (fun _=>[]) (fun i h=>absurd h (Nat.not_lt_zero _)) ?_ ?_
 ·exact Weak.keepL (by simp [cst,ends]) (by simp [cst,ends]) (by simp [cst,ends])
 intro I hI n hn hi
 simp -implicitDefEqProofs only [cst,↓zb,push_cast,simprocAttr,tte]
 refine za (fun h=>?_) fun h=>?_
 ·have h':n<a.length:=by have:=of_decide_eq_true h;omega
  have hw:=zj h' (by omega)
  refine ⟨(by first | omega | trivial | (refine ⟨?_,?_⟩<;>first | omega | trivial | (refine ⟨?_,?_⟩<;>first | omega | trivial | (refine ⟨?_,?_⟩<;>first | omega | trivial | rfl)))),?_⟩
  refine ⟨by omega,zg (by kernel_rfl),?_⟩
  refine za (fun g=>?_) fun g=>?_
  ·have g':a.getD n default≠b.getD n default:=by simpa [bne] using g
   have:(a==b)=false:=by
    cases h2:a==b
    ·rfl
    ·rw [eq_of_beq h2] at g';exact absurd rfl g'
   exact zk trivial (by rw [<-hr,this];rfl) (by simp [ends])
  ·have g':a.getD n default=b.getD n default:=by simpa [bne] using g
   exact zl hI n rfl h' (fun i h2=>if h3:i=n then by rw [h3];exact g' else hi i (by omega)) (by simp [hw,ends]) (by simp [hw,ends]) (by simp [hw,ends]) (by simp [hw,ends])
 obtain rfl:n=a.length:=by have:=of_decide_eq_false h;omega
 have:(a==b)=true:=by
  rw [beq_iff_eq]
  apply List.ext_getElem?
  intro i
  by_cases h:i<a.length
  ·have:=hi i h
   rw [List.getD_eq_getElem?_getD,List.getD_eq_getElem?_getD,List.getElem?_eq_getElem h,List.getElem?_eq_getElem (by omega)] at this
   rw [List.getElem?_eq_getElem h,List.getElem?_eq_getElem (by omega)]
   simpa using this
  ·rw [List.getElem?_eq_none (by omega),List.getElem?_eq_none (by omega)]
 exact zk trivial (by rw [<-hr,this];rfl) (by simp [ends])
def u4 (q:Qr):Bool:=
 ((decide (1<=q.op)&&decide (q.op<=10))&& !((((!q.table.toList==[])&&q.op !=1) || (q.kind !=0&&q.op !=5)) || (q.all&& !((q.op==6 || q.op==7) || q.op==8))))&&
   (!((((!wF q.cond)&&q.op !=3)&&q.op !=5) || ((decide ((q.exprs.length:Int)>0)&&q.op !=4)&&q.op !=10))&&
    !(((decide ((q.aggs.length:Int)>0)&&q.op !=10) || (decide ((q.types.length:Int)>0)&&q.op !=2)) || (decide ((q.rows.length:Int)>0)&&q.op !=2)))
theorem c_plain4 (q:Qr) (hl:q.cond.kids.length<=1000):ACall Tryz.prog 94 [aQ q] [] (boo (u4 q)) []:=by
 have hc:=c_zero4 q.cond hl
 rw [yb] at hc
 rw [zY]
 refine zp mixed ttok Tryz.func94 Tryz.ntmps94 Tryz.results94 ?_
 generalize hr:boo (u4 q)=R
 have he:(ByteArray.mk #[]).toList=[]:=by simp [ByteArray.toList_eq]
 simp -implicitDefEqProofs only [argT,he,↓zb,push_cast,simprocAttr,tte]
 refine za (fun lo=>?_) fun lo=>?_
 ·exact zk trivial (by rw [<-hr,u4,show decide (1<=q.op)=false from decide_eq_false (by have:=of_decide_eq_true lo;omega)];rfl) (by simp [ends])
 refine za (fun hi=>?_) fun hi=>?_
 ·exact zk trivial (by rw [<-hr,u4,show decide (q.op<=10)=false from decide_eq_false (by have:=of_decide_eq_true hi;omega),Bool.and_false];rfl) (by simp [ends])
 have ho:q.op=1\/q.op=2\/q.op=3\/q.op=4\/q.op=5\/q.op=6\/q.op=7\/q.op=8\/q.op=9\/q.op=10:=by
  have:=of_decide_eq_false lo
  have:=of_decide_eq_false hi
  omega
 clear lo hi
 unfold u4 at hr
 generalize hs:wF q.cond=S at hr hc
 rcases ho with h | h | h | h | h | h | h | h | h | h
 all_goals
  simp -implicitDefEqProofs only [h,↓zb,push_cast,simprocAttr,tte]
  repeat' first
   | exact zk trivial (by rw [<-hr,h];simp only [*];rfl) (by simp [ends])
   | (refine zd [[0,0,0,0,0,6]] [] (hc) ?_
      simp -implicitDefEqProofs only [h,↓zb,push_cast,simprocAttr,tte])
   | (refine za (fun _=>?_) fun _=>?_)
end
section
open Go.Am
attribute [local simp, local push_cast] num boo str ints aV aTab zA aS aT aC y5 yJ yY zF aAgg
theorem c_list4V (ts:List Int) (l:List Ex) (hts:ts.length<=1000000) (hl:l.length<=1000) (ho: ∀e∈l,Ok12 e) (h0:(x8 ts l).2=0):
 ACall Tryz.prog 98 [ints ts,.d (.sl 6 (ze rE l)),.snil] [] (.tup [.vec 1000 l.length,num 0]) [(1000,.vec 3 1 (ze rI (l.map fun e=>(zL (ownM ts) e).1)) 0)]:=by
 have hall:=kr _ l h0
 refine zp mixed ttok Tryz.func98 Tryz.ntmps98 Tryz.results98 ?_
 simp -implicitDefEqProofs only [argT,↓zb,push_cast,simprocAttr,tte]
 refine zn mixed ttok 8 [0,1] [] (by simp only [z6,ends,push_cast,simprocAttr];rfl) (by simp only [zB,zo,ends,push_cast,simprocAttr];rfl) l.length (fun _=>True) (fun n=>[(2,.vec 500 n)]) (fun n=>[(500,.vec 3 1 (ze rI ((l.take n).map fun e=>(zL (ownM ts) e).1)) 0)]) trivial ?_ ?_
 ·exact (Weak.nilL 2 500 3 1 rfl rfl).trans (Weak.keepL (by simp [cst,ends]) (by simp [cst,ends]) (by simp [cst,ends]))
 intro I hI n hn hi
 have hl2:((l.take n).map fun e=>(zL (ownM ts) e).1).length=n:=by rw [List.length_map,List.length_take];omega
 simp -implicitDefEqProofs only [cst,↓zb,push_cast,simprocAttr,tte]
 refine za (fun h=>?_) fun h=>?_
 ·have h':n<l.length:=by have:=of_decide_eq_true h;omega
  have hw:=zj h' (by omega)
  have hs:=vg (fun e=>(zL (ownM ts) e).1) l n h'
  refine ⟨(by first | omega | trivial | (refine ⟨?_,?_⟩<;>first | omega | trivial | (refine ⟨?_,?_⟩<;>first | omega | trivial | (refine ⟨?_,?_⟩<;>first | omega | trivial | rfl)))),?_⟩
  refine zd [[1],[0,0,0,0,0,6]] [] (kG ts (by omega) _ (ho _ (zi h'))) ?_
  simp -implicitDefEqProofs only [zF,↓zb,push_cast,simprocAttr,tte]
  refine za (fun g=>absurd (hall n h') (by simpa using g)) (fun _=>?_)
  refine ⟨⟨hl2.symm,by rw [hl2];omega⟩,?_⟩
  exact zl hI n rfl h' trivial (by simp [hw,hs,hl2,Nat.min_eq_left hn,zf,ends]) (by simp [hw,hs,hl2,Nat.min_eq_left hn,zf,ends]) (by simp [hw,hs,hl2,Nat.min_eq_left hn,zf,ends]) (by simp [hw,hs,hl2,Nat.min_eq_left hn,zf,ends])
 obtain rfl:n=l.length:=by have:=of_decide_eq_false h;omega
 rw [List.take_length]
 exact ret_vec2 500 trivial (by omega) rfl rfl (by simp [ends])
theorem c_list4 (ts:List Int) (l:List Ex) (hts:ts.length<=1000000) (hl:l.length<=1000) (ho: ∀e∈l,Ok12 e):
 ACall Tryz.prog 98 [ints ts,.d (.sl 6 (ze rE l)),.snil] [] (zx (x8 ts l)) []:=by
 refine zp mixed ttok Tryz.func98 Tryz.ntmps98 Tryz.results98 ?_
 generalize hr:zx (x8 ts l)=R
 unfold x8 at hr
 simp -implicitDefEqProofs only [argT,↓zb,push_cast,simprocAttr,tte]
 refine zn mixed ttok 8 [0,1] [] (by simp only [z6,ends,push_cast,simprocAttr];rfl) (by simp only [zB,zo,ends,push_cast,simprocAttr];rfl) l.length (fun n=> ∀i,i<n->(zL (ownM ts) (l.getD i default)).2=0) (fun n=>[(2,.vec 500 n)]) (fun n=>[(500,.vec 3 1 (ze rI ((l.take n).map fun e=>(zL (ownM ts) e).1)) 0)]) (fun i h=>absurd h (Nat.not_lt_zero _)) ?_ ?_
 ·exact (Weak.nilL 2 500 3 1 rfl rfl).trans (Weak.keepL (by simp [cst,ends]) (by simp [cst,ends]) (by simp [cst,ends]))
 intro I hI n hn hi
 have hl2:((l.take n).map fun e=>(zL (ownM ts) e).1).length=n:=by rw [List.length_map,List.length_take];omega
 simp -implicitDefEqProofs only [cst,↓zb,push_cast,simprocAttr,tte]
 refine za (fun h=>?_) fun h=>?_
 ·have h':n<l.length:=by have:=of_decide_eq_true h;omega
  have hw:=zj h' (by omega)
  have hs:=vg (fun e=>(zL (ownM ts) e).1) l n h'
  refine ⟨(by first | omega | trivial | (refine ⟨?_,?_⟩<;>first | omega | trivial | (refine ⟨?_,?_⟩<;>first | omega | trivial | (refine ⟨?_,?_⟩<;>first | omega | trivial | rfl)))),?_⟩
  refine zd [[1],[0,0,0,0,0,6]] [] (kG ts (by omega) _ (ho _ (zi h'))) ?_
  simp -implicitDefEqProofs only [zF,↓zb,push_cast,simprocAttr,tte]
  refine za (fun g=>?_) fun g=>?_
  ·have g':(zL (ownM ts) (l.getD n default)).2≠0:=by simpa using g
   rw [<-hr,kw (zL (ownM ts)) l n h' hi g',zx]
   refine zm [[1],[0]] rfl (by simp) (by simp [zc]<;>omega) ?_ (by first | rfl | simp [ends] | (subst_vars;simp [ends])) (by simp [ends]) (by simp [ends])
   rfl
  ·have g':(zL (ownM ts) (l.getD n default)).2=0:=by simpa using g
   refine ⟨⟨hl2.symm,by rw [hl2];omega⟩,?_⟩
   exact zl hI n rfl h' (fun i h2=>if h3:i=n then by rw [h3];exact g' else hi i (by omega)) (by simp [hw,hs,hl2,Nat.min_eq_left hn,zf,ends]) (by simp [hw,hs,hl2,Nat.min_eq_left hn,zf,ends]) (by simp [hw,hs,hl2,Nat.min_eq_left hn,zf,ends]) (by simp [hw,hs,hl2,Nat.min_eq_left hn,zf,ends])
 obtain rfl:n=l.length:=by have:=of_decide_eq_false h;omega
 rw [<-hr,wQ (zL (ownM ts)) l hi,List.take_length,zx]
 refine zm [[1],[0]] rfl (by simp) (by simp [zc]<;>omega) ?_ (by first | rfl | simp [ends] | (subst_vars;simp [ends])) (by simp [ends]) (by simp [ends])
 rfl
theorem c_join4 (a b:List Int) (q:Qr) (ha:a.length<=1000) (hb:b.length<=1000) (hq:OkQ1 q):ACall Tryz.prog 99 [ints a,ints b,aQ q] [] (zx (joinM a b q)) []:=by
 rw [zY]
 refine zp mixed ttok Tryz.func99 Tryz.ntmps99 Tryz.results99 ?_
 generalize hr:zx (joinM a b q)=R
 have hwl:IntKind.i64.wrap ((a.length:Int)+b.length)=(a.length:Int)+b.length:=zJ (by omega) (by omega)
 have hab:(a++b).length=a.length+b.length:=List.length_append
 unfold joinM at hr
 simp -implicitDefEqProofs only [argT,↓zb,push_cast,simprocAttr,tte]
 simp only [hwl]
 refine za (fun k1=>?_) fun k1=>?_
 ·rw [<-hr,if_pos (.inl (of_decide_eq_true k1)),zx]
  refine zm [[1],[0]] rfl (by simp) (by simp [zc]<;>omega) ?_ (by first | rfl | simp [ends] | (subst_vars;simp [ends])) (by simp [ends]) (by simp [ends])
  rfl
 refine za (fun k2=>?_) fun k2=>?_
 ·rw [<-hr,if_pos (.inr (of_decide_eq_true k2)),zx]
  refine zm [[1],[0]] rfl (by simp) (by simp [zc]<;>omega) ?_ (by first | rfl | simp [ends] | (subst_vars;simp [ends])) (by simp [ends]) (by simp [ends])
  rfl
 rw [if_neg (fun h=>h.elim (of_decide_eq_false k1) (of_decide_eq_false k2))] at hr
 refine za (fun k3=>?_) fun k3=>?_
 ·have k3':(a++b).length>24:=by have:=of_decide_eq_true k3;omega
  rw [<-hr,if_pos k3',zx]
  refine zm [[1],[0]] rfl (by simp) (by simp [zc]<;>omega) ?_ (by first | rfl | simp [ends] | (subst_vars;simp [ends])) (by simp [ends]) (by simp [ends])
  rfl
 have k3': ¬(a++b).length>24:=by have:=of_decide_eq_false k3;omega
 rw [if_neg k3'] at hr
 have hcd:=c_cond4 (a++b) (by omega) q.cond hq.cond
 rw [yb] at hcd
 have hra:ze rI (a++b)=ze rI a++ze rI b:=by unfold ze;rw [List.map_append]
 unfold ints at hcd
 rw [hra] at hcd
 refine ⟨by omega,by omega,?_⟩
 refine zd [[1],[0,0,0,0,0,6]] [] (hcd) ?_
 simp -implicitDefEqProofs only [↓zb,push_cast,simprocAttr,tte]
 refine za (fun k4=>?_) fun k4=>?_
 ·have k4':wM (a++b) q.cond≠0:=by simpa using k4
  rw [<-hr,if_pos k4',zx]
  refine zm [[1],[0]] rfl (by simp) (by simp [zc]<;>omega) ?_ (by first | rfl | simp [ends] | (subst_vars;simp [ends])) (by simp [ends]) (by simp [ends])
  rfl
 have k4': ¬wM (a++b) q.cond≠0:=by simpa using k4
 rw [if_neg k4'] at hr
 refine za (fun k5=>?_) fun k5=>?_
 ·have k5':q.kind=5:=by simpa using k5
  rw [<-hr,if_pos (.inl k5'),zx]
  refine zm [[1],[0]] rfl (by simp) (by simp [zc]<;>omega) ?_ (by first | rfl | simp [ends] | (subst_vars;simp [ends])) (by simp [ends]) (by simp [ends])
  rfl
 have k5': ¬q.kind=5:=by simpa using k5
 refine za (fun k6=>?_) fun k6=>?_
 ·have k6':q.kind=6:=by simpa using k6
  rw [<-hr,if_pos (.inr k6'),zx]
  refine zm [[1],[0]] rfl (by simp) (by simp [zc]<;>omega) ?_ (by first | rfl | simp [ends] | (subst_vars;simp [ends])) (by simp [ends]) (by simp [ends])
  rfl
 have k6': ¬q.kind=6:=by simpa using k6
 rw [<-hr,if_neg (fun h=>h.elim k5' k6'),zx,ints,hra]
 refine zm [[1],[0]] rfl (by simp) (by simp [zc]<;>omega) ?_ (by first | rfl | simp [ends] | (subst_vars;simp [ends])) (by simp [ends]) (by simp [ends])
 rfl
end
section
open Go.Am
attribute [local simp, local push_cast] num boo str ints aV aTab zA aS aT aC y5 yJ yY zF aAgg
theorem c_group4 (ts:List Int) (q:Qr) (hts:ts.length<=1000000) (hq:OkQ1 q):ACall Tryz.prog 100 [ints ts,aQ q] [] (zx (jJ ts q)) []:=by
 have hel:=hq.exprs
 have hal:=hq.aggs
 rw [zY]
 refine zp mixed ttok Tryz.func100 Tryz.ntmps100 Tryz.results100 ?_
 generalize hr:zx (jJ ts q)=R
 have hwr:IntKind.i64.wrap ((q.exprs.length:Nat)+(q.aggs.length:Nat):Int)=((q.exprs.length+q.aggs.length:Nat):Int):=by rw [zJ (by omega) (by omega)];omega
 unfold jJ at hr
 simp -implicitDefEqProofs only [argT,↓zb,push_cast,simprocAttr,tte]
 rw [hwr]
 have hM:(wJ (yT ts) q.aggs).1.length<=q.aggs.length:=by
  unfold wJ;split
  ·simp
  ·simp
 refine za (fun k1=>?_) fun k1=>?_
 ·have k1':q.exprs.length+q.aggs.length<1:=by have:=of_decide_eq_true k1;omega
  rw [<-hr,if_pos (.inl k1'),zx]
  refine zm [[1],[0]] rfl (by simp) (by simp [zc]<;>omega) ?_ (by first | rfl | simp [ends] | (subst_vars;simp [ends])) (by simp [ends]) (by simp [ends])
  rfl
 have k1': ¬q.exprs.length+q.aggs.length<1:=by have:=of_decide_eq_false k1;omega
 refine za (fun k2=>?_) fun k2=>?_
 ·have k2':q.exprs.length+q.aggs.length>24:=by have:=of_decide_eq_true k2;omega
  rw [<-hr,if_pos (.inr k2'),zx]
  refine zm [[1],[0]] rfl (by simp) (by simp [zc]<;>omega) ?_ (by first | rfl | simp [ends] | (subst_vars;simp [ends])) (by simp [ends]) (by simp [ends])
  rfl
 have k2': ¬q.exprs.length+q.aggs.length>24:=by have:=of_decide_eq_false k2;omega
 rw [if_neg (fun h=>h.elim k1' k2')] at hr
 by_cases hc0:(x8 ts q.exprs).2=0
 ·rw [if_neg (fun h=>h hc0)] at hr
  have hcv:(x8 ts q.exprs).1=q.exprs.map fun e=>(zL (ownM ts) e).1:=by
   rw [x8,wQ _ _ (kr _ _ hc0)]
  rw [hcv] at hr
  refine callx_ofV [(1000,700)] (view_raw _ _) (c_list4V ts q.exprs hts hel hq.ex hc0) (by simp [yb,ends,bs]) (by simp [ends,bs]) (by simp [yb,ends]) (by simp [idsOk,lookO,updO,ren1]) ?_
  simp -implicitDefEqProofs only [↓zb,push_cast,simprocAttr,tte]
  refine zn mixed ttok 9 [0,3] [3] (by simp only [z6,ends,push_cast,simprocAttr];rfl) (by simp only [zB,zo,ends,push_cast,simprocAttr];rfl) q.aggs.length (fun n=> ∀i,i<n->(yT ts (q.aggs.getD i default)).2=0) (fun n=>[(7,.vec 700 (q.exprs.length+n))]) (fun n=>[(700,.vec 3 1 (ze rI ((q.exprs.map fun e=>(zL (ownM ts) e).1)++(q.aggs.take n).map fun e=>(yT ts e).1)) 0)]) (fun i h=>absurd h (Nat.not_lt_zero _)) ?_ ?_
  ·exact Weak.keepL (by simp [cst,ends]) (by simp [cst,ends]) (by simp [cst,ends])
  intro I hI n hn hi
  have hl2:((q.exprs.map fun e=>(zL (ownM ts) e).1)++(q.aggs.take n).map fun e=>(yT ts e).1).length=q.exprs.length+n:=by rw [List.length_append,List.length_map,List.length_map,List.length_take];omega
  simp -implicitDefEqProofs only [cst,↓zb,push_cast,simprocAttr,tte]
  refine za (fun h=>?_) fun h=>?_
  ·have h':n<q.aggs.length:=by have:=of_decide_eq_true h;omega
   have hw:=zj h' (by omega)
   have hs:=vg (fun e=>(yT ts e).1) q.aggs n h'
   refine ⟨(by first | omega | trivial | (refine ⟨?_,?_⟩<;>first | omega | trivial | (refine ⟨?_,?_⟩<;>first | omega | trivial | (refine ⟨?_,?_⟩<;>first | omega | trivial | rfl)))),?_⟩
   have hbad: ∀e,e≠0->yT ts (q.aggs.getD n default)=(0,e)->zx ([],e)=R:=fun e he hA=>by
    have hb:=kw (yT ts) q.aggs n h' hi (by rw [hA];exact he)
    rw [<-hr,hb,hA,if_pos he]
   have hok:=hq.ag _ (zi h')
   have hcz:=c_zero4 (q.aggs.getD n default).arg (Nat.le_trans hok.kids (by omega))
   have hct:=kG ts (by omega) (q.aggs.getD n default).arg hok
   rw [yb] at hcz hct
   generalize hG:q.aggs.getD n default=G at hbad hok hcz hct hs ⊢
   refine za (fun f1=>?_) fun f1=>?_
   ·rw [<-hbad 1 (by decide) (by rw [yT,if_pos (.inl (of_decide_eq_true f1))]),zx]
    refine zm [[1],[0]] rfl (by simp) (by simp [zc]<;>omega) ?_ (by first | rfl | simp [ends] | (subst_vars;simp [ends])) (by simp [ends]) (by simp [ends])
    rfl
   refine za (fun f2=>?_) fun f2=>?_
   ·rw [<-hbad 1 (by decide) (by rw [yT,if_pos (.inr (.inl (of_decide_eq_true f2)))]),zx]
    refine zm [[1],[0]] rfl (by simp) (by simp [zc]<;>omega) ?_ (by first | rfl | simp [ends] | (subst_vars;simp [ends])) (by simp [ends]) (by simp [ends])
    rfl
   have f1': ¬G.fn<1:=of_decide_eq_false f1
   have f2': ¬G.fn>6:=of_decide_eq_false f2
   refine za (fun f3=>?_) fun f3=>?_
   ·have f3':G.fn=1:=eq_of_beq f3
    refine zd [[0,0,0,0,0,6]] [] (hcz) ?_
    simp -implicitDefEqProofs only [↓zb,push_cast,simprocAttr,tte]
    refine za (fun z=>?_) fun z=>?_
    ·have z':wF G.arg=false:=by simpa using z
     rw [<-hbad 1 (by decide) (by rw [yT,if_pos (.inr (.inr ⟨f3',z'⟩))]),zx]
     refine zm [[1],[0]] rfl (by simp) (by simp [zc]<;>omega) ?_ (by first | rfl | simp [ends] | (subst_vars;simp [ends])) (by simp [ends]) (by simp [ends])
     rfl
    have z':wF G.arg=true:=by simpa using z
    have hA:yT ts G=(1,0):=by rw [yT,if_neg (by rw [z'];simp;omega),if_pos f3']
    refine za (fun g=>absurd f3' (by simpa [bne] using g)) (fun _=>?_)
    rw [hA] at hs
    refine ⟨⟨hl2.symm,by rw [hl2];omega⟩,?_⟩
    exact zl hI n rfl h' (fun i h2=>if h3:i=n then by rw [h3,hG,hA] else hi i (by omega)) (by simp [hw,hs,hl2,Nat.min_eq_left hn,zf,Nat.add_assoc,List.append_assoc,ends]) (by simp [hw,hs,hl2,Nat.min_eq_left hn,zf,Nat.add_assoc,List.append_assoc,ends]) (by simp [hw,hs,hl2,Nat.min_eq_left hn,zf,Nat.add_assoc,List.append_assoc,ends]) (by simp [hw,hs,hl2,Nat.min_eq_left hn,zf,Nat.add_assoc,List.append_assoc,ends])
   have f3': ¬G.fn=1:=beq_eq_false_iff_ne.1 f3
   refine za (fun _=>?_) (fun g=>absurd (by simpa [bne] using g) f3')
   refine zd [[1],[0,0,0,0,0,6]] [] (hct) ?_
   obtain ⟨T,hT⟩: ∃T,zL (ownM ts) G.arg=T:=⟨_,rfl⟩
   have hA:yT ts G=if T.2≠0 then (0,T.2) else if G.fn=5\/G.fn=6 then (T.1,0) else if G.fn=4/\T.1≠1 then (0,4) else (1,0):=by
    rw [yT,if_neg (fun h=>h.elim f1' fun h=>h.elim f2' fun h=>f3' h.1),if_neg f3',hT]
   rw [hT]
   simp -implicitDefEqProofs only [zF,↓zb,push_cast,simprocAttr,tte]
   refine za (fun k1=>?_) fun k1=>?_
   ·have k1':T.2≠0:=by simpa using k1
    rw [<-hbad T.2 k1' (by rw [hA,if_pos k1']),zx]
    refine zm [[1],[0]] rfl (by simp) (by simp [zc]<;>omega) ?_ (by first | rfl | simp [ends] | (subst_vars;simp [ends])) (by simp [ends]) (by simp [ends])
    rfl
   have k1': ¬T.2≠0:=by simpa using k1
   rw [if_neg k1'] at hA
   have hgo: ∀v,yT ts G=(v,0)->(yT ts (q.aggs.getD n default)).2=0:=fun v h=>by rw [hG,h]
   refine za (fun k4=>?_) fun k4=>?_
   ·have k4':G.fn=4:=eq_of_beq k4
    rw [if_neg (by omega)] at hA
    refine za (fun k5=>?_) fun k5=>?_
    ·have k5':T.1≠1:=by simpa [bne] using k5
     rw [<-hbad 4 (by decide) (by rw [hA,if_pos ⟨k4',k5'⟩]),zx]
     refine zm [[1],[0]] rfl (by simp) (by simp [zc]<;>omega) ?_ (by first | rfl | simp [ends] | (subst_vars;simp [ends])) (by simp [ends]) (by simp [ends])
     rfl
    ·have k5':T.1=1:=by simpa [bne] using k5
     rw [if_neg (fun h=>h.2 k5')] at hA
     rw [hA] at hs
     refine za (fun g=>absurd (eq_of_beq g) (by omega)) (fun _=>za (fun g=>absurd (eq_of_beq g) (by omega)) (fun _=>?_))
     refine ⟨⟨hl2.symm,by rw [hl2];omega⟩,?_⟩
     exact zl hI n rfl h' (fun i h2=>if h3:i=n then by rw [h3];exact hgo _ hA else hi i (by omega)) (by simp [hw,hs,hl2,Nat.min_eq_left hn,zf,Nat.add_assoc,List.append_assoc,ends]) (by simp [hw,hs,hl2,Nat.min_eq_left hn,zf,Nat.add_assoc,List.append_assoc,ends]) (by simp [hw,hs,hl2,Nat.min_eq_left hn,zf,Nat.add_assoc,List.append_assoc,ends]) (by simp [hw,hs,hl2,Nat.min_eq_left hn,zf,Nat.add_assoc,List.append_assoc,ends])
   have k4': ¬G.fn=4:=beq_eq_false_iff_ne.1 k4
   refine za (fun k5=>?_) fun k5=>?_
   ·have k5':G.fn=5:=eq_of_beq k5
    rw [if_pos (.inl k5')] at hA
    rw [hA] at hs
    refine ⟨⟨hl2.symm,by rw [hl2];omega⟩,?_⟩
    exact zl hI n rfl h' (fun i h2=>if h3:i=n then by rw [h3];exact hgo _ hA else hi i (by omega)) (by simp [hw,hs,hl2,Nat.min_eq_left hn,zf,Nat.add_assoc,List.append_assoc,ends]) (by simp [hw,hs,hl2,Nat.min_eq_left hn,zf,Nat.add_assoc,List.append_assoc,ends]) (by simp [hw,hs,hl2,Nat.min_eq_left hn,zf,Nat.add_assoc,List.append_assoc,ends]) (by simp [hw,hs,hl2,Nat.min_eq_left hn,zf,Nat.add_assoc,List.append_assoc,ends])
   have k5': ¬G.fn=5:=beq_eq_false_iff_ne.1 k5
   refine za (fun k6=>?_) fun k6=>?_
   ·have k6':G.fn=6:=eq_of_beq k6
    rw [if_pos (.inr k6')] at hA
    rw [hA] at hs
    refine ⟨⟨hl2.symm,by rw [hl2];omega⟩,?_⟩
    exact zl hI n rfl h' (fun i h2=>if h3:i=n then by rw [h3];exact hgo _ hA else hi i (by omega)) (by simp [hw,hs,hl2,Nat.min_eq_left hn,zf,Nat.add_assoc,List.append_assoc,ends]) (by simp [hw,hs,hl2,Nat.min_eq_left hn,zf,Nat.add_assoc,List.append_assoc,ends]) (by simp [hw,hs,hl2,Nat.min_eq_left hn,zf,Nat.add_assoc,List.append_assoc,ends]) (by simp [hw,hs,hl2,Nat.min_eq_left hn,zf,Nat.add_assoc,List.append_assoc,ends])
   have k6': ¬G.fn=6:=beq_eq_false_iff_ne.1 k6
   rw [if_neg (fun h=>h.elim k5' k6'),if_neg (fun h=>k4' h.1)] at hA
   rw [hA] at hs
   refine ⟨⟨hl2.symm,by rw [hl2];omega⟩,?_⟩
   exact zl hI n rfl h' (fun i h2=>if h3:i=n then by rw [h3];exact hgo _ hA else hi i (by omega)) (by simp [hw,hs,hl2,Nat.min_eq_left hn,zf,Nat.add_assoc,List.append_assoc,ends]) (by simp [hw,hs,hl2,Nat.min_eq_left hn,zf,Nat.add_assoc,List.append_assoc,ends]) (by simp [hw,hs,hl2,Nat.min_eq_left hn,zf,Nat.add_assoc,List.append_assoc,ends]) (by simp [hw,hs,hl2,Nat.min_eq_left hn,zf,Nat.add_assoc,List.append_assoc,ends])
  ·obtain rfl:n=q.aggs.length:=by have:=of_decide_eq_false h;omega
   have hg:=wQ (yT ts) q.aggs hi
   rw [hg] at hr
   rw [<-hr,if_neg (fun h=>h rfl),List.take_length,zx]
   refine zm [[1],[0]] rfl (by simp) (by simp [zc]<;>omega) ?_ (by first | rfl | simp [ends] | (subst_vars;simp [ends])) (by simp [ends]) (by simp [ends])
   rfl
 ·have hb:x8 ts q.exprs=([],(x8 ts q.exprs).2):=by
   unfold x8 wJ at hc0 ⊢
   split
   ·rename_i h;rw [if_pos h] at hc0;exact absurd rfl hc0
   ·rfl
  have hcl:=c_list4 ts q.exprs hts hel hq.ex
  unfold zx at hcl
  refine callx_ofV [] (view_raw _ _) (hcl) (by simp [yb,ends,bs]) (by simp [ends,bs]) (by simp [yb,ends]) (by simp [idsOk,lookO,updO,ren1]) ?_
  simp -implicitDefEqProofs only [↓zb,push_cast,simprocAttr,tte]
  refine za (fun _=>?_) (fun h=>absurd (by simpa using h) hc0)
  rw [<-hr,if_pos hc0,zx]
  refine zm [[1],[0]] rfl (by simp) (by simp [zc]<;>omega) ?_ (by first | rfl | simp [ends] | (subst_vars;simp [ends])) (by simp [ends]) (by simp [ends])
  rfl
theorem isType_low {t:Int} (h:t<1):zC t=false:=by
 have h1:(t==1)=false:=beq_eq_false_iff_ne.2 (by omega)
 have h2:(t==2)=false:=beq_eq_false_iff_ne.2 (by omega)
 have h3:(t==3)=false:=beq_eq_false_iff_ne.2 (by omega)
 rw [zC,h1,h2,h3];rfl
theorem isType_high {t:Int} (h:t>3):zC t=false:=by
 have h1:(t==1)=false:=beq_eq_false_iff_ne.2 (by omega)
 have h2:(t==2)=false:=beq_eq_false_iff_ne.2 (by omega)
 have h3:(t==3)=false:=beq_eq_false_iff_ne.2 (by omega)
 rw [zC,h1,h2,h3];rfl
theorem isType_mid {t:Int} (h1: ¬t<1) (h3: ¬t>3):zC t=true:=by
 have:t=1\/t=2\/t=3:=by omega
 rcases this with rfl | rfl | rfl<;>rfl
def jY (q:Qr):List Int×Int:=if xg q≠0 then ([],xg q) else (q.types,0)
theorem c_values4 (q:Qr) (hq:OkQ1 q):ACall Tryz.prog 96 [aQ q] [] (zx (jY q)) []:=by
 have htl:=hq.types
 have hrl:=hq.rows
 rw [zY]
 refine zp mixed ttok Tryz.func96 Tryz.ntmps96 Tryz.results96 ?_
 generalize hr:zx (jY q)=R
 have h4:xg q=4->zx ([],4)=R:=fun h=>by rw [<-hr,jY,h];rfl
 simp -implicitDefEqProofs only [argT,↓zb,push_cast,simprocAttr,tte]
 refine za (fun k1=>?_) fun k1=>?_
 ·have k1':q.types.length<1:=by have:=of_decide_eq_true k1;omega
  rw [<-h4 (by rw [xg,if_pos (.inl (by omega))]),zx]
  refine zm [[1],[0]] rfl (by simp) (by simp [zc]<;>omega) ?_ (by first | rfl | simp [ends] | (subst_vars;simp [ends])) (by simp [ends]) (by simp [ends])
  rfl
 have k1': ¬q.types.length<1:=by have:=of_decide_eq_false k1;omega
 refine za (fun k2=>?_) fun k2=>?_
 ·have k2':q.types.length>24:=by have:=of_decide_eq_true k2;omega
  rw [<-h4 (by rw [xg,if_pos (.inr (.inl k2'))]),zx]
  refine zm [[1],[0]] rfl (by simp) (by simp [zc]<;>omega) ?_ (by first | rfl | simp [ends] | (subst_vars;simp [ends])) (by simp [ends]) (by simp [ends])
  rfl
 have k2': ¬q.types.length>24:=by have:=of_decide_eq_false k2;omega
 refine zn mixed ttok 4 [1] [1] (by simp only [z6,ends,push_cast,simprocAttr];rfl) (by simp only [zB,zo,ends,push_cast,simprocAttr];rfl) q.types.length (fun n=> ∀i,i<n->zC (q.types.getD i default)=true) (fun _=>[]) (fun _=>[]) (fun i h=>absurd h (Nat.not_lt_zero _)) ?_ ?_
 ·exact Weak.keepL (by simp [cst,ends]) (by simp [cst,ends]) (by simp [cst,ends])
 intro I hI n hn hi
 simp -implicitDefEqProofs only [cst,↓zb,push_cast,simprocAttr,tte]
 refine za (fun h=>?_) fun h=>?_
 ·have h':n<q.types.length:=by have:=of_decide_eq_true h;omega
  have hw:=zj h' (by omega)
  refine ⟨(by first | omega | trivial | (refine ⟨?_,?_⟩<;>first | omega | trivial | (refine ⟨?_,?_⟩<;>first | omega | trivial | (refine ⟨?_,?_⟩<;>first | omega | trivial | rfl)))),?_⟩
  have hany:zC (q.types.getD n default)=false->xg q=4:=fun hb=>by
   rw [xg,if_pos (.inr (.inr (List.any_eq_true.2 ⟨_,zi h',by rw [hb];rfl⟩)))]
  refine za (fun g1=>?_) fun g1=>?_
  ·rw [<-h4 (hany (isType_low (of_decide_eq_true g1))),zx]
   refine zm [[1],[0]] rfl (by simp) (by simp [zc]<;>omega) ?_ (by first | rfl | simp [ends] | (subst_vars;simp [ends])) (by simp [ends]) (by simp [ends])
   rfl
  refine ⟨by omega,?_⟩
  refine za (fun g2=>?_) fun g2=>?_
  ·rw [<-h4 (hany (isType_high (of_decide_eq_true g2))),zx]
   refine zm [[1],[0]] rfl (by simp) (by simp [zc]<;>omega) ?_ (by first | rfl | simp [ends] | (subst_vars;simp [ends])) (by simp [ends]) (by simp [ends])
   rfl
  have g':=isType_mid (of_decide_eq_false g1) (of_decide_eq_false g2)
  exact zl hI n rfl h' (fun i h2=>if h3:i=n then by rw [h3];exact g' else hi i (by omega)) (by simp [hw,ends]) (by simp [hw,ends]) (by simp [hw,ends]) (by simp [hw,ends])
 obtain rfl:n=q.types.length:=by have:=of_decide_eq_false h;omega
 have hty:(q.types.any fun t=> !zC t)=false:=by
  rw [List.any_eq_false]
  intro t ht
  obtain ⟨i,h1,rfl⟩:=vf ht
  rw [hi i h1];decide
 clear hI h hn hi I
 have hV:xg q=ferr (yN q.types) q.rows:=by rw [xg,if_neg (fun h=>h.elim (by omega) fun h=>h.elim k2' fun h=>by rw [hty] at h;cases h)]
 have hbad: ∀e n,e≠0->n<q.rows.length->(∀i,i<n->yN q.types (q.rows.getD i default)=0)->yN q.types (q.rows.getD n default)=e->zx ([],e)=R:=fun e n he hn hi hx=>by
  have:=x5 (yN q.types) q.rows n hn hi (by rw [hx];exact he)
  rw [<-hr,jY,hV,this,hx,if_pos he]
 refine zn mixed ttok 5 [1] [1] (by simp only [z6,ends,push_cast,simprocAttr];rfl) (by simp only [zB,zo,ends,push_cast,simprocAttr];rfl) q.rows.length (fun n=> ∀i,i<n->yN q.types (q.rows.getD i default)=0) (fun _=>[]) (fun _=>[]) (fun i h=>absurd h (Nat.not_lt_zero _)) ?_ ?_
 ·exact Weak.keepL (by simp [cst,ends]) (by simp [cst,ends]) (by simp [cst,ends])
 intro I hI n hn hi
 simp -implicitDefEqProofs only [cst,↓zb,push_cast,simprocAttr,tte]
 refine za (fun h=>?_) fun h=>?_
 ·have h':n<q.rows.length:=by have:=of_decide_eq_true h;omega
  have hw:=zj h' (by omega)
  refine ⟨(by first | omega | trivial | (refine ⟨?_,?_⟩<;>first | omega | trivial | (refine ⟨?_,?_⟩<;>first | omega | trivial | (refine ⟨?_,?_⟩<;>first | omega | trivial | rfl)))),zg (by kernel_rfl),?_⟩
  refine za (fun g=>?_) fun g=>?_
  ·have g':(q.rows.getD n default).length≠q.types.length:=fun e=>by rw [e,bne_self_eq_false] at g;cases g
   rw [<-hbad 9 n (by decide) h' hi (by rw [yN,if_pos g']),zx]
   refine zm [[1],[0]] rfl (by simp) (by simp [zc]<;>omega) ?_ (by first | rfl | simp [ends] | (subst_vars;simp [ends])) (by simp [ends]) (by simp [ends])
   rfl
  have g':(q.rows.getD n default).length=q.types.length:=by
   cases h3:(((q.rows.getD n default).length:Int)==(q.types.length:Int)) with
   | true=>have:=eq_of_beq h3;omega
   | false=>rw [bne,h3] at g;cases g
  have hI1:=hI
  refine zn mixed ttok 6 [1,5] [1] (by simp only [z6,ends,push_cast,simprocAttr];rfl) (by simp only [zB,zo,ends,push_cast,simprocAttr];rfl) q.types.length (fun m=> ∀j,j<m->xX q.types (q.rows.getD n default) j=false) (fun _=>[]) (fun _=>[]) (fun i h=>absurd h (Nat.not_lt_zero _)) ?_ ?_
  ·exact Weak.keepL (by simp [cst,ends]) (by simp [cst,ends]) (by simp [cst,ends])
  intro J hJ m hm hj
  simp -implicitDefEqProofs only [cst,↓zb,push_cast,simprocAttr,tte]
  refine za (fun f=>?_) fun f=>?_
  ·have f':m<q.types.length:=by have:=of_decide_eq_true f;omega
   have hw2:=zj f' (by omega)
   have hrb:xX q.types (q.rows.getD n default) m=true->zx ([],4)=R:=fun hb=>hbad 4 n (by decide) h' hi (by
    rw [yN,if_neg (fun h=>h g'),if_pos (List.any_eq_true.2 ⟨m,List.mem_range.2 (by omega),hb⟩)])
   unfold xX at hrb
   have hgo:xX q.types (q.rows.getD n default) m=(!zy ((q.rows.getD n default).getD m default) || (((q.rows.getD n default).getD m default).kind !=0&&((q.rows.getD n default).getD m default).kind !=q.types.getD m default)):=rfl
   have hcv:=uU ((q.rows.getD n default).getD m default)
   generalize (q.rows.getD n default).getD m default=v at hrb hgo hcv ⊢
   refine ⟨(by first | omega | trivial | (refine ⟨?_,?_⟩<;>first | omega | trivial | (refine ⟨?_,?_⟩<;>first | omega | trivial | (refine ⟨?_,?_⟩<;>first | omega | trivial | rfl)))),by omega,?_⟩
   refine zd [[0,0,0]] [] (hcv) ?_
   simp -implicitDefEqProofs only [↓zb,push_cast,simprocAttr,tte]
   refine za (fun b1=>?_) fun b1=>?_
   ·rw [<-hrb (by rw [b1];rfl),zx]
    refine ⟨zg (by kernel_rfl),?_⟩
    refine zm [[1],[0]] rfl (by simp) (by simp [zc]<;>omega) ?_ (by first | rfl | simp [ends] | (subst_vars;simp [ends])) (by simp [ends]) (by simp [ends])
    rfl
   refine za (fun b2=>?_) fun b2=>?_
   ·refine ⟨by omega,zg (by kernel_rfl),?_⟩
    refine za (fun b3=>?_) fun b3=>?_
    ·rw [<-hrb (by rw [b1,b2,b3];rfl),zx]
     refine zm [[1],[0]] rfl (by simp) (by simp [zc]<;>omega) ?_ (by first | rfl | simp [ends] | (subst_vars;simp [ends])) (by simp [ends]) (by simp [ends])
     rfl
    ·exact zl hJ m rfl f' (fun j h2=>if h3:j=m then by rw [h3,hgo,b1,b2,b3];rfl else hj j (by omega)) (by simp [hw2,ends]) (by simp [hw2,ends]) (by simp [hw2,ends]) (by simp [hw2,ends])
   ·refine ⟨zg (by kernel_rfl),?_⟩
    exact zl hJ m rfl f' (fun j h2=>if h3:j=m then by rw [h3,hgo,b1,b2];rfl else hj j (by omega)) (by simp [hw2,ends]) (by simp [hw2,ends]) (by simp [hw2,ends]) (by simp [hw2,ends])
  obtain rfl:m=q.types.length:=by have:=of_decide_eq_false f;omega
  have hrow:yN q.types (q.rows.getD n default)=0:=by
   rw [yN,if_neg (fun h=>h g'),if_neg]
   rw [List.any_eq_true]
   rintro ⟨j,h1,h2⟩
   rw [hj j (by have:=List.mem_range.1 h1;omega)] at h2
   cases h2
  exact zl hI n rfl h' (fun i h2=>if h3:i=n then by rw [h3];exact hrow else hi i (by omega)) (by simp [hw,ends]) (by simp [hw,ends]) (by simp [hw,ends]) (by simp [hw,ends])
 obtain rfl:n=q.rows.length:=by have:=of_decide_eq_false h;omega
 have hz:xg q=0:=by rw [hV];exact yt _ _ hi
 rw [<-hr,jY,hz,if_neg (fun h=>h rfl),zx]
 refine zm [[1],[0]] rfl (by simp) (by simp [zc]<;>omega) ?_ (by first | rfl | simp [ends] | (subst_vars;simp [ends])) (by simp [ends]) (by simp [ends])
 rfl
end
section
open Go.Am
attribute [local simp, local push_cast] num boo str ints aV aTab zA aS aT aC y5 yJ yY zF aAgg
def has (o:FmD) (w:ByteArray):Bool:=Lib.contains (uz o.uses).data.toList (uz w).data.toList
theorem has_tab:(List.range 11).all (fun n=>decide (n=0) || ([(⟨#[116,97,98,108,101]⟩:ByteArray),⟨#[107,105,110,100]⟩,⟨#[97,108,108]⟩,⟨#[99,111,110,100]⟩,⟨#[101,120,112,114,115]⟩,⟨#[97,103,103,115]⟩,⟨#[116,121,112,101,115]⟩,⟨#[114,111,119,115]⟩].map (has (fmTab.getD n default))==
 [n==1,n==5,(n==6 || n==7) || n==8,n==3 || n==5,n==4 || n==10,n==10,n==2,n==2]))=true:=by decide+kernel
theorem fm_cases {op:Int} (h:isFm op=true): ∃n:Nat,op=n/\n<11/\n≠0:=by
 simp only [isFm,Bool.and_eq_true,decide_eq_true_eq] at h
 exact ⟨op.toNat,by omega,by omega,by omega⟩
theorem plain_tab: ∀n∈List.range 11,n=0\/ ∀f1 f2 f3 f4 f5 f6 f7 f8:Bool,
 ((!(f1&& !(n==1)))&&((!(f2&& !(n==5)))&&((!(f3&& !((n==6 || n==7) || n==8)))&&((!(f4&& !(n==3 || n==5)))&&((!(f5&& !(n==4 || n==10)))&&((!(f6&& !(n==10)))&&((!(f7&& !(n==2)))&&((!(f8&& !(n==2)))&&true))))))))=
 (!(((f1&&n !=1) || (f2&&n !=5)) || (f3&& !((n==6 || n==7) || n==8)))&&
 (!(((f4&&n !=3)&&n !=5) || ((f5&&n !=4)&&n !=10))&& !(((f6&&n !=10) || (f7&&n !=2)) || (f8&&n !=2)))):=by decide+kernel
theorem plain_eq (q:Qr):u4 q=(isFm q.op&&x6 q (yh q.op)):=by
 cases h:isFm q.op with
 | false=>
   have h':isFm q.op=false:=h
   have h2:(decide (1<=q.op)&&decide (q.op<=10))=false:=h'
   rw [u4,h2]
   rfl
 | true=>
 have h2:(decide (1<=q.op)&&decide (q.op<=10))=true:=h
 obtain ⟨n,hn,h11,h0⟩:=fm_cases h
 have ht:=all_range.1 has_tab n h11
 rw [decide_eq_false h0,Bool.false_or] at ht
 have ht:=eq_of_beq ht
 simp only [List.map_cons,List.map_nil,List.cons.injEq,and_true] at ht
 obtain ⟨t1,t2,t3,t4,t5,t6,t7,t8⟩:=ht
 have hf:yh q.op=fmTab.getD n default:=by rw [yh,if_pos h,fmAt,hn,Int.toNat_natCast]
 have hb: ∀f w,badU (fmTab.getD n default) (w,f)=(f&& !has (fmTab.getD n default) w):=fun _ _=>rfl
 have e: ∀k:Nat,((n:Int)==(k:Int))=(n==k):=fun k=>by
  cases h3:n==k
  ·exact beq_eq_false_iff_ne.2 (by have:=beq_eq_false_iff_ne.1 h3;omega)
  ·exact beq_iff_eq.2 (by have:=eq_of_beq h3;omega)
 rw [hf,Bool.true_and]
 unfold x6 wz u4
 rw [h2]
 simp only [List.all_cons,List.all_nil,hb,t1,t2,t3,t4,t5,t6,t7,t8,Bool.true_and]
 have hp:=(plain_tab n (List.mem_range.2 h11)).resolve_left h0
 rw [hp]
 have e1:=e 1
 have e2:=e 2
 have e3:=e 3
 have e4:=e 4
 have e5:=e 5
 have e6:=e 6
 have e7:=e 7
 have e8:=e 8
 have e10:=e 10
 simp only [Int.cast_ofNat_Int] at e1 e2 e3 e4 e5 e6 e7 e8 e10
 simp only [hn,bne,e1,e2,e3,e4,e5,e6,e7,e8,e10]
theorem kids_eq {op:Int} (h:isFm op=true):kids4 op=(yh op).kids:=by
 obtain ⟨n,rfl,h11,h0⟩:=fm_cases h
 have:n=1\/n=2\/n=3\/n=4\/n=5\/n=6\/n=7\/n=8\/n=9\/n=10:=by omega
 rcases this with rfl | rfl | rfl | rfl | rfl | rfl | rfl | rfl | rfl | rfl<;>rfl
end
section
open Go.Am
attribute [local simp, local push_cast] num boo str ints aV aTab zA aS aT aC y5 yJ yY zF aAgg
theorem c_typed4 (s:Sch) (hs:SmallS s): ∀q:Qr,OkQ q->ACall Tryz.prog 49 [aS s,aQ q] [] (zx (typQ s q)) []:=
 q_ind (p:=fun q=>OkQ q->ACall Tryz.prog 49 [aS s,aQ q] [] (zx (typQ s q)) []) fun q ih ho=>by
 have hq:=ho.one
 have hkl:=hq.kids
 have hsl:=hs.len
 rw [zY]
 refine zp mixed ttok Tryz.func49 Tryz.ntmps49 Tryz.results49 ?_
 generalize hr:zx (typQ s q)=R
 simp -implicitDefEqProofs only [argT,↓zb,push_cast,simprocAttr,tte]
 refine zn mixed ttok 7 [2,3] [2,3] (by simp only [z6,ends,push_cast,simprocAttr];rfl) (by simp only [zB,zo,ends,push_cast,simprocAttr];rfl) q.kids.length (fun n=> ∀i,i<n->(typQ s (q.kids.getD i default)).2=0) (fun n=>[(6,.vec 500 n)]) (fun n=>[(500,.vec 22 1 (ze rIs (kidT s q n)) 0)]) (fun i h=>absurd h (Nat.not_lt_zero _)) ?_ ?_
 ·exact (Weak.nilL 6 500 22 1 rfl rfl).trans (Weak.keepL (by simp [cst,ends]) (by simp [cst,kidT,ze,ends]) (by simp [cst,ends]))
 intro I hI n hn hi
 have hl2:(kidT s q n).length=n:=by rw [kidT,List.length_map,List.length_take];omega
 simp -implicitDefEqProofs only [cst,↓zb,push_cast,simprocAttr,tte]
 refine za (fun h=>?_) fun h=>?_
 ·have h':n<q.kids.length:=by have:=of_decide_eq_true h;omega
  have hw:=zj h' (by omega)
  have hst:=vg (fun k=>(typQ s k).1) q.kids n h'
  have hc:=ih _ (zi h') (ho.kid (zi h'))
  rw [zY] at hc
  refine ⟨(by first | omega | trivial | (refine ⟨?_,?_⟩<;>first | omega | trivial | (refine ⟨?_,?_⟩<;>first | omega | trivial | (refine ⟨?_,?_⟩<;>first | omega | trivial | rfl)))),?_⟩
  refine zd [[6],[0,0,0,0,0,0,0,0,0,6,6,7,1,1,15]] [] (hc) ?_
  simp -implicitDefEqProofs only [zx,↓zb,push_cast,simprocAttr,tte]
  refine ⟨zg (by kernel_rfl),?_⟩
  refine za (fun g=>?_) fun g=>?_
  ·have g':(typQ s (q.kids.getD n default)).2≠0:=by simpa using g
   have hf:ferr Prod.snd (q.kids.map (typQ s))=(typQ s (q.kids.getD n default)).2:=by rw [wB];exact x5 _ _ n h' hi g'
   have hE:typQ s q=([],(typQ s (q.kids.getD n default)).2):=by rw [jZ s q,qs,hf,if_neg g']
   rw [<-hr,hE,zx]
   refine zm [[1],[0]] rfl (by simp) (by simp [zc]<;>omega) ?_ (by first | rfl | simp [ends] | (subst_vars;simp [ends])) (by simp [ends]) (by simp [ends])
   rfl
  ·have g':(typQ s (q.kids.getD n default)).2=0:=by simpa using g
   have hk2:kidT s q (n+1)=kidT s q n++[(typQ s (q.kids.getD n default)).1]:=hst
   refine ⟨⟨hl2.symm,by rw [hl2];omega⟩,?_⟩
   exact zl hI n rfl h' (fun i h2=>if h3:i=n then by rw [h3];exact g' else hi i (by omega)) (by simp [hw,hk2,hl2,zf,ends]) (by simp [hw,hk2,hl2,zf,ends]) (by simp [hw,hk2,hl2,zf,ends]) (by simp [hw,hk2,hl2,zf,ends])
 obtain rfl:n=q.kids.length:=by have:=of_decide_eq_false h;omega
 clear hI
 have hf:ferr Prod.snd (q.kids.map (typQ s))=0:=by rw [wB];exact yt _ _ hi
 have hT:kidT s q q.kids.length=(q.kids.map (typQ s)).map Prod.fst:=by rw [kidT,List.take_length,List.map_map];rfl
 have hM:typQ s q=ownQ s q (kidT s q q.kids.length):=by rw [jZ s q,qs,if_pos hf,hT]
 have hks: ∀l∈kidT s q q.kids.length,l.length<=1000:=fun l hl=>by
  simp only [kidT,List.take_length,List.mem_map] at hl
  obtain ⟨k,hk,rfl⟩:=hl
  exact typQ_len hs k (ho.kid hk)
 rw [hM] at hr
 clear hM hT hf hi
 generalize kidT s q q.kids.length=ks at hr hks hl2 ⊢
 have hg: ∀i,(ks.getD i default).length<=1000:=fun i=>by
  by_cases h:i<ks.length
  ·exact hks _ (zi h)
  ·rw [List.getD_eq_getElem?_getD,List.getElem?_eq_none (by omega)];exact Nat.zero_le _
 rw [<-hl2]
 have hcp:=c_plain4 q (Nat.le_trans hq.cond.kids (by omega))
 rw [zY,plain_eq] at hcp
 refine zd [[0,0,0,0,0,0,0,0,0,6,6,7,1,1,15]] [] (hcp) ?_
 simp -implicitDefEqProofs only [↓zb,push_cast,simprocAttr,tte]
 unfold ownQ at hr
 refine za (fun k1=>?_) fun k1=>?_
 ·have k1':isFm q.op=false\/x6 q (yh q.op)=false:=by
   cases h1:isFm q.op with
   | false=>exact .inl rfl
   | true=>
     cases h2:x6 q (yh q.op) with
     | false=>exact .inr rfl
     | true=>rw [h1,h2] at k1;cases k1
  rw [<-hr,if_pos k1',zx]
  refine zm [[1],[0]] rfl (by simp) (by simp [zc]<;>omega) ?_ (by first | rfl | simp [ends] | (subst_vars;simp [ends])) (by simp [ends]) (by simp [ends])
  rfl
 have k0:(isFm q.op&&x6 q (yh q.op))=true:=by
  cases h:(isFm q.op&&x6 q (yh q.op)) with
  | true=>rfl
  | false=>rw [h] at k1;cases k1
 have k1':isFm q.op=true:=by
  cases h1:isFm q.op with
  | true=>rfl
  | false=>rw [h1] at k0;cases k0
 have k2:x6 q (yh q.op)=true:=by
  cases h1:x6 q (yh q.op) with
  | true=>rfl
  | false=>rw [h1,Bool.and_false] at k0;cases k0
 rw [if_neg (by rw [k1',k2];simp)] at hr
 refine zd [[0]] [] (c_kids4 q.op) ?_
 rw [kids_eq k1']
 simp -implicitDefEqProofs only [↓zb,push_cast,simprocAttr,tte]
 refine za (fun k3=>?_) fun k3=>?_
 ·have k3':(ks.length:Int)≠(yh q.op).kids:=by simpa using k3
  rw [<-hr,if_pos k3',zx]
  refine zm [[1],[0]] rfl (by simp) (by simp [zc]<;>omega) ?_ (by first | rfl | simp [ends] | (subst_vars;simp [ends])) (by simp [ends]) (by simp [ends])
  rfl
 have k3': ¬(ks.length:Int)≠(yh q.op).kids:=by simpa using k3
 rw [if_neg k3'] at hr
 have k3'':(ks.length:Int)=(yh q.op).kids:=by simpa using k3
 refine za (fun o1=>?_) fun o1=>?_
 ·have o1':q.op=1:=by simpa using o1
  have hkn:(yh q.op).kids=0:=by rw [o1'];rfl
  rw [if_pos o1'] at hr
  refine zd [[6],[0]] [] (c_rfind s q.table (by omega)) ?_
  have hlt:=wg (fun t:Tbl=>t.name.toList==q.table.toList) s
  have hbd:byT s q.table=fidx (fun t:Tbl=>t.name.toList==q.table.toList) s:=rfl
  rw [<-hbd] at hlt
  generalize byT s q.table=b at hr hlt ⊢
  by_cases hb:b≥0
  ·have hb2:(if 0>b then (0:Int) else b)=b:=if_neg (by omega)
   have hb3:decide (b≥0)=true:=decide_eq_true hb
   rw [if_pos hb] at hr
   simp -implicitDefEqProofs only [zV,hb2,hb3,↓zb,push_cast,simprocAttr,tte]
   refine ⟨⟨hb,by omega⟩,?_⟩
   have hm:=zi (l:=s) (n:=b.toNat) (by omega)
   have hct:=c_rtypes (s.getD b.toNat default) (by have:=(hs.tab _ hm).cols;omega)
   simp only [aT] at hct
   refine zd [[0,3,1,1,2,6]] [] (hct) ?_
   simp -implicitDefEqProofs only [↓zb,push_cast,simprocAttr,tte]
   rw [<-hr,zx]
   refine zm [[1],[0]] rfl (by simp) (by simp [zc]<;>omega) ?_ (by first | rfl | simp [ends] | (subst_vars;simp [ends])) (by simp [ends]) (by simp [ends])
   rfl
  ·have hb3:decide (b≥0)=false:=decide_eq_false hb
   rw [if_neg hb] at hr
   simp -implicitDefEqProofs only [zV,hb3,↓zb,push_cast,simprocAttr,tte]
   rw [<-hr,zx]
   refine zm [[1],[0]] rfl (by simp) (by simp [zc]<;>omega) ?_ (by first | rfl | simp [ends] | (subst_vars;simp [ends])) (by simp [ends]) (by simp [ends])
   rfl
 have o1': ¬q.op=1:=by simpa using o1
 rw [if_neg o1'] at hr
 refine za (fun o2=>?_) fun o2=>?_
 ·have o2':q.op=2:=by simpa using o2
  have hkn:(yh q.op).kids=0:=by rw [o2'];rfl
  rw [if_pos o2'] at hr
  have hv:=c_values4 q hq
  rw [zY] at hv
  unfold zx at hv
  refine zd [[0,0,0,0,0,0,0,0,0,6,6,7,1,1,15]] [] (hv) ?_
  simp -implicitDefEqProofs only [↓zb,push_cast,simprocAttr,tte]
  rw [<-hr,zx]
  unfold jY
  refine zm [[1],[0]] rfl (by simp) (by simp [zc]<;>omega) ?_ (by first | rfl | simp [ends] | (subst_vars;simp [ends])) (by simp [ends]) (by simp [ends])
  rfl
 have o2': ¬q.op=2:=by simpa using o2
 rw [if_neg o2'] at hr
 refine za (fun o3=>?_) fun o3=>?_
 ·have o3':q.op=3:=by simpa using o3
  have hkn:(yh q.op).kids=1:=by rw [o3'];rfl
  rw [if_pos o3'] at hr
  have hk1:ks.length=1:=by omega
  have hcd:=c_cond4 (ks.getD 0 default) (Nat.le_trans (hg 0) (by omega)) q.cond hq.cond
  rw [yb] at hcd
  refine ⟨by omega,by omega,?_⟩
  refine zd [[1],[0,0,0,0,0,6]] [] (hcd) ?_
  simp -implicitDefEqProofs only [↓zb,push_cast,simprocAttr,tte]
  refine ⟨zg (by kernel_rfl),?_⟩
  refine za (fun g=>?_) fun g=>?_
  ·have g':wM (ks.getD 0 default) q.cond≠0:=by simpa using g
   rw [<-hr,if_pos g',zx]
   refine zm [[1],[0]] rfl (by simp) (by simp [zc]<;>omega) ?_ (by first | rfl | simp [ends] | (subst_vars;simp [ends])) (by simp [ends]) (by simp [ends])
   rfl
  ·have g': ¬wM (ks.getD 0 default) q.cond≠0:=by simpa using g
   rw [if_neg g'] at hr
   refine ⟨by omega,by omega,?_⟩
   rw [<-hr,zx]
   refine zm [[1],[0]] rfl (by simp) (by simp [zc]<;>omega) ?_ (by first | rfl | simp [ends] | (subst_vars;simp [ends])) (by simp [ends]) (by simp [ends])
   rfl
 have o3': ¬q.op=3:=by simpa using o3
 rw [if_neg o3'] at hr
 refine za (fun o4=>?_) fun o4=>?_
 ·have o4':q.op=4:=by simpa using o4
  have hkn:(yh q.op).kids=1:=by rw [o4'];rfl
  rw [if_pos o4'] at hr
  have hk1:ks.length=1:=by omega
  have hel:=hq.exprs
  refine za (fun g1=>?_) fun g1=>?_
  ·have g1':q.exprs.length=0:=by have:=of_decide_eq_true g1;omega
   rw [<-hr,if_pos (.inl g1'),zx]
   refine zm [[1],[0]] rfl (by simp) (by simp [zc]<;>omega) ?_ (by first | rfl | simp [ends] | (subst_vars;simp [ends])) (by simp [ends]) (by simp [ends])
   rfl
  have g1': ¬q.exprs.length=0:=by have:=of_decide_eq_false g1;omega
  refine za (fun g2=>?_) fun g2=>?_
  ·have g2':q.exprs.length>24:=by have:=of_decide_eq_true g2;omega
   rw [<-hr,if_pos (.inr g2'),zx]
   refine zm [[1],[0]] rfl (by simp) (by simp [zc]<;>omega) ?_ (by first | rfl | simp [ends] | (subst_vars;simp [ends])) (by simp [ends]) (by simp [ends])
   rfl
  have g2': ¬q.exprs.length>24:=by have:=of_decide_eq_false g2;omega
  rw [if_neg (fun h=>h.elim g1' g2')] at hr
  refine ⟨by omega,by omega,?_⟩
  have hcl:=c_list4 (ks.getD 0 default) q.exprs (Nat.le_trans (hg 0) (by omega)) hel hq.ex
  unfold zx at hcl
  refine callx_ofV [] (view_raw _ _) (hcl) (by simp [yb,ends,bs]) (by simp [ends,bs]) (by simp [yb,ends]) (by simp [idsOk,lookO,updO,ren1]) ?_
  simp -implicitDefEqProofs only [↓zb,push_cast,simprocAttr,tte]
  refine ⟨zg (by kernel_rfl),?_⟩
  rw [<-hr,zx]
  refine zm [[1],[0]] rfl (by simp) (by simp [zc]<;>omega) ?_ (by first | rfl | simp [ends] | (subst_vars;simp [ends])) (by simp [ends]) (by simp [ends])
  rfl
 have o4': ¬q.op=4:=by simpa using o4
 rw [if_neg o4'] at hr
 refine za (fun o5=>?_) fun o5=>?_
 ·have o5':q.op=5:=by simpa using o5
  have hkn:(yh q.op).kids=2:=by rw [o5'];rfl
  rw [if_pos o5'] at hr
  have hk1:ks.length=2:=by omega
  refine ⟨by omega,by omega,by omega,by omega,?_⟩
  have hj:=c_join4 (ks.getD 0 default) (ks.getD 1 default) q (hg 0) (hg 1) hq
  rw [zY] at hj
  refine zd [[1],[1],[0,0,0,0,0,0,0,0,0,6,6,7,1,1,15]] [] (hj) ?_
  simp -implicitDefEqProofs only [zx,↓zb,push_cast,simprocAttr,tte]
  refine ⟨zg (by kernel_rfl),?_⟩
  rw [<-hr,zx]
  refine zm [[1],[0]] rfl (by simp) (by simp [zc]<;>omega) ?_ (by first | rfl | simp [ends] | (subst_vars;simp [ends])) (by simp [ends]) (by simp [ends])
  rfl
 have o5': ¬q.op=5:=by simpa using o5
 rw [if_neg o5'] at hr
 refine za (fun o10=>?_) fun o10=>?_
 ·have o10':q.op=10:=by simpa using o10
  have hkn:(yh q.op).kids=1:=by rw [o10'];rfl
  rw [if_pos o10'] at hr
  have hk1:ks.length=1:=by omega
  refine ⟨by omega,by omega,?_⟩
  have hj:=c_group4 (ks.getD 0 default) q (Nat.le_trans (hg 0) (by omega)) hq
  rw [zY] at hj
  refine zd [[1],[0,0,0,0,0,0,0,0,0,6,6,7,1,1,15]] [] (hj) ?_
  simp -implicitDefEqProofs only [zx,↓zb,push_cast,simprocAttr,tte]
  refine ⟨zg (by kernel_rfl),?_⟩
  rw [<-hr,zx]
  refine zm [[1],[0]] rfl (by simp) (by simp [zc]<;>omega) ?_ (by first | rfl | simp [ends] | (subst_vars;simp [ends])) (by simp [ends]) (by simp [ends])
  rfl
 have o10': ¬q.op=10:=by simpa using o10
 rw [if_neg o10'] at hr
 refine za (fun o9=>?_) fun o9=>?_
 ·have o9':q.op=9:=by simpa using o9
  have hkn:(yh q.op).kids=1:=by rw [o9'];rfl
  have hk1:ks.length=1:=by omega
  rw [if_neg (by omega)] at hr
  refine ⟨by omega,by omega,?_⟩
  rw [<-hr,zx]
  refine zm [[1],[0]] rfl (by simp) (by simp [zc]<;>omega) ?_ (by first | rfl | simp [ends] | (subst_vars;simp [ends])) (by simp [ends]) (by simp [ends])
  rfl
 have o9': ¬q.op=9:=by simpa using o9
 have o678:q.op=6\/q.op=7\/q.op=8:=by
  simp only [isFm,Bool.and_eq_true,decide_eq_true_eq] at k1'
  omega
 have hkn:(yh q.op).kids=2:=by rcases o678 with h | h | h<;>rw [h]<;>rfl
 have hk1:ks.length=2:=by omega
 rw [if_pos o678] at hr
 refine ⟨by omega,by omega,by omega,by omega,?_⟩
 refine zd [[1],[1]] [] (c_ints4 (ks.getD 0 default) (ks.getD 1 default) (Nat.le_trans (hg 0) (by omega))) ?_
 simp -implicitDefEqProofs only [↓zb,push_cast,simprocAttr,tte]
 refine ⟨zg (by kernel_rfl),?_⟩
 refine za (fun g=>?_) fun g=>?_
 ·have g': ¬(ks.getD 0 default==ks.getD 1 default)=true:=by simpa using g
  rw [<-hr,if_neg g',zx]
  refine zm [[1],[0]] rfl (by simp) (by simp [zc]<;>omega) ?_ (by first | rfl | simp [ends] | (subst_vars;simp [ends])) (by simp [ends]) (by simp [ends])
  rfl
 ·have g':(ks.getD 0 default==ks.getD 1 default)=true:=by simpa using g
  refine ⟨by omega,by omega,?_⟩
  rw [<-hr,if_pos g',zx]
  refine zm [[1],[0]] rfl (by simp) (by simp [zc]<;>omega) ?_ (by first | rfl | simp [ends] | (subst_vars;simp [ends])) (by simp [ends]) (by simp [ends])
  rfl
theorem c_Type4 (s:Sch) (hs:SmallS s) (q:Qr) (ho:OkQ q):ACall Tryz.prog 14 [aS s,aQ q] [] (zx (jw s q)) []:=by
 have h1:=c_rqsize q ho
 have h2:=c_rqdepth q ho
 have h3:=c_typed4 s hs q ho
 rw [zY] at h1 h2 h3 ⊢
 refine zp mixed ttok Tryz.func14 Tryz.ntmps14 Tryz.results14 ?_
 generalize hr:zx (jw s q)=R
 unfold jw at hr
 simp -implicitDefEqProofs only [argT,↓zb,push_cast,simprocAttr,tte]
 refine zd [[0,0,0,0,0,0,0,0,0,6,6,7,1,1,15]] [] (h1) ?_
 simp -implicitDefEqProofs only [↓zb,push_cast,simprocAttr,tte]
 refine za (fun k1=>?_) fun k1=>?_
 ·rw [<-hr,if_pos (of_decide_eq_true k1),zx]
  refine zm [[1],[0]] rfl (by simp) (by simp [zc]<;>omega) ?_ (by first | rfl | simp [ends] | (subst_vars;simp [ends])) (by simp [ends]) (by simp [ends])
  rfl
 rw [if_neg (of_decide_eq_false k1)] at hr
 refine zd [[0,0,0,0,0,0,0,0,0,6,6,7,1,1,15]] [] (h2) ?_
 simp -implicitDefEqProofs only [↓zb,push_cast,simprocAttr,tte]
 refine za (fun k2=>?_) fun k2=>?_
 ·rw [<-hr,if_pos (of_decide_eq_true k2),zx]
  refine zm [[1],[0]] rfl (by simp) (by simp [zc]<;>omega) ?_ (by first | rfl | simp [ends] | (subst_vars;simp [ends])) (by simp [ends]) (by simp [ends])
  rfl
 rw [if_neg (of_decide_eq_false k2)] at hr
 unfold zx at h3 hr
 refine zd [[6],[0,0,0,0,0,0,0,0,0,6,6,7,1,1,15]] [] (h3) ?_
 simp -implicitDefEqProofs only [↓zb,push_cast,simprocAttr,tte]
 rw [<-hr]
 refine zm [[1],[0]] rfl (by simp) (by simp [zc]<;>omega) ?_ (by first | rfl | simp [ends] | (subst_vars;simp [ends])) (by simp [ends]) (by simp [ends])
 rfl
end
end Go.Proofs.YtampbaaiddbacaaGreatDoor
