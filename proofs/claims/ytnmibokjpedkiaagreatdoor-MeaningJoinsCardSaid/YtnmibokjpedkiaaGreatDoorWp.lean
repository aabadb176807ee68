/- Joins of two tables: a proof over an abstract machine of our own (part Wp) -/
import Derived.Test.YtnmibokjpedkiaaGreatDoorWl
set_option maxRecDepth 100000
set_option maxHeartbeats 4000000
set_option linter.all false
namespace Go.Proofs.YtnmibokjpedkiaaGreatDoor
section
open Go.Am
attribute [local simp, local push_cast] num boo str ints aV aTab zv aS aT aC aRow rRow yu x4 xf zM zL aAgg vQ vecT rBo vecB
theorem c_join8 (q:Qr) (hq:OkQ1 q) (a b:List Row) (wa wb:Nat) (ha:a.length≤1000) (hb:b.length≤1000) (hra: ∀r∈a,r.length≤1000) (hrb: ∀r∈b,r.length≤1000) (hwa:wa≤1000) (hwb:wb≤1000) (hk:1≤q.kind∧q.kind≤6):
 ACall Tryz.prog 74 [aQ q,aTab a,aTab b,num wa,num wb] [] (aTab (jnM q wa wb a b)) []:=by
 rw [yD]
 refine zn mixed ttok Tryz.func74 Tryz.ntmps74 Tryz.results74 ?_
 generalize hr:aTab (jnM q wa wb a b)=R
 have hce: ∀row,ACall Tryz.prog 73 [aE q.cond,aRow row] [] (aV (xk row q.cond)) []:=fun row=>c_reval row _ hq.cond
 simp only [xx] at hce
 simp -implicitDefEqProofs only [argT,↓zb,push_cast,simprocAttr,tte]
 refine ⟨by omega,?_⟩
 have hbit:List.replicate b.length [D.lit (.bool false)]=zd rBo (metK q [] b):=by
  have:metK q [] b=List.replicate b.length false:=by unfold metK;rw [List.eq_replicate_iff];simp
  rw [this];simp [zd,rBo]
 rw [hbit]
 have hk6:q.kind=1\/q.kind=2\/q.kind=3\/q.kind=4\/q.kind=5\/q.kind=6:=by omega
 refine zI mixed ttok (fun i:Nat=>(⟨[(13,num i),(1,aTab a),(2,aTab b),(3,num wa),(4,num wb),(5,.ptr 5 0),(11,.vec 20 b.length),(12,.vec 700 ((a.take i).flatMap (xJ q wb b)).length)],[(5,vQ q),(700,vecT ((a.take i).flatMap (xJ q wb b))),(20,vecB (metK q (a.take i) b))]⟩:SL)) (fun i=>a.length-i) (fun i=>i<=a.length) 0 (Nat.zero_le _) ?_ ?_
 ·exact (Weak.nilL 12 700 53 1 rfl rfl).trans (Weak.keepL (by simp [ends]) (by simp [vecB,ends]) (by simp [ends]))
 intro I hI i hi
 have hol:=outK_len q wb b (a.take i)
 have hol1:(a.take i).length * (b.length+1)<=1000 * 1001:=Nat.mul_le_mul (by rw [List.length_take];omega) (by omega)
 have hos:=flatM_snoc (xJ q wb b) a i
 have hms:=metK_step q a b i
 have hm0:=qY q (a.take i) b
 have hm1:=qY q (a.take (i+1)) b
 obtain ⟨O,hO⟩: ∃O,O=(a.take i).flatMap (xJ q wb b):=⟨_,rfl⟩
 obtain ⟨M0,hM0⟩: ∃M0,M0=metK q (a.take i) b:=⟨_,rfl⟩
 obtain ⟨M1,hM1⟩: ∃M1,M1=metK q (a.take (i+1)) b:=⟨_,rfl⟩
 rw [<-hO] at hol hos ⊢
 rw [<-hM0] at hms hm0 ⊢
 rw [<-hM1] at hms hm1
 simp -implicitDefEqProofs only [vecB,↓zb,push_cast,simprocAttr,tte]
 refine za (fun h=>?_) fun h=>?_
 ·have h':i<a.length:=by have:=of_decide_eq_true h;omega
  have hw:=zj h' (by omega)
  have hos:=hos h'
  have hms:=fun k=>hms k h'
  have hra':=hra _ (zk h')
  obtain ⟨r,hrr⟩: ∃r,r=a.getD i default:=⟨_,rfl⟩
  rw [<-hrr] at hos hms hra'
  refine zI mixed ttok (fun k:Nat=>(⟨[(15,num k),(14,boo ((b.take k).any (okJ q r))),(13,num i),(1,aTab a),(2,aTab b),(3,num wa),(4,num wb),(5,.ptr 5 0),(11,.vec 20 b.length),(12,.vec 700 (O++(if q.kind<5 then ((b.take k).filter (okJ q r)).map (r++ ·) else [])).length)],
   [(5,vQ q),(700,vecT (O++(if q.kind<5 then ((b.take k).filter (okJ q r)).map (r++ ·) else []))),(20,vecB (mixK M0 M1 k))]⟩:SL)) (fun k=>b.length-k) (fun k=>k<=b.length) 0 (Nat.zero_le _) ?_ ?_
  ·have e0:mixK M0 M1 0=M0:=by simp [mixK]
   exact Weak.keepL (by simp [ends]) (by simp [vecB,e0,ends]) (by simp [ends])
  intro J hJ k hk2
  have hfs:=kV (okJ q r) b k
  have has:=any_snoc (okJ q r) b k
  have hml:=mixK_len (hm0.trans hm1.symm) k (by omega)
  have hmset:=mixK_set (hm0.trans hm1.symm) k
  have hmsame:=mixK_same (hm0.trans hm1.symm) k
  have hgl:(O++(if q.kind<5 then ((b.take k).filter (okJ q r)).map (r++ ·) else [])).length<=2002000:=by
   rw [List.length_append]
   have:(if q.kind<5 then ((b.take k).filter (okJ q r)).map (r++ ·) else []).length<=1000:=by
    split
    ·rw [List.length_map]
     exact Nat.le_trans (List.length_filter_le _ _) (by rw [List.length_take];omega)
    ·exact Nat.zero_le _
   omega
  obtain ⟨f,hf⟩: ∃f,f=(b.take k).any (okJ q r):=⟨_,rfl⟩
  obtain ⟨M,hM⟩: ∃M,M=mixK M0 M1 k:=⟨_,rfl⟩
  obtain ⟨G,hG⟩: ∃G,G=(O++(if q.kind<5 then ((b.take k).filter (okJ q r)).map (r++ ·) else [])):=⟨_,rfl⟩
  rw [<-hf] at has ⊢
  rw [<-hM] at hml hmset hmsame ⊢
  rw [<-hG] at hgl ⊢
  simp -implicitDefEqProofs only [vecB,↓zb,push_cast,simprocAttr,tte]
  refine za (fun g=>?_) fun g=>?_
  ·have g':k<b.length:=by have:=of_decide_eq_true g;omega
   have hwk:=zj g' (by omega)
   have hfs:=hfs g'
   have has:=has g'
   have hmset:=hmset (by omega)
   have hmsame:=hmsame (by omega)
   have hms:=hms k g'
   have hrb':=hrb _ (zk g')
   refine ⟨by omega,by omega,?_⟩
   rw [<-hrr]
   obtain ⟨t,ht⟩: ∃t,t=b.getD k default:=⟨_,rfl⟩
   rw [<-ht] at hfs has hms hrb' ⊢
   refine ze [[3],[3]] [] (c_both r t hra' hrb') ?_
   simp -implicitDefEqProofs only [↓zb,push_cast,simprocAttr,tte]
   refine ⟨zf (by kernel_rfl),?_⟩
   refine ze [[0,0,0,0,0,6],[3]] [] (hce (r++t)) ?_
   simp -implicitDefEqProofs only [aV,↓zb,push_cast,simprocAttr,tte]
   refine ze [[0,0,0]] [] (vP (xk (r++t) q.cond)) ?_
   simp -implicitDefEqProofs only [↓zb,push_cast,simprocAttr,tte]
   have hok:okJ q r t=(zQ (xk (r++t) q.cond)==1):=rfl
   have hle:(O++(if q.kind<5 then ((b.take (k+1)).filter (okJ q r)).map (r++ ·) else []))=if okJ q r t=true/\q.kind<5 then G++[r++t] else G:=by
    rw [hG,hfs]
    by_cases hq5:q.kind<5
    ·have e5: ∀(x y:List Row),(if q.kind<5 then x else y)=x:=fun x y=>if_pos hq5
     simp only [e5]
     cases hq6:okJ q r t with
     | false=>simp
     | true=>simp [hq5]
    ·have e5: ∀(x y:List Row),(if q.kind<5 then x else y)=y:=fun x y=>if_neg hq5
     simp only [e5]
     rw [if_neg (fun h=>hq5 h.2)]
   refine za (fun c1=>?_) fun c1=>?_
   ·have hno:okJ q r t=false:=by rw [hok];simpa [bne] using c1
    rw [hno] at hle has hms
    rw [if_neg (show¬(false=true/\q.kind<5) from fun h=>by cases h.1)] at hle
    rw [Bool.or_false] at has hms
    have hmm:=hmsame hms
    refine zm hJ (k+1) g' (by show b.length-(k+1)<b.length-k;omega) ?_
    rw [hle,has,hmm]
    exact Weak.keepL (by simp [hwk,ends]) (by simp [vecB,ends]) (by simp [ends])
   ·have hyes:okJ q r t=true:=by rw [hok];simpa [bne] using c1
    rw [hyes] at hle has hms
    rw [Bool.or_true] at has hms
    rw [hms] at hmset
    have hset:(zd rBo M).set k (D.lit (.bool true)::List.drop 1 ((zd rBo M).getD k []))=zd rBo (M.set k true):=by
     rw [wF _ _ _ (by omega)]
     exact qp rBo M k true
    refine ⟨⟨by omega,by omega⟩,⟨by omega,by omega,by omega⟩,?_⟩
    rw [hset]
    refine za (fun c5=>?_) fun c5=>?_
    ·have c5': ¬q.kind=5:=by simpa using c5
     refine za (fun c6=>?_) fun c6=>?_
     ·have c6': ¬q.kind=6:=by simpa using c6
      rw [if_pos (show true=true/\q.kind<5 from ⟨rfl,by omega⟩)] at hle
      have hrows:zd rRow G++[[D.sl 3 (zd rV (r++t))]]=zd rRow (G++[r++t]):=zh rRow G [r++t]
      have hgl1:G.length+1=(G++[r++t]).length:=by rw [List.length_append];rfl
      rw [hrows,hgl1]
      refine ⟨by omega,?_⟩
      refine zm hJ (k+1) g' (by show b.length-(k+1)<b.length-k;omega) ?_
      rw [hle,has,hmset]
      exact Weak.keepL (by simp [hwk,ends]) (by simp [vecB,ends]) (by simp [ends])
     ·have c6':q.kind=6:=by simpa using c6
      rw [if_neg (show¬(true=true/\q.kind<5) from fun h=>by have:=h.2;omega)] at hle
      refine zm hJ (k+1) g' (by show b.length-(k+1)<b.length-k;omega) ?_
      rw [hle,has,hmset]
      exact Weak.keepL (by simp [hwk,ends]) (by simp [vecB,ends]) (by simp [ends])
    ·have c5':q.kind=5:=by simpa using c5
     rw [if_neg (show¬(true=true/\q.kind<5) from fun h=>by have:=h.2;omega)] at hle
     refine zm hJ (k+1) g' (by show b.length-(k+1)<b.length-k;omega) ?_
     rw [hle,has,hmset]
     exact Weak.keepL (by simp [hwk,ends]) (by simp [vecB,ends]) (by simp [ends])
  obtain rfl:k=b.length:=by have:=of_decide_eq_false g;omega
  rw [List.take_length] at hf hG
  have hM2:M=M1:=by rw [hM,<-hm1];exact mixK_end (hm0.trans hm1.symm)
  subst hM2
  have hoj:(a.take (i+1)).flatMap (xJ q wb b)=G++qG q wb f r:=by
   rw [hos,hG,hf,xJ,List.append_assoc]
  rw [hM1] at *
  have hrow1: ∀x:Row,zd rRow G++[[D.sl 3 (zd rV x)]]=zd rRow (G++[x]):=fun x=>zh rRow G [x]
  have hlen1: ∀x:Row,G.length+1=(G++[x]).length:=fun x=>by rw [List.length_append];rfl
  have hnl:=uq wb
  unfold qG at hoj
  clear hos hmset hmsame hms has hfs hJ
  rw [<-hrr]
  rcases hk6 with h1 | h1 | h1 | h1 | h1 | h1<;>cases f
  ·simp -implicitDefEqProofs only [h1,↓zb,push_cast,simprocAttr,tte]
   simp [h1] at hoj
   refine zm hI (i+1) h' (by show a.length-(i+1)<a.length-i;omega) ?_
   rw [hoj]
   exact Weak.keepL (by simp [hw,ends]) (by simp [h1,vecB,ends]) (by simp [ends])
  ·simp -implicitDefEqProofs only [h1,↓zb,push_cast,simprocAttr,tte]
   simp [h1] at hoj
   refine zm hI (i+1) h' (by show a.length-(i+1)<a.length-i;omega) ?_
   rw [hoj]
   exact Weak.keepL (by simp [hw,ends]) (by simp [h1,vecB,ends]) (by simp [ends])
  ·simp -implicitDefEqProofs only [h1,↓zb,push_cast,simprocAttr,tte]
   simp [h1] at hoj
   refine ⟨by omega,⟨by omega,by omega,by omega⟩,?_⟩
   rw [xO]
   refine ze [[3],[3]] [] (c_both r (zF wb) hra' (by omega)) ?_
   simp -implicitDefEqProofs only [h1,↓zb,push_cast,simprocAttr,tte]
   rw [hrow1,hlen1 (r++zF wb)]
   refine ⟨by have:=hlen1 (r++zF wb);omega,zf (by kernel_rfl),?_⟩
   refine zm hI (i+1) h' (by show a.length-(i+1)<a.length-i;omega) ?_
   rw [hoj]
   exact Weak.keepL (by simp [hw,ends]) (by simp [h1,vecB,ends]) (by simp [ends])
  ·simp -implicitDefEqProofs only [h1,↓zb,push_cast,simprocAttr,tte]
   simp [h1] at hoj
   refine zm hI (i+1) h' (by show a.length-(i+1)<a.length-i;omega) ?_
   rw [hoj]
   exact Weak.keepL (by simp [hw,ends]) (by simp [h1,vecB,ends]) (by simp [ends])
  ·simp -implicitDefEqProofs only [h1,↓zb,push_cast,simprocAttr,tte]
   simp [h1] at hoj
   refine zm hI (i+1) h' (by show a.length-(i+1)<a.length-i;omega) ?_
   rw [hoj]
   exact Weak.keepL (by simp [hw,ends]) (by simp [h1,vecB,ends]) (by simp [ends])
  ·simp -implicitDefEqProofs only [h1,↓zb,push_cast,simprocAttr,tte]
   simp [h1] at hoj
   refine zm hI (i+1) h' (by show a.length-(i+1)<a.length-i;omega) ?_
   rw [hoj]
   exact Weak.keepL (by simp [hw,ends]) (by simp [h1,vecB,ends]) (by simp [ends])
  ·simp -implicitDefEqProofs only [h1,↓zb,push_cast,simprocAttr,tte]
   simp [h1] at hoj
   refine ⟨by omega,⟨by omega,by omega,by omega⟩,?_⟩
   rw [xO]
   refine ze [[3],[3]] [] (c_both r (zF wb) hra' (by omega)) ?_
   simp -implicitDefEqProofs only [h1,↓zb,push_cast,simprocAttr,tte]
   rw [hrow1,hlen1 (r++zF wb)]
   refine ⟨by have:=hlen1 (r++zF wb);omega,zf (by kernel_rfl),?_⟩
   refine zm hI (i+1) h' (by show a.length-(i+1)<a.length-i;omega) ?_
   rw [hoj]
   exact Weak.keepL (by simp [hw,ends]) (by simp [h1,vecB,ends]) (by simp [ends])
  ·simp -implicitDefEqProofs only [h1,↓zb,push_cast,simprocAttr,tte]
   simp [h1] at hoj
   refine zm hI (i+1) h' (by show a.length-(i+1)<a.length-i;omega) ?_
   rw [hoj]
   exact Weak.keepL (by simp [hw,ends]) (by simp [h1,vecB,ends]) (by simp [ends])
  ·simp -implicitDefEqProofs only [h1,↓zb,push_cast,simprocAttr,tte]
   simp [h1] at hoj
   refine zm hI (i+1) h' (by show a.length-(i+1)<a.length-i;omega) ?_
   rw [hoj]
   exact Weak.keepL (by simp [hw,ends]) (by simp [h1,vecB,ends]) (by simp [ends])
  ·simp -implicitDefEqProofs only [h1,↓zb,push_cast,simprocAttr,tte]
   simp [h1] at hoj
   rw [hrow1,hlen1 r]
   refine ⟨by omega,by have:=hlen1 r;omega,?_⟩
   refine zm hI (i+1) h' (by show a.length-(i+1)<a.length-i;omega) ?_
   rw [hoj]
   exact Weak.keepL (by simp [hw,ends]) (by simp [h1,vecB,ends]) (by simp [ends])
  ·simp -implicitDefEqProofs only [h1,↓zb,push_cast,simprocAttr,tte]
   simp [h1] at hoj
   rw [hrow1,hlen1 r]
   refine ⟨by omega,by have:=hlen1 r;omega,?_⟩
   refine zm hI (i+1) h' (by show a.length-(i+1)<a.length-i;omega) ?_
   rw [hoj]
   exact Weak.keepL (by simp [hw,ends]) (by simp [h1,vecB,ends]) (by simp [ends])
  ·simp -implicitDefEqProofs only [h1,↓zb,push_cast,simprocAttr,tte]
   simp [h1] at hoj
   refine zm hI (i+1) h' (by show a.length-(i+1)<a.length-i;omega) ?_
   rw [hoj]
   exact Weak.keepL (by simp [hw,ends]) (by simp [h1,vecB,ends]) (by simp [ends])
 obtain rfl:i=a.length:=by have:=of_decide_eq_false h;omega
 rw [List.take_length] at hO hM0
 clear hos hms hm1 hM1 hI
 obtain ⟨p,hp⟩: ∃p:Row->Bool,p=fun t=> !(a.any fun r=>okJ q r t):=⟨_,rfl⟩
 have hJ:jnM q wa wb a b=O++(if q.kind=3\/q.kind=4 then (b.filter p).map (zF wa++ ·) else []):=by unfold jnM joinR;rw [hO,hp]
 have hOl:O.length<=1001000:=by omega
 have hget: ∀k,k<b.length->M0.getD k default=a.any fun r=>okJ q r (b.getD k default):=fun k hk=>by rw [hM0];exact qZ q a b k hk
 clear hM0
 refine zI mixed ttok (fun k:Nat=>(⟨[(17,num k),(2,aTab b),(3,num wa),(5,.ptr 5 0),(11,.vec 20 b.length),(12,.vec 700 (O++(if q.kind=3\/q.kind=4 then ((b.take k).filter p).map (zF wa++ ·) else [])).length)],[(5,vQ q),(700,vecT (O++(if q.kind=3\/q.kind=4 then ((b.take k).filter p).map (zF wa++ ·) else []))),(20,vecB M0)]⟩:SL)) (fun k=>b.length-k) (fun k=>k<=b.length) 0 (Nat.zero_le _) ?_ ?_
 ·exact Weak.keepL (by simp [ends]) (by simp [vecB,ends]) (by simp [ends])
 intro I hI k hk2
 have hfs:=kV p b k
 have hgl:(O++(if q.kind=3\/q.kind=4 then ((b.take k).filter p).map (zF wa++ ·) else [])).length<=1002000:=by
  rw [List.length_append]
  split
  ·rw [List.length_map]
   have:=List.length_filter_le p (b.take k)
   rw [List.length_take] at this
   omega
  ·simp;omega
 obtain ⟨G,hG⟩: ∃G,G=O++(if q.kind=3\/q.kind=4 then ((b.take k).filter p).map (zF wa++ ·) else []):=⟨_,rfl⟩
 rw [<-hG] at hgl ⊢
 have hnl:=uq wa
 simp -implicitDefEqProofs only [vecB,↓zb,push_cast,simprocAttr,tte]
 refine za (fun g=>?_) fun g=>?_
 ·have g':k<b.length:=by have:=of_decide_eq_true g;omega
  have hwk:=zj g' (by omega)
  have hfs:=hfs g'
  have hget:=hget k g'
  have hrb':=hrb _ (zk g')
  have hpt:p (b.getD k default)= !(M0.getD k default):=by rw [hget,hp]
  have hrow1: ∀x:Row,zd rRow G++[[D.sl 3 (zd rV x)]]=zd rRow (G++[x]):=fun x=>zh rRow G [x]
  have hlen1: ∀x:Row,G.length+1=(G++[x]).length:=fun x=>by rw [List.length_append];rfl
  clear hget hJ
  refine ⟨⟨by omega,by omega⟩,by omega,by omega,?_⟩
  generalize M0.getD k default=m at hpt ⊢
  rcases hk6 with h1 | h1 | h1 | h1 | h1 | h1<;>cases m
  ·simp -implicitDefEqProofs only [h1,↓zb,push_cast,simprocAttr,tte]
   have hg2:O++(if q.kind=3\/q.kind=4 then ((b.take (k+1)).filter p).map (zF wa++ ·) else [])=G:=by rw [hG,hfs,hpt];simp [h1]
   refine zm hI (k+1) g' (by show b.length-(k+1)<b.length-k;omega) ?_
   rw [hg2]
   exact Weak.keepL (by simp [hwk,ends]) (by simp [h1,vecB,ends]) (by simp [ends])
  ·simp -implicitDefEqProofs only [h1,↓zb,push_cast,simprocAttr,tte]
   have hg2:O++(if q.kind=3\/q.kind=4 then ((b.take (k+1)).filter p).map (zF wa++ ·) else [])=G:=by rw [hG,hfs,hpt];simp [h1]
   refine zm hI (k+1) g' (by show b.length-(k+1)<b.length-k;omega) ?_
   rw [hg2]
   exact Weak.keepL (by simp [hwk,ends]) (by simp [h1,vecB,ends]) (by simp [ends])
  ·simp -implicitDefEqProofs only [h1,↓zb,push_cast,simprocAttr,tte]
   have hg2:O++(if q.kind=3\/q.kind=4 then ((b.take (k+1)).filter p).map (zF wa++ ·) else [])=G:=by rw [hG,hfs,hpt];simp [h1]
   refine zm hI (k+1) g' (by show b.length-(k+1)<b.length-k;omega) ?_
   rw [hg2]
   exact Weak.keepL (by simp [hwk,ends]) (by simp [h1,vecB,ends]) (by simp [ends])
  ·simp -implicitDefEqProofs only [h1,↓zb,push_cast,simprocAttr,tte]
   have hg2:O++(if q.kind=3\/q.kind=4 then ((b.take (k+1)).filter p).map (zF wa++ ·) else [])=G:=by rw [hG,hfs,hpt];simp [h1]
   refine zm hI (k+1) g' (by show b.length-(k+1)<b.length-k;omega) ?_
   rw [hg2]
   exact Weak.keepL (by simp [hwk,ends]) (by simp [h1,vecB,ends]) (by simp [ends])
  ·simp -implicitDefEqProofs only [h1,↓zb,push_cast,simprocAttr,tte]
   have hg2:O++(if q.kind=3\/q.kind=4 then ((b.take (k+1)).filter p).map (zF wa++ ·) else [])=G++[zF wa++b.getD k default]:=by rw [hG,hfs,hpt];simp [h1]
   refine ⟨⟨by omega,by omega,by omega⟩,by omega,?_⟩
   rw [xO]
   refine ze [[3],[3]] [] (c_both (zF wa) (b.getD k default) (by omega) hrb') ?_
   simp -implicitDefEqProofs only [h1,↓zb,push_cast,simprocAttr,tte]
   rw [hrow1,hlen1 (zF wa++b.getD k default)]
   refine ⟨by have:=hlen1 (zF wa++b.getD k default);omega,zf (by kernel_rfl),?_⟩
   refine zm hI (k+1) g' (by show b.length-(k+1)<b.length-k;omega) ?_
   rw [hg2]
   exact Weak.keepL (by simp [hwk,ends]) (by simp [h1,vecB,ends]) (by simp [ends])
  ·simp -implicitDefEqProofs only [h1,↓zb,push_cast,simprocAttr,tte]
   have hg2:O++(if q.kind=3\/q.kind=4 then ((b.take (k+1)).filter p).map (zF wa++ ·) else [])=G:=by rw [hG,hfs,hpt];simp [h1]
   refine zm hI (k+1) g' (by show b.length-(k+1)<b.length-k;omega) ?_
   rw [hg2]
   exact Weak.keepL (by simp [hwk,ends]) (by simp [h1,vecB,ends]) (by simp [ends])
  ·simp -implicitDefEqProofs only [h1,↓zb,push_cast,simprocAttr,tte]
   have hg2:O++(if q.kind=3\/q.kind=4 then ((b.take (k+1)).filter p).map (zF wa++ ·) else [])=G++[zF wa++b.getD k default]:=by rw [hG,hfs,hpt];simp [h1]
   refine ⟨⟨by omega,by omega,by omega⟩,by omega,?_⟩
   rw [xO]
   refine ze [[3],[3]] [] (c_both (zF wa) (b.getD k default) (by omega) hrb') ?_
   simp -implicitDefEqProofs only [h1,↓zb,push_cast,simprocAttr,tte]
   rw [hrow1,hlen1 (zF wa++b.getD k default)]
   refine ⟨by have:=hlen1 (zF wa++b.getD k default);omega,zf (by kernel_rfl),?_⟩
   refine zm hI (k+1) g' (by show b.length-(k+1)<b.length-k;omega) ?_
   rw [hg2]
   exact Weak.keepL (by simp [hwk,ends]) (by simp [h1,vecB,ends]) (by simp [ends])
  ·simp -implicitDefEqProofs only [h1,↓zb,push_cast,simprocAttr,tte]
   have hg2:O++(if q.kind=3\/q.kind=4 then ((b.take (k+1)).filter p).map (zF wa++ ·) else [])=G:=by rw [hG,hfs,hpt];simp [h1]
   refine zm hI (k+1) g' (by show b.length-(k+1)<b.length-k;omega) ?_
   rw [hg2]
   exact Weak.keepL (by simp [hwk,ends]) (by simp [h1,vecB,ends]) (by simp [ends])
  ·simp -implicitDefEqProofs only [h1,↓zb,push_cast,simprocAttr,tte]
   have hg2:O++(if q.kind=3\/q.kind=4 then ((b.take (k+1)).filter p).map (zF wa++ ·) else [])=G:=by rw [hG,hfs,hpt];simp [h1]
   refine zm hI (k+1) g' (by show b.length-(k+1)<b.length-k;omega) ?_
   rw [hg2]
   exact Weak.keepL (by simp [hwk,ends]) (by simp [h1,vecB,ends]) (by simp [ends])
  ·simp -implicitDefEqProofs only [h1,↓zb,push_cast,simprocAttr,tte]
   have hg2:O++(if q.kind=3\/q.kind=4 then ((b.take (k+1)).filter p).map (zF wa++ ·) else [])=G:=by rw [hG,hfs,hpt];simp [h1]
   refine zm hI (k+1) g' (by show b.length-(k+1)<b.length-k;omega) ?_
   rw [hg2]
   exact Weak.keepL (by simp [hwk,ends]) (by simp [h1,vecB,ends]) (by simp [ends])
  ·simp -implicitDefEqProofs only [h1,↓zb,push_cast,simprocAttr,tte]
   have hg2:O++(if q.kind=3\/q.kind=4 then ((b.take (k+1)).filter p).map (zF wa++ ·) else [])=G:=by rw [hG,hfs,hpt];simp [h1]
   refine zm hI (k+1) g' (by show b.length-(k+1)<b.length-k;omega) ?_
   rw [hg2]
   exact Weak.keepL (by simp [hwk,ends]) (by simp [h1,vecB,ends]) (by simp [ends])
  ·simp -implicitDefEqProofs only [h1,↓zb,push_cast,simprocAttr,tte]
   have hg2:O++(if q.kind=3\/q.kind=4 then ((b.take (k+1)).filter p).map (zF wa++ ·) else [])=G:=by rw [hG,hfs,hpt];simp [h1]
   refine zm hI (k+1) g' (by show b.length-(k+1)<b.length-k;omega) ?_
   rw [hg2]
   exact Weak.keepL (by simp [hwk,ends]) (by simp [h1,vecB,ends]) (by simp [ends])
 obtain rfl:k=b.length:=by have:=of_decide_eq_false g;omega
 rw [List.take_length,<-hJ] at hG
 subst hG
 refine zu [1] rfl (by simp) (by simp [zc]<;>omega) ?_ (by first | rfl | simp [ends] | (subst_vars;simp [ends])) (by simp [ends]) (by simp [ends])
 exact hr
end
section
open Go.Am
attribute [local simp, local push_cast] num boo str ints aV aTab zv aS aT aC aRow rRow yu x4 xf zM zL aAgg vQ vecT rBo vecB zR rTab
def CG:Prop:= ∀(q:Qr) (rows:List Row),OkQ1 q->OkXQ1 q->rows.length<=1000->(∀r∈rows,r.length<=1000)->(∀r∈rows,∀v∈r,okV v)->ACall Tryz.prog 79 [aQ q,aTab rows] [] (aTab (grR q rows)) []
inductive R8 (s:Sch):Qr->Prop
 | mk (q:Qr) (h:q.op=10->CG) (ht:q.op=5-> ∀k∈q.kids,we s k=typQ s k) (hk: ∀k∈q.kids,R8 s k):R8 s q
theorem R8.typ {s:Sch} {q:Qr} (h:R8 s q):q.op=5-> ∀k∈q.kids,we s k=typQ s k:=by cases h;assumption
theorem R8.kid {s:Sch} {q k:Qr} (h:R8 s q) (hk:k∈q.kids):R8 s k:=by cases h with | mk _ _ _ h2=>exact h2 k hk
def evOpR (s:Sch) (i:Inst) (q:Qr) (ks:List (List Row)):List Row×Bool:=
 if q.op=5/\50000<(ks.getD 0 []).length * (ks.getD 1 []).length then ([],false)
 else (outM grR s i q (typQ s (q.kids.getD 0 default)).1.length (typQ s (q.kids.getD 1 default)).1.length (ks.getD 0 []) (ks.getD 1 []),
  decide ((outM grR s i q (typQ s (q.kids.getD 0 default)).1.length (typQ s (q.kids.getD 1 default)).1.length (ks.getD 0 []) (ks.getD 1 [])).length<=1000))
def evR (s:Sch) (i:Inst) (q:Qr):List Row×Bool:=match allO (q.kids.map (evQ grR s i)) with
 | none=>([],false)
 | some ks=>evOpR s i q ks
theorem evR_some {s:Sch} {i:Inst} {q:Qr} (h:(evR s i q).2=true):evQ grR s i q=some (evR s i q).1:=by
 rw [jJ]
 unfold evR at h ⊢
 split at h
 ·cases h
 ·rename_i ks hks
  rw [hks] at *
  show evOp grR s i q ks=some (evOpR s i q ks).1
  unfold evOpR at h ⊢
  unfold evOp
  split
  ·rename_i h1;rw [if_pos h1] at h;cases h
  ·rename_i h1
   rw [if_neg h1] at h
   have:=of_decide_eq_true h
   rw [if_neg (by omega)]
theorem evR_none {s:Sch} {i:Inst} {q:Qr} (h:(evR s i q).2=false):evQ grR s i q=none:=by
 rw [jJ]
 unfold evR at h
 split at h
 ·rename_i hks;rw [hks];rfl
 ·rename_i ks hks
  rw [hks]
  show evOp grR s i q ks=none
  unfold evOpR at h
  unfold evOp
  split
  ·rfl
  ·rename_i h1
   rw [if_neg h1] at h
   have:=of_decide_eq_false h
   rw [if_pos (by omega)]
def kid8 (s:Sch) (i:Inst) (q:Qr) (n:Nat):List (List Row):=(q.kids.take n).map fun k=>(evQ grR s i k).getD []
end
section
open Go.Am
attribute [local simp, local push_cast] num boo str ints aV aTab zv aS aT aC aRow rRow yu x4 xf zM zL aAgg vQ vecT zR rTab kj
end
end Go.Proofs.YtnmibokjpedkiaaGreatDoor
