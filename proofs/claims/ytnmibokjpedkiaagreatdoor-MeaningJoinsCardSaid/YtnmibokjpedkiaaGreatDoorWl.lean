/- Joins of two tables: a proof over an abstract machine of our own (part Wl) -/
import Derived.Test.YtnmibokjpedkiaaGreatDoorWk
set_option maxRecDepth 100000
set_option maxHeartbeats 4000000
set_option linter.all false
namespace Go.Proofs.YtnmibokjpedkiaaGreatDoor
section
open Go.Am
attribute [local simp, local push_cast] num boo str ints aV aTab zv aS aT aC aRow rRow yu x4 xf zM zL aAgg rKk aKR vecKk vQ vecT
def vKs (l:List KRow):Ob:= .var [.d (.sl 2 (zd rKk l))]
attribute [local simp, local push_cast] vKs
end
section
open Go.Am
attribute [local simp, local push_cast] num boo str ints aV aTab zv aS aT aC aRow rRow yu x4 xf zM zL aAgg vQ vecT
def aRes (rows:List Row) (w:Nat):A:= .agg [.d (.sl 1 (zd rRow rows)),num w]
def vRes (rows:List Row) (w:Nat):Ob:= .var [.d (.sl 1 (zd rRow rows)),num w]
def rBo (b:Bool):List D:=[.lit (.bool b)]
def vecB (l:List Bool):Ob:= .vec 4 1 (zd rBo l) 0
attribute [local simp, local push_cast] aRes vRes rBo vecB
def metK (q:Qr) (a b:List Row):List Bool:=b.map fun t=>a.any fun r=>okJ q r t
def widK (q:Qr) (wa wb:Nat):Nat:=if q.kind≥5 then wa else wa+wb
theorem xO (n:Nat):List.replicate n [D.lit (.int .i64 0),D.lit (.int .i64 0),D.lit (.string ByteArray.empty)]=zd rV (zF n):=by simp [zd,rV,zF,zl]
theorem uq (n:Nat):(zF n).length=n:=by simp [zF]
theorem kV (p:Row->Bool) (l:List Row) (n:Nat) (h:n<l.length):(l.take (n+1)).filter p=(l.take n).filter p++(if p (l.getD n default)=true then [l.getD n default] else []):=by
 rw [z7 _ _ h,List.filter_append]
 generalize l.getD n default=x
 cases hp:p x<;>simp [hp]
theorem any_snoc (p:Row->Bool) (l:List Row) (n:Nat) (h:n<l.length):(l.take (n+1)).any p=((l.take n).any p || p (l.getD n default)):=by
 rw [z7 _ _ h,List.any_append];simp
def mixK (M0 M1:List Bool) (k:Nat):List Bool:=M1.take k++M0.drop k
theorem mixK_len {M0 M1:List Bool} (h:M0.length=M1.length) (k:Nat) (hk:k<=M0.length):(mixK M0 M1 k).length=M0.length:=by
 unfold mixK;rw [List.length_append,List.length_take,List.length_drop];omega
theorem mixK_set {M0 M1:List Bool} (h:M0.length=M1.length) (k:Nat) (hk:k<M0.length):mixK M0 M1 (k+1)=(mixK M0 M1 k).set k (M1.getD k default):=by
 unfold mixK
 rw [List.set_append_right _ _ (by rw [List.length_take];omega),List.length_take,show k-min k M1.length=0 by omega,z8 M0 k hk,List.set_cons_zero,z7 M1 k (by omega),List.append_assoc]
 rfl
theorem mixK_same {M0 M1:List Bool} (h:M0.length=M1.length) (k:Nat) (hk:k<M0.length) (he:M1.getD k default=M0.getD k default):mixK M0 M1 (k+1)=mixK M0 M1 k:=by
 unfold mixK
 rw [z7 M1 k (by omega),z8 M0 k hk,he]
 simp
theorem mixK_end {M0 M1:List Bool} (h:M0.length=M1.length):mixK M0 M1 M1.length=M1:=by unfold mixK;rw [List.take_length,<-h,List.drop_length,List.append_nil]
theorem qY (q:Qr) (a b:List Row):(metK q a b).length=b.length:=by unfold metK;rw [List.length_map]
theorem qZ (q:Qr) (a b:List Row) (k:Nat) (hk:k<b.length):(metK q a b).getD k default=a.any fun r=>okJ q r (b.getD k default):=by
 unfold metK
 rw [uA _ _ _ hk]
theorem metK_step (q:Qr) (a b:List Row) (i k:Nat) (hi:i<a.length) (hk:k<b.length):(metK q (a.take (i+1)) b).getD k default=((metK q (a.take i) b).getD k default || okJ q (a.getD i default) (b.getD k default)):=by
 rw [qZ _ _ _ _ hk,qZ _ _ _ _ hk,z7 _ _ hi,List.any_append]
 simp
theorem outK_len (q:Qr) (wb:Nat) (b:List Row): ∀l:List Row,(l.flatMap (xJ q wb b)).length≤l.length * (b.length+1)
 | []=>by simp
 | r::l=>by
   have ih:=outK_len q wb b l
   have h1:(xJ q wb b r).length<=b.length+1:=by
    unfold xJ qG
    rw [List.length_append]
    have h2:(if q.kind<5 then (b.filter (okJ q r)).map (r++ ·) else []).length<=b.length:=by
     split
     ·rw [List.length_map];exact List.length_filter_le _ _
     ·exact Nat.zero_le _
    have h3:(if b.any (okJ q r)=false/\(q.kind=2\/q.kind=4) then [r++zF wb] else if (b.any (okJ q r)=true/\q.kind=5)\/(b.any (okJ q r)=false/\q.kind=6) then [r] else []).length<=1:=by
     split
     ·exact Nat.le_refl _
     ·split
      ·exact Nat.le_refl _
      ·exact Nat.zero_le _
    omega
   rw [List.flatMap_cons,List.length_append,List.length_cons,Nat.add_mul]
   omega
theorem flatM_snoc (f:Row->List Row) (l:List Row) (n:Nat) (h:n<l.length):(l.take (n+1)).flatMap f=(l.take n).flatMap f++f (l.getD n default):=by
 rw [z7 _ _ h,List.flatMap_append];simp
theorem meet_or {b1 b2:Bool} {F:Prop} {P:Program} {c:Code} {K:Exit->SL->Prop} {σ1 σ2:SL} (s:SL) (h1:b1=true->Weak σ1.st s.st) (h2:b1=false->b2=true->Weak σ2.st s.st) (h3:b1=false->b2=false->F)
 (h:(b1=true\/b2=true)-> ∀σ:SL,Weak σ.st s.st->vc P c K σ):vi b1 (vc P c K σ1) (vi b2 (vc P c K σ2) F):=
 ⟨fun e=>h (.inl e) _ (h1 e),fun e=>⟨fun e2=>h (.inr e2) _ (h2 e e2),fun e2=>h3 e e2⟩⟩
theorem c_joinP (q:Qr) (hq:OkQ1 q) (a b:List Row) (wa wb:Nat) (ha:a.length≤1000) (hb:b.length≤1000) (hra: ∀r∈a,r.length≤1000) (hrb: ∀r∈b,r.length≤1000) (hwa:wa≤1000) (hwb:wb≤1000) (hk:1≤q.kind∧q.kind≤6):
 ACall Tryz.prog 63 [aQ q,aRes a wa,aRes b wb] [] (aRes (jnM q wa wb a b) (widK q wa wb)) []:=by
 rw [yD]
 refine zn mixed ttok Tryz.func63 Tryz.ntmps63 Tryz.results63 ?_
 generalize hr:aRes (jnM q wa wb a b) (widK q wa wb)=R
 obtain ⟨wab,hwab⟩: ∃wab:Int,wab=(wa:Int)+(wb:Int):=⟨_,rfl⟩
 have w0:IntKind.i64.wrap ((wa:Int)+(wb:Int))=wab:=by rw [hwab];exact zw (by omega) (by omega)
 have hce: ∀row,ACall Tryz.prog 61 [aE q.cond,aRow row] [] (aV (xk row q.cond)) []:=fun row=>c_eval row _ hq.cond
 simp only [xx] at hce
 simp -implicitDefEqProofs only [argT,w0,↓zb,push_cast,simprocAttr,tte]
 refine ⟨by omega,?_⟩
 have hbit:List.replicate b.length [D.lit (.bool false)]=zd rBo (metK q [] b):=by
  have:metK q [] b=List.replicate b.length false:=by unfold metK;rw [List.eq_replicate_iff];simp
  rw [this];simp [zd,rBo]
 rw [hbit]
 refine zI mixed ttok (fun i:Nat=>(⟨[(30,num i),(29,num a.length),(28,aTab a),(3,.ptr 3 0),(4,.ptr 4 0),(5,.ptr 5 0),(6,.ptr 6 0),(7,.ptr 7 0),(8,.vec 26 b.length)],[(3,vQ q),(4,vRes a wa),(5,vRes b wb),(6,.var [.snil,num (0:Nat)]),(7,.var [.vec 700 ((a.take i).flatMap (xJ q wb b)).length,num wab]),(700,vecT ((a.take i).flatMap (xJ q wb b))),(26,vecB (metK q (a.take i) b))]⟩:SL)) (fun i=>a.length-i) (fun i=>i<=a.length) 0 (Nat.zero_le _) ?_ ?_
 ·exact (Weak.nilCellL 7 0 700 53 1 rfl rfl rfl).trans (Weak.keepL (by simp [ends]) (by simp [vRes,vecB,ends]) (by simp [ends]))
 intro I hI i hi
 have hol:=outK_len q wb b (a.take i)
 have hol1:(a.take i).length * (b.length+1)<=1000 * 1001:=Nat.mul_le_mul (by rw [List.length_take];omega) (by omega)
 have hos:=flatM_snoc (xJ q wb b) a i
 have hms:=metK_step q a b i
 have hm0:=qY q (a.take i) b
 have hm1:=qY q (a.take (i+1)) b
 obtain ⟨O,hO⟩: ∃O,O=(a.take i).flatMap (xJ q wb b):=⟨_,rfl⟩
 obtain ⟨M0,hM0⟩: ∃M0,M0=metK q (a.take i) b:=⟨_,rfl⟩
 obtain ⟨M1,hM1⟩: ∃M1,M1=metK q (a.take (i+1)) b:=⟨_,rfl⟩
 rw [<-hO] at hol hos ⊢
 rw [<-hM0] at hms hm0 ⊢
 rw [<-hM1] at hms hm1
 simp -implicitDefEqProofs only [vRes,vecB,↓zb,push_cast,simprocAttr,tte]
 refine za (fun h=>?_) fun h=>?_
 ·have h':i<a.length:=by have:=of_decide_eq_true h;omega
  have hw:=zj h' (by omega)
  have hos:=hos h'
  have hms:=fun k=>hms k h'
  have hra':=hra _ (zk h')
  refine ⟨by omega,?_⟩
  obtain ⟨r,hrr⟩: ∃r,r=a.getD i default:=⟨_,rfl⟩
  rw [<-hrr] at hos hms hra' ⊢
  refine zI mixed ttok (fun k:Nat=>(⟨[(37,num k),(36,num b.length),(35,aTab b),(10,aRow r),(11,boo ((b.take k).any (okJ q r))),(30,num i),(29,num a.length),(28,aTab a),(3,.ptr 3 0),(4,.ptr 4 0),(5,.ptr 5 0),(6,.ptr 6 0),(7,.ptr 7 0),(8,.vec 26 b.length)],
   [(3,vQ q),(4,vRes a wa),(5,vRes b wb),(6,.var [.snil,num (0:Nat)]),(7,.var [.vec 700 (O++(if q.kind<5 then ((b.take k).filter (okJ q r)).map (r++ ·) else [])).length,num wab]),(700,vecT (O++(if q.kind<5 then ((b.take k).filter (okJ q r)).map (r++ ·) else []))),(26,vecB (mixK M0 M1 k))]⟩:SL)) (fun k=>b.length-k) (fun k=>k<=b.length) 0 (Nat.zero_le _) ?_ ?_
  ·have e0:mixK M0 M1 0=M0:=by simp [mixK]
   exact Weak.keepL (by simp [ends]) (by simp [vRes,vecB,e0,ends]) (by simp [ends])
  intro J hJ k hk2
  have hfs:=kV (okJ q r) b k
  have has:=any_snoc (okJ q r) b k
  have hml:=mixK_len (hm0.trans hm1.symm) k (by omega)
  have hmset:=mixK_set (hm0.trans hm1.symm) k
  have hmsame:=mixK_same (hm0.trans hm1.symm) k
  have hgl:(O++(if q.kind<5 then ((b.take k).filter (okJ q r)).map (r++ ·) else [])).length<=2002000:=by
   rw [List.length_append]
   have:(if q.kind<5 then ((b.take k).filter (okJ q r)).map (r++ ·) else []).length<=1000:=by
    split
    ·rw [List.length_map]
     exact Nat.le_trans (List.length_filter_le _ _) (by rw [List.length_take];omega)
    ·exact Nat.zero_le _
   omega
  obtain ⟨f,hf⟩: ∃f,f=(b.take k).any (okJ q r):=⟨_,rfl⟩
  obtain ⟨M,hM⟩: ∃M,M=mixK M0 M1 k:=⟨_,rfl⟩
  obtain ⟨G,hG⟩: ∃G,G=(O++(if q.kind<5 then ((b.take k).filter (okJ q r)).map (r++ ·) else [])):=⟨_,rfl⟩
  rw [<-hf] at has ⊢
  rw [<-hM] at hml hmset hmsame ⊢
  rw [<-hG] at hgl ⊢
  simp -implicitDefEqProofs only [vRes,vecB,↓zb,push_cast,simprocAttr,tte]
  refine za (fun g=>?_) fun g=>?_
  ·have g':k<b.length:=by have:=of_decide_eq_true g;omega
   have hwk:=zj g' (by omega)
   have hfs:=hfs g'
   have has:=has g'
   have hmset:=hmset (by omega)
   have hmsame:=hmsame (by omega)
   have hms:=hms k g'
   have hrb':=hrb _ (zk g')
   refine ⟨by omega,?_⟩
   obtain ⟨t,ht⟩: ∃t,t=b.getD k default:=⟨_,rfl⟩
   rw [<-ht] at hfs has hms hrb' ⊢
   refine ze [[1]] [] (c_cat2 r t hra' hrb') ?_
   simp -implicitDefEqProofs only [↓zb,push_cast,simprocAttr,tte]
   refine ze [[0,0,0,0,0,6],[3]] [] (hce (r++t)) ?_
   simp -implicitDefEqProofs only [aV,↓zb,push_cast,simprocAttr,tte]
   refine ze [[0,0,0]] [] (uR (xk (r++t) q.cond)) ?_
   simp -implicitDefEqProofs only [↓zb,push_cast,simprocAttr,tte]
   have hok:okJ q r t=(zQ (xk (r++t) q.cond)==1):=rfl
   have hle:(O++(if q.kind<5 then ((b.take (k+1)).filter (okJ q r)).map (r++ ·) else []))=if okJ q r t=true/\q.kind<5 then G++[r++t] else G:=by
    rw [hG,hfs]
    by_cases hq5:q.kind<5
    ·have e5: ∀(x y:List Row),(if q.kind<5 then x else y)=x:=fun x y=>if_pos hq5
     simp only [e5]
     cases hq6:okJ q r t with
     | false=>simp
     | true=>simp [hq5]
    ·have e5: ∀(x y:List Row),(if q.kind<5 then x else y)=y:=fun x y=>if_neg hq5
     simp only [e5]
     rw [if_neg (fun h=>hq5 h.2)]
   refine za (fun c1=>?_) fun c1=>?_
   ·have hno:okJ q r t=false:=by rw [hok];simpa [bne] using c1
    rw [hno] at hle has hms
    rw [if_neg (show¬(false=true/\q.kind<5) from fun h=>by cases h.1)] at hle
    rw [Bool.or_false] at has hms
    have hmm:=hmsame hms
    refine zm hJ (k+1) g' (by show b.length-(k+1)<b.length-k;omega) ?_
    rw [hle,has,hmm]
    exact Weak.keepL (by simp [hwk,ends]) (by simp [vRes,vecB,ends]) (by simp [ends])
   ·have hyes:okJ q r t=true:=by rw [hok];simpa [bne] using c1
    rw [hyes] at hle has hms
    rw [Bool.or_true] at has hms
    rw [hms] at hmset
    have hset:(zd rBo M).set k (D.lit (.bool true)::List.drop 1 ((zd rBo M).getD k []))=zd rBo (M.set k true):=by
     rw [wF _ _ _ (by omega)]
     exact qp rBo M k true
    refine ⟨⟨by omega,by omega⟩,by omega,?_⟩
    rw [hset]
    refine za (fun c2=>?_) fun c2=>?_
    ·have c2':q.kind<5:=of_decide_eq_true c2
     rw [if_pos (show true=true/\q.kind<5 from ⟨rfl,c2'⟩)] at hle
     have hrows:zd rRow G++[[D.sl 3 (zd rV (r++t))]]=zd rRow (G++[r++t]):=zh rRow G [r++t]
     have hgl1:G.length+1=(G++[r++t]).length:=by rw [List.length_append];rfl
     rw [hrows,hgl1]
     refine ⟨by omega,?_⟩
     refine zm hJ (k+1) g' (by show b.length-(k+1)<b.length-k;omega) ?_
     rw [hle,has,hmset]
     exact Weak.keepL (by simp [hwk,ends]) (by simp [vRes,vecB,ends]) (by simp [ends])
    ·have c2': ¬q.kind<5:=of_decide_eq_false c2
     rw [if_neg (show¬(true=true/\q.kind<5) from fun h=>c2' h.2)] at hle
     refine zm hJ (k+1) g' (by show b.length-(k+1)<b.length-k;omega) ?_
     rw [hle,has,hmset]
     exact Weak.keepL (by simp [hwk,ends]) (by simp [vRes,vecB,ends]) (by simp [ends])
  obtain rfl:k=b.length:=by have:=of_decide_eq_false g;omega
  rw [List.take_length] at hf hG
  have hM2:M=M1:=by rw [hM,<-hm1];exact mixK_end (hm0.trans hm1.symm)
  subst hM2
  have hoj:(a.take (i+1)).flatMap (xJ q wb b)=G++qG q wb f r:=by
   rw [hos,hG,hf,xJ,List.append_assoc]
  rw [hM1] at *
  have hnl:=uq wb
  have hgo: ∀G2:List Row,G2=G++qG q wb f r->(a.take (i+1)).flatMap (xJ q wb b)=G2:=fun G2 h=>by rw [h];exact hoj
  unfold qG at hgo
  have hrow1: ∀x:Row,zd rRow G++[[D.sl 3 (zd rV x)]]=zd rRow (G++[x]):=fun x=>zh rRow G [x]
  have hlen1: ∀x:Row,G.length+1=(G++[x]).length:=fun x=>by rw [List.length_append];rfl
  clear hoj hos hmset hmsame hms has hfs hJ
  have e2: ∀n:Int,(q.kind==n)=true->q.kind=n:=fun n h=>by simpa using h
  have n2: ∀n:Int,(q.kind==n)=false-> ¬q.kind=n:=fun n h=>by simpa using h
  refine za (fun f1=>?_) fun f1=>?_
  ·have f1':f=false:=by simpa using f1
   refine za (fun k2=>?_) fun k2=>?_
   ·have k2':=e2 _ k2
    have hgo2:=hgo (G++[r++zF wb]) (by rw [if_pos ⟨f1',.inl k2'⟩])
    refine ⟨by omega,by simp,?_⟩
    rw [xO]
    refine ze [[1]] [] (c_cat2 r (zF wb) hra' (by omega)) ?_
    simp -implicitDefEqProofs only [↓zb,push_cast,simprocAttr,tte]
    rw [hrow1,hlen1 (r++zF wb)]
    refine ⟨by have:=hlen1 (r++zF wb);omega,zf (by kernel_rfl),?_⟩
    refine zm hI (i+1) h' (by show a.length-(i+1)<a.length-i;omega) ?_
    rw [hgo2]
    exact Weak.keepL (by simp [hw,ends]) (by simp [vRes,vecB,ends]) (by simp [ends])
   have k2':=n2 _ k2
   refine za (fun k4=>?_) fun k4=>?_
   ·have k4':=e2 _ k4
    have hgo2:=hgo (G++[r++zF wb]) (by rw [if_pos ⟨f1',.inr k4'⟩])
    refine ⟨by omega,by simp,?_⟩
    rw [xO]
    refine ze [[1]] [] (c_cat2 r (zF wb) hra' (by omega)) ?_
    simp -implicitDefEqProofs only [↓zb,push_cast,simprocAttr,tte]
    rw [hrow1,hlen1 (r++zF wb)]
    refine ⟨by have:=hlen1 (r++zF wb);omega,zf (by kernel_rfl),?_⟩
    refine zm hI (i+1) h' (by show a.length-(i+1)<a.length-i;omega) ?_
    rw [hgo2]
    exact Weak.keepL (by simp [hw,ends]) (by simp [vRes,vecB,ends]) (by simp [ends])
   have k4':=n2 _ k4
   subst f1'
   refine za (fun h=>absurd h (by decide)) (fun _=>?_)
   refine za (fun _=>?_) (fun h=>absurd h (by decide))
   refine za (fun k6=>?_) fun k6=>?_
   ·have k6':=e2 _ k6
    have hgo2:=hgo (G++[r]) (by rw [if_neg (fun h=>h.2.elim k2' k4'),if_pos (.inr ⟨rfl,k6'⟩)])
    rw [hrow1,hlen1 r]
    refine ⟨by have:=hlen1 r;omega,?_⟩
    refine zm hI (i+1) h' (by show a.length-(i+1)<a.length-i;omega) ?_
    rw [hgo2]
    exact Weak.keepL (by simp [hw,ends]) (by simp [vRes,vecB,ends]) (by simp [ends])
   have k6':=n2 _ k6
   have hgo2:=hgo G (by rw [if_neg (fun h=>h.2.elim k2' k4'),if_neg (fun h=>h.elim (fun g=>by cases g.1) fun g=>k6' g.2),List.append_nil])
   refine zm hI (i+1) h' (by show a.length-(i+1)<a.length-i;omega) ?_
   rw [hgo2]
   exact Weak.keepL (by simp [hw,ends]) (by simp [vRes,vecB,ends]) (by simp [ends])
  have f1':f=true:=by simpa using f1
  subst f1'
  refine za (fun _=>?_) (fun h=>absurd h (by decide))
  refine za (fun k5=>?_) fun k5=>?_
  ·have k5':=e2 _ k5
   have hgo2:=hgo (G++[r]) (by rw [if_neg (fun h=>by cases h.1),if_pos (.inl ⟨rfl,k5'⟩)])
   rw [hrow1,hlen1 r]
   refine ⟨by have:=hlen1 r;omega,?_⟩
   refine zm hI (i+1) h' (by show a.length-(i+1)<a.length-i;omega) ?_
   rw [hgo2]
   exact Weak.keepL (by simp [hw,ends]) (by simp [vRes,vecB,ends]) (by simp [ends])
  have k5':=n2 _ k5
  refine za (fun h=>absurd h (by decide)) (fun _=>?_)
  have hgo2:=hgo G (by rw [if_neg (fun h=>by cases h.1),if_neg (fun h=>h.elim (fun g=>k5' g.2) fun g=>by cases g.1),List.append_nil])
  refine zm hI (i+1) h' (by show a.length-(i+1)<a.length-i;omega) ?_
  rw [hgo2]
  exact Weak.keepL (by simp [hw,ends]) (by simp [vRes,vecB,ends]) (by simp [ends])
 obtain rfl:i=a.length:=by have:=of_decide_eq_false h;omega
 rw [List.take_length] at hO hM0
 have e2: ∀n:Int,(q.kind==n)=true->q.kind=n:=fun n h=>by simpa using h
 have n2: ∀n:Int,(q.kind==n)=false-> ¬q.kind=n:=fun n h=>by simpa using h
 clear hos hms hm1 hM1 hI
 have hJn: ¬(q.kind=3\/q.kind=4)->jnM q wa wb a b=O:=fun h=>by unfold jnM joinR;rw [if_neg h,List.append_nil,hO]
 have hJy:(q.kind=3\/q.kind=4)->jnM q wa wb a b=O++(b.filter fun t=> !(a.any fun r=>okJ q r t)).map (zF wa++ ·):=fun h=>by unfold jnM joinR;rw [if_pos h,hO]
 have hOl:O.length<=1001000:=by omega
 refine za (fun g5=>?_) fun g5=>?_
 ·have g5':q.kind≥5:=of_decide_eq_true g5
  refine za (fun h=>absurd (e2 _ h) (by omega)) (fun _=>?_)
  refine za (fun h=>absurd (e2 _ h) (by omega)) (fun _=>?_)
  refine zu [1,0] rfl (by simp) (by simp [zc]<;>omega) ?_ (by first | rfl | simp [ends] | (subst_vars;simp [ends])) (by simp [ends]) (by simp [ends])
  rw [<-hr,hJn (by omega)]
  unfold widK
  rw [if_pos g5']
  rfl
 have g5': ¬q.kind≥5:=of_decide_eq_false g5
 have hW:widK q wa wb=wa+wb:=by unfold widK;rw [if_neg g5']
 refine meet_or ⟨[(129,num (0:Nat)),(128,num b.length),(127,aTab b),(4,.ptr 4 0),(6,.ptr 6 0),(7,.ptr 7 0),(8,.vec 26 b.length)],[(4,vRes a wa),(6,.var [.snil,num (0:Nat)]),(7,.var [.vec 700 O.length,num wab]),(700,vecT O),(26,vecB M0)]⟩ (fun _=>?_) (fun _ _=>?_) (fun h3 h4=>?_) (fun h34 σ hw=>?_)
 ·exact Weak.keepL (by simp [ends]) (by simp [vRes,vecB,ends]) (by simp [ends])
 ·exact Weak.keepL (by simp [ends]) (by simp [vRes,vecB,ends]) (by simp [ends])
 ·refine zu [1,0] rfl (by simp) (by simp [zc]<;>omega) ?_ (by first | rfl | simp [ends] | (subst_vars;simp [ends])) (by simp [ends]) (by simp [ends])
  rw [<-hr,hJn (fun h=>h.elim (n2 _ h3) (n2 _ h4)),hW,hwab]
  simp [aRes]
 have hJ:=hJy (h34.imp (e2 _) (e2 _))
 have hget: ∀k,k<b.length->M0.getD k default=a.any fun r=>okJ q r (b.getD k default):=fun k hk=>by rw [hM0];exact qZ q a b k hk
 clear hJn hJy h34 hM0
 obtain ⟨p,hp⟩: ∃p:Row->Bool,p=fun t=> !(a.any fun r=>okJ q r t):=⟨_,rfl⟩
 rw [<-hp] at hJ
 refine zI mixed ttok (fun k:Nat=>(⟨[(129,num k),(128,num b.length),(127,aTab b),(4,.ptr 4 0),(6,.ptr 6 0),(7,.ptr 7 0),(8,.vec 26 b.length)],[(4,vRes a wa),(6,.var [.snil,num (0:Nat)]),(7,.var [.vec 700 (O++((b.take k).filter p).map (zF wa++ ·)).length,num wab]),(700,vecT (O++((b.take k).filter p).map (zF wa++ ·))),(26,vecB M0)]⟩:SL)) (fun k=>b.length-k) (fun k=>k<=b.length) 0 (Nat.zero_le _) (hw.trans (Weak.keepL (by simp [ends]) (by simp [vRes,vecB,ends]) (by simp [ends]))) ?_
 intro I hI k hk2
 have hfs:=kV p b k
 have hgl:(O++((b.take k).filter p).map (zF wa++ ·)).length<=1002000:=by
  rw [List.length_append,List.length_map]
  have:=List.length_filter_le p (b.take k)
  rw [List.length_take] at this
  omega
 obtain ⟨G,hG⟩: ∃G,G=O++((b.take k).filter p).map (zF wa++ ·):=⟨_,rfl⟩
 rw [<-hG] at hgl ⊢
 have hnl:=uq wa
 simp -implicitDefEqProofs only [vRes,vecB,↓zb,push_cast,simprocAttr,tte]
 refine za (fun g=>?_) fun g=>?_
 ·have g':k<b.length:=by have:=of_decide_eq_true g;omega
  have hwk:=zj g' (by omega)
  have hfs:=hfs g'
  have hget:=hget k g'
  have hrb':=hrb _ (zk g')
  obtain ⟨t,ht⟩: ∃t,t=b.getD k default:=⟨_,rfl⟩
  rw [<-ht] at hfs hget hrb' ⊢
  have hpt:p t= !(M0.getD k default):=by rw [hget,hp]
  refine ⟨by omega,⟨by omega,by omega⟩,by omega,hm0.symm,?_⟩
  refine za (fun c1=>?_) fun c1=>?_
  ·have hpt2:p t=true:=by rw [hpt];exact c1
   have hg2:O++((b.take (k+1)).filter p).map (zF wa++ ·)=G++[zF wa++t]:=by rw [hfs,if_pos hpt2,List.map_append,hG,List.append_assoc];rfl
   refine ⟨by omega,by simp,?_⟩
   rw [xO]
   refine ze [[1]] [] (c_cat2 (zF wa) t (by omega) hrb') ?_
   simp -implicitDefEqProofs only [↓zb,push_cast,simprocAttr,tte]
   have hrow1:zd rRow G++[[D.sl 3 (zd rV (zF wa++t))]]=zd rRow (G++[zF wa++t]):=zh rRow G [zF wa++t]
   have hlen1:G.length+1=(G++[zF wa++t]).length:=by rw [List.length_append];rfl
   rw [hrow1,hlen1]
   refine ⟨by omega,zf (by kernel_rfl),?_⟩
   refine zm hI (k+1) g' (by show b.length-(k+1)<b.length-k;omega) ?_
   rw [hg2]
   exact Weak.keepL (by simp [hwk,ends]) (by simp [vRes,vecB,ends]) (by simp [ends])
  ·have hpt2: ¬p t=true:=by rw [hpt,c1];decide
   have hg2:O++((b.take (k+1)).filter p).map (zF wa++ ·)=G:=by rw [hfs,if_neg hpt2,List.append_nil,hG]
   refine zm hI (k+1) g' (by show b.length-(k+1)<b.length-k;omega) ?_
   rw [hg2]
   exact Weak.keepL (by simp [hwk,ends]) (by simp [vRes,vecB,ends]) (by simp [ends])
 obtain rfl:k=b.length:=by have:=of_decide_eq_false g;omega
 rw [List.take_length,<-hJ] at hG
 subst hG
 refine zu [1,0] rfl (by simp) (by simp [zc]<;>omega) ?_ (by first | rfl | simp [ends] | (subst_vars;simp [ends])) (by simp [ends]) (by simp [ends])
 rw [<-hr,hW,hwab]
 simp [aRes]
end
section
open Go.Am
attribute [local simp, local push_cast] num boo str ints aV aTab zv aS aT aC aRow rRow
structure RO (w:Nat) (rows:List Row):Prop where
 len:rows.length<=1000
 wid: ∀r∈rows,r.length=w
 val: ∀r∈rows,∀v∈r,okV v
structure RW (w:Nat) (rows:List Row):Prop where
 wid: ∀r∈rows,r.length=w
 val: ∀r∈rows,∀v∈r,okV v
structure OkI (s:Sch) (i:Inst):Prop where
 len:i.length=s.length
 tab: ∀n,n<s.length->RO (s.getD n default).columns.length (i.getD n default)
structure OkXQ1 (q:Qr):Prop where
 cond:OkX q.cond
 ex: ∀e∈q.exprs,OkX e
 ag: ∀a∈q.aggs,OkX a.arg
 row: ∀r∈q.rows,∀v∈r,okV v
inductive OkXQ:Qr->Prop
 | mk (q:Qr) (h:OkXQ1 q) (hk: ∀k∈q.kids,OkXQ k):OkXQ q
theorem OkXQ.one {q:Qr} (h:OkXQ q):OkXQ1 q:=by cases h;assumption
theorem OkXQ.kid {q k:Qr} (h:OkXQ q) (hk:k∈q.kids):OkXQ k:=by cases h with | mk _ _ h2=>exact h2 k hk
theorem okV_sum (l:List Val):okV (sumS l):=by
 unfold sumS
 split
 ·exact yF
 ·split
  ·exact qR ⟨by omega,by omega⟩
  ·exact yF
theorem okV_agg (fn:Int) (e:Ex) (rows:List Row) (hl:rows.length<=1000) (hv: ∀v∈vk e rows,okV v):okV (aggM fn e rows):=by
 have h1:=valsM_len e rows
 have hS: ∀v∈sortV (vk e rows),okV v:=fun v h=>hv v ((qn _).mem_iff.1 h)
 have h2:=sortV_length (vk e rows)
 have h3:=ddTo_len (sortV (vk e rows)) (sortV (vk e rows)).length
 unfold aggM
 repeat' split
 all_goals first
  | exact yF
  | exact okV_sum _
  | exact ji hS _
  | exact qR ⟨by omega,by omega⟩
theorem okV_aggs {q:Qr} (hq:OkXQ1 q) {rows:List Row} (hl:rows.length<=1000) (hr: ∀r∈rows,∀v∈r,okV v):(gC q rows).length=q.aggs.length/\ ∀v∈gC q rows,okV v:=by
 refine ⟨by simp [gC],fun v hv=>?_⟩
 obtain ⟨a,ha,rfl⟩:=List.mem_map.1 hv
 exact okV_agg _ _ _ hl (okV_vals _ _ (hq.ag a ha) hr)
theorem okV_key {q:Qr} (hq:OkXQ1 q) {r:Row} (hr: ∀v∈r,okV v):(keyR q r).length=q.exprs.length/\ ∀v∈keyR q r,okV v:=by
 refine ⟨by simp [keyR],fun v hv=>?_⟩
 obtain ⟨e,he,rfl⟩:=List.mem_map.1 hv
 exact okV_eval r hr e (hq.ex e he)
def GrOk (gr:GF):Prop:= ∀(q:Qr) (rows:List Row),OkXQ1 q->rows.length<=1000->(∀r∈rows,∀v∈r,okV v)->RW (q.exprs.length+q.aggs.length) (gr q rows)
theorem grps_ok {q:Qr} {rows keys:List Row} (hq:OkXQ1 q) (hl:rows.length<=1000) (hr: ∀r∈rows,∀v∈r,okV v) (hk: ∀k∈keys,k.length=q.exprs.length/\ ∀v∈k,okV v):RW (q.exprs.length+q.aggs.length) (grpsR q rows keys):=by
 have key: ∀x∈grpsR q rows keys,x.length=q.exprs.length+q.aggs.length/\ ∀v∈x,okV v:=fun x hx=>by
  obtain ⟨k,hk2,rfl⟩:=List.mem_map.1 hx
  obtain ⟨a1,a2⟩:=hk k hk2
  obtain ⟨b1,b2⟩:=okV_aggs hq (rows:=rows.filter fun r=>cmpR (keyR q r) k==0) (Nat.le_trans (List.length_filter_le _ _) hl) (fun r h=>hr r (List.mem_filter.1 h).1)
  exact ⟨by rw [List.length_append,a1,b1],fun v hv=>(List.mem_append.1 hv).elim (a2 v) (b2 v)⟩
 exact ⟨fun r h=>(key r h).1,fun r h=>(key r h).2⟩
theorem grP_ok:GrOk grP:=fun q rows hq hl hr=>grps_ok hq hl hr fun k hk=>by
 unfold gkP at hk
 split at hk
 ·rename_i h0
  simp only [List.mem_singleton] at hk
  subst hk
  exact ⟨by simp [h0],fun v h=>by cases h⟩
 ·obtain ⟨r,hr2,rfl⟩:=List.mem_map.1 (((vw _).2 k).1 hk)
  exact okV_key hq (hr r hr2)
theorem grR_ok:GrOk grR:=fun q rows hq hl hr=>grps_ok hq hl hr fun k hk=>by
 unfold gkR at hk
 split at hk
 ·rename_i h0
  simp only [List.mem_singleton] at hk
  subst hk
  exact ⟨by simp [h0],fun v h=>by cases h⟩
 ·obtain ⟨r,hr2,rfl⟩:=List.mem_map.1 ((focc_mem _ k).1 hk)
  exact okV_key hq (hr r hr2)
theorem typ_kids {s:Sch} {q:Qr} (h:(typQ s q).2=0):(∀k∈q.kids,(typQ s k).2=0)/\typQ s q=ownQ s q (q.kids.map fun k=>(typQ s k).1):=by
 rw [jx,qc] at h ⊢
 by_cases hf:ferr Prod.snd (q.kids.map (typQ s))=0
 ·rw [if_pos hf]
  refine ⟨fun k hk=>?_,by rw [List.map_map];rfl⟩
  rw [wp] at hf
  exact xF hf k hk
 ·rw [if_neg hf] at h
  exact absurd h hf
theorem own_fm {s:Sch} {q:Qr} {ks:List (List Int)} (h:(ownQ s q ks).2=0):(1≤q.op∧q.op≤10)∧(ks.length:Int)=(yQ q.op).kids:=by
 unfold ownQ at h
 split at h
 ·exact absurd h (by decide)
 ·rename_i h1
  split at h
  ·exact absurd h (by decide)
  ·rename_i h2
   refine ⟨?_,by simpa using h2⟩
   by_cases hf:isFm q.op=false
   ·exact absurd (.inl hf) h1
   ·simp only [isFm,Bool.and_eq_false_iff,decide_eq_false_iff_not,not_or,Classical.not_not] at hf
    exact hf
theorem fm_kids (op:Int) (h:1<=op/\op<=10):(yQ op).kids=if op=1\/op=2 then 0 else if 5<=op/\op<=8 then 2 else 1:=by
 have:op=1\/op=2\/op=3\/op=4\/op=5\/op=6\/op=7\/op=8\/op=9\/op=10:=by omega
 rcases this with rfl | rfl | rfl | rfl | rfl | rfl | rfl | rfl | rfl | rfl<;>decide
theorem own_rest {s:Sch} {q:Qr} {ks:List (List Int)} (h:(ownQ s q ks).2=0):ownQ s q ks=(if q.op=1 then (if byT s q.table≥0 then (zD (s.getD (byT s q.table).toNat default),0) else ([],11))
 else if q.op=2 then (if kK q≠0 then ([],kK q) else (q.types,0))
 else if q.op=3 then (if uh (ks.getD 0 default) q.cond≠0 then ([],uh (ks.getD 0 default) q.cond) else (ks.getD 0 default,0))
 else if q.op=4 then (if q.exprs.length=0\/q.exprs.length>24 then ([],9) else colsT (ks.getD 0 default) q.exprs)
 else if q.op=5 then qh (ks.getD 0 default) (ks.getD 1 default) q
 else if q.op=10 then groupM (ks.getD 0 default) q
 else if q.op=6\/q.op=7\/q.op=8 then (if (ks.getD 0 default==ks.getD 1 default)=true then (ks.getD 0 default,0) else ([],4))
 else (ks.getD 0 default,0)):=by
 have h2:=h
 unfold ownQ at h2 ⊢
 split
 ·rename_i h1;rw [if_pos h1] at h2;exact absurd h2 (by decide)
 ·rename_i h1
  rw [if_neg h1] at h2
  split
  ·rename_i h3;rw [if_pos h3] at h2;exact absurd h2 (by decide)
  ·rfl
theorem listM_ok {α:Type} {f:α->Int×Int} {l:List α} (h:(qg f l).2=0):(qg f l).1.length=l.length:=by
 unfold qg at h ⊢
 split
 ·simp
 ·rename_i h2;rw [if_neg h2] at h;exact absurd h h2
structure Typed (s:Sch) (q:Qr):Prop where
 op:1<=q.op/\q.op<=10
 kids:q.kids.length=if q.op=1\/q.op=2 then 0 else if 5<=q.op/\q.op<=8 then 2 else 1
 kid: ∀k∈q.kids,(typQ s k).2=0
 scan:q.op=1->0<=byT s q.table/\(typQ s q).1.length=(s.getD (byT s q.table).toNat default).columns.length
 vals:q.op=2->(typQ s q).1=q.types/\(∀r∈q.rows,r.length=q.types.length)/\q.types.length<=24
 same:(q.op=3\/q.op=9)->(typQ s q).1=(typQ s (q.kids.getD 0 default)).1
 proj:q.op=4->(typQ s q).1.length=q.exprs.length
 join:q.op=5->(1<=q.kind/\q.kind<=6)/\(typQ s (q.kids.getD 0 default)).1.length+(typQ s (q.kids.getD 1 default)).1.length<=24/\
  (typQ s q).1.length=if q.kind=5\/q.kind=6 then (typQ s (q.kids.getD 0 default)).1.length else (typQ s (q.kids.getD 0 default)).1.length+(typQ s (q.kids.getD 1 default)).1.length
 sets:(q.op=6\/q.op=7\/q.op=8)->(typQ s q).1=(typQ s (q.kids.getD 0 default)).1/\(typQ s (q.kids.getD 0 default)).1=(typQ s (q.kids.getD 1 default)).1
 group:q.op=10->(typQ s q).1.length=q.exprs.length+q.aggs.length
theorem typed_of {s:Sch} {q:Qr} (h:(typQ s q).2=0):Typed s q:=by
 obtain ⟨hk,he⟩:=typ_kids h
 have h0:=h
 rw [he] at h0
 obtain ⟨hop,hkl⟩:=own_fm h0
 have hrest:=own_rest h0
 rw [fm_kids _ hop,List.length_map] at hkl
 have g0:0<q.kids.length->(q.kids.map fun k=>(typQ s k).1).getD 0 default=(typQ s (q.kids.getD 0 default)).1:=fun h=>uA _ _ _ h
 have g1:1<q.kids.length->(q.kids.map fun k=>(typQ s k).1).getD 1 default=(typQ s (q.kids.getD 1 default)).1:=fun h=>uA _ _ _ h
 rw [hrest] at h0
 rw [hrest] at he
 have hkl2:q.kids.length=if q.op=1\/q.op=2 then 0 else if 5<=q.op/\q.op<=8 then 2 else 1:=by
  split at hkl
  ·rename_i h1;rw [if_pos h1];omega
  ·rename_i h1
   rw [if_neg h1]
   split at hkl
   ·rename_i h2;rw [if_pos h2];omega
   ·rename_i h2;rw [if_neg h2];omega
 clear hkl hrest
 refine ⟨hop,hkl2,hk,fun e=>?_,fun e=>?_,fun e=>?_,fun e=>?_,fun e=>?_,fun e=>?_,fun e=>?_⟩
 ·rw [if_pos e] at h0 he
  split at h0
  ·rename_i h1
   rw [if_pos h1] at he
   rw [he]
   exact ⟨h1,by simp [zD]⟩
  ·exact absurd h0 (by decide)
 ·rw [if_neg (by omega),if_pos e] at h0 he
  split at h0
  ·rename_i h1;exact absurd h0 h1
  ·rename_i h1
   rw [if_neg h1] at he
   have hv:kK q=0:=by simpa using h1
   unfold kK at hv
   split at hv
   ·exact absurd hv (by decide)
   ·rename_i h2
    refine ⟨by rw [he],fun r hr=>?_,by omega⟩
    have:=xF hv r hr
    unfold rowErrQ at this
    split at this
    ·exact absurd this (by decide)
    ·rename_i h3;simpa using h3
 ·rw [he]
  rcases e with e | e
  ·rw [if_neg (by omega),if_neg (by omega),if_pos e] at h0 ⊢
   split at h0
   ·rename_i h1;exact absurd h0 h1
   ·rename_i h1;rw [if_neg h1];exact g0 (by rw [hkl2,if_neg (by omega)];split<;>omega)
  ·rw [if_neg (by omega),if_neg (by omega),if_neg (by omega),if_neg (by omega),if_neg (by omega),if_neg (by omega),if_neg (by omega)]
   exact g0 (by rw [hkl2,if_neg (by omega)];split<;>omega)
 ·rw [he]
  rw [if_neg (by omega),if_neg (by omega),if_neg (by omega),if_pos e] at h0 ⊢
  split at h0
  ·exact absurd h0 (by decide)
  ·rename_i h1
   rw [if_neg h1]
   exact listM_ok h0
 ·have hkl3:q.kids.length=2:=by rw [hkl2,if_neg (by omega),if_pos (by omega)]
  rw [he]
  rw [if_neg (by omega),if_neg (by omega),if_neg (by omega),if_neg (by omega),if_pos e,g0 (by omega),g1 (by omega)] at h0 ⊢
  generalize (typQ s (q.kids.getD 0 default)).1=A at h0 ⊢
  generalize (typQ s (q.kids.getD 1 default)).1=B at h0 ⊢
  unfold qh at h0 ⊢
  split at h0
  ·exact absurd h0 (by decide)
  ·rename_i h1
   rw [if_neg h1]
   split at h0
   ·exact absurd h0 (by decide)
   ·rename_i h2
    rw [if_neg h2]
    rw [List.length_append] at h2
    split at h0
    ·rename_i h3;exact absurd h0 h3
    ·rename_i h3
     rw [if_neg h3]
     refine ⟨by omega,by omega,?_⟩
     split
     ·rfl
     ·rw [List.length_append]
 ·have hkl3:q.kids.length=2:=by rw [hkl2,if_neg (by omega),if_pos (by omega)]
  rw [he]
  rw [if_neg (by omega),if_neg (by omega),if_neg (by omega),if_neg (by omega),if_neg (by omega),if_neg (by omega),if_pos e,g0 (by omega),g1 (by omega)] at h0 ⊢
  split at h0
  ·rename_i h1
   rw [if_pos h1]
   exact ⟨rfl,by simpa using h1⟩
  ·exact absurd h0 (by decide)
 ·rw [he]
  rw [if_neg (by omega),if_neg (by omega),if_neg (by omega),if_neg (by omega),if_neg (by omega),if_pos e] at h0 ⊢
  generalize (q.kids.map fun k=>(typQ s k).1).getD 0 default=A at h0 ⊢
  unfold groupM at h0 ⊢
  split at h0
  ·exact absurd h0 (by decide)
  ·rename_i h1
   rw [if_neg h1]
   split at h0
   ·rename_i h2;exact absurd h0 h2
   ·rename_i h2
    rw [if_neg h2]
    split at h0
    ·rename_i h3;exact absurd h0 h3
    ·rename_i h3
     rw [if_neg h3]
     have a1:(colsT A q.exprs).2=0:=by simpa using h2
     have a2:(qg (aggTM A) q.aggs).2=0:=by simpa using h3
     have b1:(colsT A q.exprs).1.length=q.exprs.length:=listM_ok a1
     rw [List.length_append,b1,listM_ok a2]
theorem RO.rw {w:Nat} {rows:List Row} (h:RO w rows):RW w rows:=⟨h.wid,h.val⟩
theorem RW.sub {w:Nat} {a b:List Row} (h:RW w a) (hs: ∀r∈b,r∈a):RW w b:=⟨fun r hr=>h.wid r (hs r hr),fun r hr=>h.val r (hs r hr)⟩
theorem okV_nulls (n:Nat): ∀v∈zF n,okV v:=fun v hv=>by rw [List.eq_of_mem_replicate hv];exact yF
theorem jn_ok {q:Qr} {wa wb:Nat} {a b:List Row} (hk:1≤q.kind∧q.kind≤6) (ha:RW wa a) (hb:RW wb b):RW (if q.kind=5∨q.kind=6 then wa else wa+wb) (jnM q wa wb a b):=by
 have key: ∀r∈jnM q wa wb a b,r.length=(if q.kind=5\/q.kind=6 then wa else wa+wb)/\ ∀v∈r,okV v:=fun x hx=>by
  unfold jnM at hx
  rcases List.mem_append.1 hx with hx | hx
  ·obtain ⟨r,hr,hx⟩:=List.mem_flatMap.1 hx
   have h1:=ha.wid r hr
   have h2:=ha.val r hr
   unfold xJ qG at hx
   rcases List.mem_append.1 hx with hx | hx
   ·split at hx
    ·obtain ⟨t,ht,rfl⟩:=List.mem_map.1 hx
     have ht:=(List.mem_filter.1 ht).1
     rw [if_neg (by omega)]
     exact ⟨by rw [List.length_append,h1,hb.wid t ht],fun v hv=>(List.mem_append.1 hv).elim (h2 v) (hb.val t ht v)⟩
    ·cases hx
   ·split at hx
    ·rename_i hc
     simp only [List.mem_singleton] at hx
     subst hx
     rw [if_neg (by omega)]
     exact ⟨by rw [List.length_append,h1];simp [zF],fun v hv=>(List.mem_append.1 hv).elim (h2 v) (okV_nulls _ v)⟩
    ·split at hx
     ·rename_i hc
      simp only [List.mem_singleton] at hx
      subst hx
      rw [if_pos (hc.elim (fun h=>Or.inl h.2) fun h=>Or.inr h.2)]
      exact ⟨h1,h2⟩
     ·cases hx
  ·unfold joinR at hx
   split at hx
   ·obtain ⟨t,ht,rfl⟩:=List.mem_map.1 hx
    have ht:=(List.mem_filter.1 ht).1
    rw [if_neg (by omega)]
    exact ⟨by rw [List.length_append,hb.wid t ht];simp [zF],fun v hv=>(List.mem_append.1 hv).elim (okV_nulls _ v) (hb.val t ht v)⟩
   ·cases hx
 exact ⟨fun r h=>(key r h).1,fun r h=>(key r h).2⟩
theorem comb_ok {w:Nat} {t:Grp->Nat} {a b:List Row} (ha:RW w a) (hb:RW w b):RW w (vN t a b):=
 ⟨fun r hr=>(combM_mem hr).elim (ha.wid r) (hb.wid r),fun r hr=>(combM_mem hr).elim (ha.val r) (hb.val r)⟩
theorem out_ok {gr:GF} (hg:GrOk gr) {s:Sch} {i:Inst} {q:Qr} {k0 k1:List Row} (ht:Typed s q) (hi:OkI s i) (hx:OkXQ1 q)
 (h0:0<q.kids.length->RO (typQ s (q.kids.getD 0 default)).1.length k0) (h1:1<q.kids.length->RO (typQ s (q.kids.getD 1 default)).1.length k1):
 RW (typQ s q).1.length (outM gr s i q (typQ s (q.kids.getD 0 default)).1.length (typQ s (q.kids.getD 1 default)).1.length k0 k1):=by
 have hop:=ht.op
 have hkl:=ht.kids
 unfold outM
 split
 ·rename_i e
  obtain ⟨a1,a2⟩:=ht.scan e
  have:=xZ (fun t:Tbl=>t.name.toList==q.table.toList) s
  have hr:=hi.tab (byT s q.table).toNat (by unfold byT at a1 ⊢;omega)
  rw [a2]
  exact hr.rw
 split
 ·rename_i e
  obtain ⟨a1,a2,_⟩:=ht.vals e
  rw [a1]
  exact ⟨a2,hx.row⟩
 rw [if_neg (by omega)] at hkl
 have hk0:0<q.kids.length:=by rw [hkl];split<;>omega
 have r0:=h0 hk0
 split
 ·rename_i e
  rw [ht.same (.inl e)]
  exact r0.rw.sub fun r hr=>(List.mem_filter.1 hr).1
 split
 ·rename_i e
  rw [ht.proj e]
  refine ⟨fun r hr=>?_,fun r hr=>?_⟩
  ·obtain ⟨x,hx2,rfl⟩:=List.mem_map.1 hr
   exact (okV_key hx (r0.val x hx2)).1
  ·obtain ⟨x,hx2,rfl⟩:=List.mem_map.1 hr
   exact (okV_key hx (r0.val x hx2)).2
 split
 ·rename_i e
  obtain ⟨a1,a2,a3⟩:=ht.join e
  rw [a3]
  exact jn_ok a1 r0.rw (h1 (by rw [hkl,if_pos (by omega)];omega)).rw
 split
 ·rename_i e
  obtain ⟨a1,a2⟩:=ht.sets (.inl e)
  rw [a1]
  have r1:=(h1 (by rw [hkl,if_pos (by omega)];omega)).rw
  rw [<-a2] at r1
  exact comb_ok r0.rw r1
 split
 ·rename_i e
  obtain ⟨a1,a2⟩:=ht.sets (.inr (.inl e))
  rw [a1]
  have r1:=(h1 (by rw [hkl,if_pos (by omega)];omega)).rw
  rw [<-a2] at r1
  exact comb_ok r0.rw r1
 split
 ·rename_i e
  obtain ⟨a1,a2⟩:=ht.sets (.inr (.inr e))
  rw [a1]
  have r1:=(h1 (by rw [hkl,if_pos (by omega)];omega)).rw
  rw [<-a2] at r1
  exact comb_ok r0.rw r1
 split
 ·rename_i e
  rw [ht.same (.inr e)]
  exact r0.rw.sub fun r hr=>((vw _).2 r).1 hr
 split
 ·rename_i e
  rw [ht.group e]
  exact hg q k0 hx r0.len r0.val
 ·omega
theorem ev_rows {gr:GF} {s:Sch} {i:Inst} {q:Qr} {ks:List (List Row)} {rows:List Row} (h:evOp gr s i q ks=some rows):
 rows=outM gr s i q (typQ s (q.kids.getD 0 default)).1.length (typQ s (q.kids.getD 1 default)).1.length (ks.getD 0 []) (ks.getD 1 [])/\rows.length<=1000:=by
 unfold evOp at h
 split at h
 ·cases h
 ·split at h
  ·cases h
  ·rename_i h2
   simp only [Option.some.injEq] at h
   subst h
   exact ⟨rfl,by omega⟩
theorem allO_some {α:Type}: ∀{l:List (Option α)} {ks:List α},allO l=some ks->l=ks.map some
 | [],ks,h=>by simp [allO] at h;subst h;rfl
 | none::l,ks,h=>by simp [allO] at h
 | some x::l,ks,h=>by
   simp only [allO,Option.map_eq_some_iff] at h
   obtain ⟨ys,h1,rfl⟩:=h
   rw [allO_some h1];rfl
theorem evQ_ok {gr:GF} (hg:GrOk gr) {s:Sch} {i:Inst} (hi:OkI s i): ∀q:Qr,OkXQ q->(typQ s q).2=0-> ∀rows,evQ gr s i q=some rows->RO (typQ s q).1.length rows:=
 kg (p:=fun q=>OkXQ q->(typQ s q).2=0-> ∀rows,evQ gr s i q=some rows->RO (typQ s q).1.length rows) fun q ih hx ht rows he=>by
 have hty:=typed_of ht
 rw [jJ] at he
 cases hall:allO (q.kids.map (evQ gr s i)) with
 | none=>rw [hall] at he;cases he
 | some ks=>
   rw [hall] at he
   have hm:=allO_some hall
   obtain ⟨e1,e2⟩:=ev_rows (show evOp gr s i q ks=some rows from he)
   have hkl:q.kids.length=ks.length:=by have:=congrArg List.length hm;simpa using this
   have hget: ∀n,n<q.kids.length->evQ gr s i (q.kids.getD n default)=some (ks.getD n []):=fun n hn=>by
    have h1:(q.kids.map (evQ gr s i)).getD n none=(ks.map some).getD n none:=by rw [hm]
    simp only [List.getD_eq_getElem?_getD,List.getElem?_map,List.getElem?_eq_getElem hn,List.getElem?_eq_getElem (show n<ks.length by omega),Option.map_some,Option.getD_some] at h1 ⊢
    exact h1
   have hk: ∀n,n<q.kids.length->RO (typQ s (q.kids.getD n default)).1.length (ks.getD n []):=fun n hn=>
    ih _ (zk hn) (hx.kid (zk hn)) (hty.kid _ (zk hn)) _ (hget n hn)
   have:=out_ok hg hty hi hx.one (hk 0) (hk 1)
   rw [<-e1] at this
   exact ⟨e2,this.wid,this.val⟩
end
section
open Go.Am
attribute [local simp, local push_cast] num boo str ints aV aTab zv aS aT aC aRow rRow
theorem okV_valid {v:Val} (h:zJ v=true):okV v:=by
 have ht: ∀b:ByteArray,(b.toList==[])=true->b.size<=9223372036854775807:=fun b h=>by
  have:b.toList=[]:=by simpa using h
  rw [ByteArray.toList_eq] at this
  have h2:b.data.size=0:=by rw [<-Array.length_toList,this];rfl
  show b.data.size<=_
  omega
 unfold zJ at h
 split at h
 ·simp only [Bool.and_eq_true] at h
  have:v.num=0:=by simpa using h.1
  exact ⟨by rw [this];exact ⟨by omega,by omega⟩,ht _ h.2⟩
 ·split at h
  ·simp only [Bool.and_eq_true,decide_eq_true_eq] at h
   exact ⟨⟨by omega,by omega⟩,ht _ h.2⟩
  ·split at h
   ·simp only [Bool.and_eq_true,Bool.or_eq_true] at h
    have:v.num=0\/v.num=1:=by simpa using h.1
    exact ⟨⟨by omega,by omega⟩,ht _ h.2⟩
   ·split at h
    ·simp only [Bool.and_eq_true,qe,decide_eq_true_eq] at h
     have:v.num=0:=by simpa using h.1
     exact ⟨by rw [this];exact ⟨by omega,by omega⟩,by omega⟩
    ·cases h
theorem ferrN_zero {f:Nat->Int} {N:Nat} (h:ve f N=0): ∀n,n<N->f n=0:=fun n hn=>xF h n (by simpa using hn)
theorem jI {s:Sch} {i:Inst} (h:x6 s i=0):OkI s i:=by
 unfold x6 at h
 split at h
 ·rename_i h1;exact absurd h h1
 split at h
 ·exact absurd h (by decide)
 rename_i h1 h2
 have hl:i.length=s.length:=by omega
 refine ⟨hl,fun n hn=>?_⟩
 have ht:=ferrN_zero h n hn
 unfold uf tabF at ht
 split at ht
 ·exact absurd ht (by decide)
 rename_i h3
 have hrow:=xF ht
 have key: ∀r∈i.getD n default,r.length=(s.getD n default).columns.length/\ ∀v∈r,okV v:=fun r hr=>by
  have h4:=hrow r hr
  unfold yK at h4
  split at h4
  ·exact absurd h4 (by decide)
  rename_i h5
  split at h4
  ·rename_i h6
   refine ⟨by omega,fun v hv=>?_⟩
   obtain ⟨j,hj,rfl⟩:=List.getElem_of_mem hv
   have h7:=List.all_eq_true.1 h6 j (by simpa using hj)
   have e1:r.getD j default=r[j]:=by rw [List.getD_eq_getElem?_getD,List.getElem?_eq_getElem hj];rfl
   rw [e1] at h7
   unfold badV at h7
   simp only [Bool.not_or,Bool.and_eq_true,Bool.not_not] at h7
   exact okV_valid h7.1
  ·exact absurd h4 (by decide)
 exact ⟨by omega,fun r hr=>(key r hr).1,fun r hr=>(key r hr).2⟩
theorem typeQ_ok {s:Sch} {q:Qr} (h:(we s q).2=0):we s q=typQ s q:=by
 unfold we at h ⊢
 split at h
 ·exact absurd h (by decide)
 rename_i h1
 rw [if_neg h1]
 split at h
 ·exact absurd h (by decide)
 ·rename_i h2;rw [if_neg h2]
def x7 (gr:GF) (s:Sch) (i:Inst) (q:Qr):List Row×Int:=
 if x6 s i≠0 then ([],x6 s i) else if (we s q).2≠0 then ([],(we s q).2) else ansM (evQ gr s i q)
theorem evalQ_PR (s:Sch) (i:Inst) (q:Qr):x7 grP s i q=x7 grR s i q:=by unfold x7;rw [ans_PR]
def kj (x:List Row×Int):A:= .tup [.d (.sl 1 (zd rRow x.1)),num x.2]
end
section
open Go.Am
attribute [local simp, local push_cast] num boo str ints aV aTab zv aS aT aC aRow rRow yu x4 xf zM zL aAgg vQ vecT aRes vRes zR rTab
def aEv (s:Sch) (i:Inst):A:= .agg [.d (.sl 6 (zd rT s)),.d (.sl 1 (zd rTab i))]
def vEv (s:Sch) (i:Inst):Ob:= .var [.d (.sl 6 (zd rT s)),.d (.sl 1 (zd rTab i))]
def rRes (x:List Row×Nat):List D:=[.sl 1 (zd rRow x.1),.lit (.int .i64 x.2)]
def qRes (o:Option (List Row)) (w:Nat):A:=match o with
 | some rows=> .tup [aRes rows w,num 0]
 | none=> .tup [aRes [] 0,num 8]
attribute [local simp, local push_cast] aEv vEv rRes qRes
def kidR (s:Sch) (i:Inst) (q:Qr) (n:Nat):List (List Row×Nat):=(q.kids.take n).map fun k=>((evQ grP s i k).getD [],(typQ s k).1.length)
theorem allO_at {α β:Type} [Inhabited α] (f:α->Option β): ∀(l:List α) (n:Nat),n<l.length->f (l.getD n default)=none->allO (l.map f)=none
 | x::l,0,h,hf=>by simp only [List.getD_cons_zero] at hf;rw [List.map_cons,hf];rfl
 | x::l,n+1,h,hf=>by
   simp only [List.getD_cons_succ] at hf
   have ih:=allO_at f l n (by simpa using h) hf
   rw [List.map_cons]
   cases hx:f x with
   | none=>rfl
   | some y=>simp only [allO,ih];rfl
theorem allO_get {α β:Type} (f:α->Option β) (d:β): ∀l:List α,(∀x∈l,f x≠none)->allO (l.map f)=some (l.map fun x=>(f x).getD d)
 | [],_=>rfl
 | x::l,h=>by
   have ih:=allO_get f d l fun y hy=>h y (by simp [hy])
   cases hx:f x with
   | none=>exact absurd hx (h x (by simp))
   | some y=>simp only [List.map_cons,hx,allO,ih];rfl
end
section
open Go.Am
attribute [local simp, local push_cast] num boo str ints aV aTab zv aS aT aC aRow rRow yu x4 xf zM zL aAgg vQ vecT aRes vRes aEv vEv rRes qRes zR rTab kj
end
end Go.Proofs.YtnmibokjpedkiaaGreatDoor
