/- Made queries answer as specified (part Wp) -/
import Derived.Test.YtnmibokjpedkiaaGreatDoorWl
set_option maxRecDepth 100000
set_option maxHeartbeats 4000000
set_option linter.all false
namespace Go.Proofs.YtnmibokjpedkiaaGreatDoor
open Go.Am
section
attribute [local simp, local push_cast] Ta aRow rRow yx yA yM z7 zQ aAgg vQ vecT rBo vecB
theorem ZH {p P0:Prop} (zf_:P0) (h:P0->p:=by intro zf_;simp [zf_,vecB,ends]):p:=h zf_
theorem Xg {p:Prop} (h:p:=by rw [hG,hfs,hpt];simp [h1]):p:=h
theorem XI {p:Prop} (h:p:=by simp [vecB,ends]):p:=h
theorem WE {p q:Prop} (h:q) (e:p=q:=by conv=>lhs;simp -implicitDefEqProofs only [vecB,↓zb,push_cast,simprocAttr,tt]):p:=(e).mpr h
theorem Mj{p:Prop}(h:p:=by
 refine Zy h1 ?_;have hg2:O++(if q.kind=3\/q.kind=4 then ((b.take (k+1)).filter p).map (zX wa++ ·) else [])=G:=Xg;refine zi hI (k+1) g' Zl ?_;rw [hg2];exact Ya (Ze hwk) (ZH h1) Zb):p:=h
theorem Mz{p:Prop}(h:p:=by
 refine Zy h1 ?_;simp [h1] at hoj;refine zi hI (i+1) h' Zl ?_;rw [hoj];exact Ya (Ze hw) (ZH h1) Zb):p:=h
theorem M2{p:Prop}(h:p:=by
 refine zi hI (i+1) h' Zl ?_;rw [hoj];exact Ya (Ze hw) (ZH h1) Zb):p:=h
theorem MH{p:Prop}(h:p:=by
 refine Zy h1 ?_;have hg2:O++(if q.kind=3\/q.kind=4 then ((b.take (k+1)).filter p).map (zX wa++ ·) else [])=G++[zX wa++b.getD k default]:=Xg;refine ⟨⟨Za,Za,Za⟩,Za,?_⟩;rw [vX];refine zg [[3],[3]] [] (c_both (zX wa) (b.getD k default) Za hrb') ?_;refine Zy h1 ?_;rw [hrow1,hlen1 (zX wa++b.getD k default)];refine ⟨by have:=hlen1 (zX wa++b.getD k default);omega,ze Zg,?_⟩;refine zi hI (k+1) g' Zl ?_;rw [hg2];exact Ya (Ze hwk) (ZH h1) Zb):p:=h
theorem Jc{p:Prop}(h:p:=by
 rw [if_neg (show¬(true=true/\q.kind<5) from fun h=>by have:=h.2;omega)] at hle;refine zi hJ (k+1) g' Zl ?_;rw [hle,has,hmset];exact Ya (Ze hwk) XI Zb):p:=h
theorem G0{p:Prop}(h:p:=by
 refine Zy h1 ?_;simp [h1] at hoj;refine ⟨Za,⟨Za,Za,Za⟩,?_⟩;rw [vX];refine zg [[3],[3]] [] (c_both r (zX wb) hra' Za) ?_;refine Zy h1 ?_;rw [hrow1,hlen1 (r++zX wb)];refine ⟨W3,ze Zg,?_⟩;exact M2):p:=h
theorem GH{p:Prop}(h:p:=by
 refine Zy h1 ?_;simp [h1] at hoj;rw [hrow1,hlen1 r];refine ⟨Za,by have:=hlen1 r;omega,?_⟩;exact M2):p:=h
theorem c_join8 (q:Qr) (hq:OkQ1 q) (a b:List Row) (wa wb:Nat) (ha:a.length≤1000) (hb:b.length≤1000) (hra: ∀r∈a,r.length≤1000) (hrb: ∀r∈b,r.length≤1000) (hwa:wa≤1000) (hwb:wb≤1000) (hk:1≤q.kind∧q.kind≤6):
 ACall Tryz.prog 74 [aQ q,aTab a,aTab b,num wa,num wb] [] (aTab (jnM q wa wb a b)) []:=by
 rw [zW];refine zn mixed ttok Tryz.func74 Tryz.ntmps74 Tryz.results74 ?_;generalize hr:aTab (jnM q wa wb a b)=R;have hce: ∀row,ACall Tryz.prog 73 [aE q.cond,aRow row] [] (aV (zG row q.cond)) []:=fun row=>c_reval row _ hq.cond;simp only [yt] at hce;refine Zn ?_;refine ⟨Za,?_⟩;have hbit:List.replicate b.length [D.lit (.bool false)]=zd rBo (metK q [] b):=JU;rw [hbit];have hk6:q.kind=1\/q.kind=2\/q.kind=3\/q.kind=4\/q.kind=5\/q.kind=6:=Za;refine zx mixed ttok (fun i:Nat=>(⟨[(13,num i),(1,aTab a),(2,aTab b),(3,num wa),(4,num wb),(5,.ptr 5 0),(11,.vec 20 b.length),(12,.vec 700 ((a.take i).flatMap (wL q wb b)).length)],[(5,vQ q),(700,vecT ((a.take i).flatMap (wL q wb b))),(20,vecB (metK q (a.take i) b))]⟩:SL)) (fun i=>a.length-i) (fun i=>i<=a.length) 0 (Yj _) ?_ ?_
 ·exact (YU 12 700 53 1 rfl rfl).trans (Ya Zb XI Zb)
 intro I hI i hi;have hol:=outK_len q wb b (a.take i);have hol1:(a.take i).length * (b.length+1)<=1000 * 1001:=U3 ZD Za;have hos:=flatM_snoc (wL q wb b) a i;have hms:=metK_step q a b i;have hm0:=metK_len q (a.take i) b;have hm1:=metK_len q (a.take (i+1)) b;obtain ⟨O,hO⟩: ∃O,O=(a.take i).flatMap (wL q wb b):=⟨_,rfl⟩
 obtain ⟨M0,hM0⟩: ∃M0,M0=metK q (a.take i) b:=⟨_,rfl⟩
 obtain ⟨M1,hM1⟩: ∃M1,M1=metK q (a.take (i+1)) b:=⟨_,rfl⟩
 rw [<-hO] at hol hos ⊢;rw [<-hM0] at hms hm0 ⊢;rw [<-hM1] at hms hm1;refine WE ?_;refine za (fun h=>?_) fun h=>?_
 ·have h':i<a.length:=Zq h;have hw:=zh h' Za;have hos:=hos h';have hms:=fun k=>hms k h';have hra':=hra _ (zk h');obtain ⟨r,hrr⟩: ∃r,r=a.getD i default:=⟨_,rfl⟩
  rw [<-hrr] at hos hms hra';refine zx mixed ttok (fun k:Nat=>(⟨[(15,num k),(14,boo ((b.take k).any (okJ q r))),(13,num i),(1,aTab a),(2,aTab b),(3,num wa),(4,num wb),(5,.ptr 5 0),(11,.vec 20 b.length),(12,.vec 700 (O++(if q.kind<5 then ((b.take k).filter (okJ q r)).map (r++ ·) else [])).length)],
   [(5,vQ q),(700,vecT (O++(if q.kind<5 then ((b.take k).filter (okJ q r)).map (r++ ·) else []))),(20,vecB (mixK M0 M1 k))]⟩:SL)) (fun k=>b.length-k) (fun k=>k<=b.length) 0 (Yj _) ?_ ?_
  ·have e0:mixK M0 M1 0=M0:=by simp [mixK]
   exact Ya Zb (by simp [vecB,e0,ends]) Zb
  intro J hJ k hk2;have hfs:=j8 (okJ q r) b k;have has:=any_snoc (okJ q r) b k;have hml:=mixK_len (hm0.trans hm1.symm) k Za;have hmset:=mixK_set (hm0.trans hm1.symm) k;have hmsame:=mixK_same (hm0.trans hm1.symm) k;have hgl:(O++(if q.kind<5 then ((b.take k).filter (okJ q r)).map (r++ ·) else [])).length<=2002000:=NS;obtain ⟨f,hf⟩: ∃f,f=(b.take k).any (okJ q r):=⟨_,rfl⟩
  obtain ⟨M,hM⟩: ∃M,M=mixK M0 M1 k:=⟨_,rfl⟩
  obtain ⟨G,hG⟩: ∃G,G=(O++(if q.kind<5 then ((b.take k).filter (okJ q r)).map (r++ ·) else [])):=⟨_,rfl⟩
  rw [<-hf] at has ⊢;rw [<-hM] at hml hmset hmsame ⊢;rw [<-hG] at hgl ⊢;refine WE ?_;refine za (fun g=>?_) fun g=>?_
  ·have g':k<b.length:=Zq g;have hwk:=zh g' Za;have hfs:=hfs g';have has:=has g';have hmset:=hmset Za;have hmsame:=hmsame Za;have hms:=hms k g';have hrb':=hrb _ (zk g');refine ⟨Za,Za,?_⟩;rw [<-hrr];obtain ⟨t,ht⟩: ∃t,t=b.getD k default:=⟨_,rfl⟩
   rw [<-ht] at hfs has hms hrb' ⊢;refine zg [[3],[3]] [] (c_both r t hra' hrb') ?_;refine Zf ?_;refine ⟨ze Zg,?_⟩;refine zg [[0,0,0,0,0,6],[3]] [] (hce (r++t)) ?_;refine Z5 ?_;refine zg [[0,0,0]] [] (u3 (zG (r++t) q.cond)) ?_;refine Zf ?_;have hok:okJ q r t=(zM (zG (r++t) q.cond)==1):=rfl;have hle:(O++(if q.kind<5 then ((b.take (k+1)).filter (okJ q r)).map (r++ ·) else []))=if okJ q r t=true/\q.kind<5 then G++[r++t] else G:=MX
   refine za (fun c1=>?_) fun c1=>?_
   ·have hno:okJ q r t=false:=W2;rw [hno] at hle has hms;rw [if_neg (show¬(false=true/\q.kind<5) from fun h=>by cases h.1)] at hle;rw [Y7] at has hms;have hmm:=hmsame hms;refine zi hJ (k+1) g' Zl ?_;rw [hle,has,hmm];exact Ya (Ze hwk) XI Zb
   ·have hyes:okJ q r t=true:=W2;rw [hyes] at hle has hms;rw [Y4] at has hms;rw [hms] at hmset;have hset:(zd rBo M).set k (D.lit (.bool true)::List.drop 1 ((zd rBo M).getD k []))=zd rBo (M.set k true):=by
     rw [xR _ _ _ Za];exact jM rBo M k true
    refine ⟨⟨Za,Za⟩,⟨Za,Za,Za⟩,?_⟩;rw [hset];refine za (fun c5=>?_) fun c5=>?_
    ·have c5': ¬q.kind=5:=Zc c5;refine za (fun c6=>?_) fun c6=>?_
     ·have c6': ¬q.kind=6:=Zc c6;rw [if_pos (show true=true/\q.kind<5 from ⟨rfl,Za⟩)] at hle;have hrows:zd rRow G++[[D.sl 3 (zd rV (r++t))]]=zd rRow (G++[r++t]):=zf rRow G [r++t];have hgl1:G.length+1=(G++[r++t]).length:=Xc;rw [hrows,hgl1];refine ⟨Za,?_⟩;refine zi hJ (k+1) g' Zl ?_;rw [hle,has,hmset];exact Ya (Ze hwk) XI Zb
     ·have c6':q.kind=6:=Zc c6;exact Jc
    ·have c5':q.kind=5:=Zc c5;exact Jc
  obtain rfl:k=b.length:=Zp g;rw [Yk] at hf hG;have hM2:M=M1:=by rw [hM,<-hm1];exact mixK_end (hm0.trans hm1.symm)
  subst hM2;have hoj:(a.take (i+1)).flatMap (wL q wb b)=G++tailJ q wb f r:=by
   rw [hos,hG,hf,wL,Yn]
  rw [hM1] at *;have hrow1: ∀x:Row,zd rRow G++[[D.sl 3 (zd rV x)]]=zd rRow (G++[x]):=fun x=>zf rRow G [x];have hlen1: ∀x:Row,G.length+1=(G++[x]).length:=fun x=>Xc;have hnl:=gO wb;unfold tailJ at hoj;clear hos hmset hmsame hms has hfs hJ;rw [<-hrr];rcases hk6 with h1 | h1 | h1 | h1 | h1 | h1<;>cases f
  ·exact Mz
  ·exact Mz
  ·exact G0
  ·exact Mz
  ·exact Mz
  ·exact Mz
  ·exact G0
  ·exact Mz
  ·exact Mz
  ·exact GH
  ·exact GH
  ·exact Mz
 obtain rfl:i=a.length:=Zp h;rw [Yk] at hO hM0;clear hos hms hm1 hM1 hI;obtain ⟨p,hp⟩: ∃p:Row->Bool,p=fun t=> !(a.any fun r=>okJ q r t):=⟨_,rfl⟩
 have hJ:jnM q wa wb a b=O++(if q.kind=3\/q.kind=4 then (b.filter p).map (zX wa++ ·) else []):=by unfold jnM joinR;rw [hO,hp]
 have hOl:O.length<=1001000:=Za;have hget: ∀k,k<b.length->M0.getD k default=a.any fun r=>okJ q r (b.getD k default):=fun k hk=>by rw [hM0];exact metK_get q a b k hk
 clear hM0;refine zx mixed ttok (fun k:Nat=>(⟨[(17,num k),(2,aTab b),(3,num wa),(5,.ptr 5 0),(11,.vec 20 b.length),(12,.vec 700 (O++(if q.kind=3\/q.kind=4 then ((b.take k).filter p).map (zX wa++ ·) else [])).length)],[(5,vQ q),(700,vecT (O++(if q.kind=3\/q.kind=4 then ((b.take k).filter p).map (zX wa++ ·) else []))),(20,vecB M0)]⟩:SL)) (fun k=>b.length-k) (fun k=>k<=b.length) 0 (Yj _) ?_ ?_
 ·exact Ya Zb XI Zb
 intro I hI k hk2;have hfs:=j8 p b k;have hgl:(O++(if q.kind=3\/q.kind=4 then ((b.take k).filter p).map (zX wa++ ·) else [])).length<=1002000:=by
  rw [Yb]
  split
  ·rw [Y2];have:=YX p (b.take k);rw [Yh] at this;omega
  ·simp;omega
 obtain ⟨G,hG⟩: ∃G,G=O++(if q.kind=3\/q.kind=4 then ((b.take k).filter p).map (zX wa++ ·) else []):=⟨_,rfl⟩
 rw [<-hG] at hgl ⊢;have hnl:=gO wa;refine WE ?_;refine za (fun g=>?_) fun g=>?_
 ·have g':k<b.length:=Zq g;have hwk:=zh g' Za;have hfs:=hfs g';have hget:=hget k g';have hrb':=hrb _ (zk g');have hpt:p (b.getD k default)= !(M0.getD k default):=by rw [hget,hp]
  have hrow1: ∀x:Row,zd rRow G++[[D.sl 3 (zd rV x)]]=zd rRow (G++[x]):=fun x=>zf rRow G [x];have hlen1: ∀x:Row,G.length+1=(G++[x]).length:=fun x=>Xc;clear hget hJ;refine ⟨⟨Za,Za⟩,Za,Za,?_⟩;generalize M0.getD k default=m at hpt ⊢;rcases hk6 with h1 | h1 | h1 | h1 | h1 | h1<;>cases m
  ·exact Mj
  ·exact Mj
  ·exact Mj
  ·exact Mj
  ·exact MH
  ·exact Mj
  ·exact MH
  ·exact Mj
  ·exact Mj
  ·exact Mj
  ·exact Mj
  ·exact Mj
 obtain rfl:k=b.length:=Zp g;rw [Yk,<-hJ] at hG;subst hG;exact MO
end
section
attribute [local simp, local push_cast] Ta aRow rRow yx yA yM z7 zQ aAgg vQ vecT rBo vecB yj rTab
def CG:Prop:= ∀(q:Qr) (rows:List Row),OkQ1 q->OkXQ1 q->rows.length<=1000->(∀r∈rows,r.length<=1000)->(∀r∈rows,∀v∈r,okV v)->ACall Tryz.prog 79 [aQ q,aTab rows] [] (aTab (grR q rows)) []
inductive R8 (s:Sch):Qr->Prop
 | mk (q:Qr) (h:q.op=10->CG) (ht:q.op=5-> ∀k∈q.kids,wJ s k=typQ s k) (hk: ∀k∈q.kids,R8 s k):R8 s q
theorem R8.grp {s:Sch} {q:Qr} (h:R8 s q):q.op=10->CG:=by cases h;assumption
theorem R8.typ {s:Sch} {q:Qr} (h:R8 s q):q.op=5-> ∀k∈q.kids,wJ s k=typQ s k:=by cases h;assumption
theorem R8.kid {s:Sch} {q k:Qr} (h:R8 s q) (hk:k∈q.kids):R8 s k:=by cases h with | mk _ _ _ h2=>exact h2 k hk
def evOpR (s:Sch) (i:Inst) (q:Qr) (ks:List (List Row)):List Row×Bool:=
 if q.op=5/\50000<(ks.getD 0 []).length * (ks.getD 1 []).length then ([],false)
 else (outM grR s i q (typQ s (q.kids.getD 0 default)).1.length (typQ s (q.kids.getD 1 default)).1.length (ks.getD 0 []) (ks.getD 1 []),
  decide ((outM grR s i q (typQ s (q.kids.getD 0 default)).1.length (typQ s (q.kids.getD 1 default)).1.length (ks.getD 0 []) (ks.getD 1 [])).length<=1000))
def evR (s:Sch) (i:Inst) (q:Qr):List Row×Bool:=match allO (q.kids.map (evQ grR s i)) with
 | none=>([],false)
 | some ks=>evOpR s i q ks
theorem evR_some {s:Sch} {i:Inst} {q:Qr} (h:(evR s i q).2=true):evQ grR s i q=some (evR s i q).1:=by
 rw [gp];unfold evR at h ⊢
 split at h
 ·cases h
 ·rename_i ks hks;rw [hks] at *;show evOp grR s i q ks=some (evOpR s i q ks).1;unfold evOpR at h ⊢;unfold evOp
  split
  ·rename_i h1;rw [if_pos h1] at h;cases h
  ·rename_i h1;rw [if_neg h1] at h;have:=Yd h;rw [if_neg Za]
theorem evR_none {s:Sch} {i:Inst} {q:Qr} (h:(evR s i q).2=false):evQ grR s i q=none:=by
 rw [gp];unfold evR at h
 split at h
 ·rename_i hks;rw [hks];rfl
 ·rename_i ks hks;rw [hks];show evOp grR s i q ks=none;unfold evOpR at h;unfold evOp
  split
  ·rfl
  ·rename_i h1;rw [if_neg h1] at h;have:=Yc h;rw [if_pos Za]
def kid8 (s:Sch) (i:Inst) (q:Qr) (n:Nat):List (List Row):=(q.kids.take n).map fun k=>(evQ grR s i k).getD []
theorem N9{p:Prop}(h:p:=by
 refine Zf ?_;refine ⟨ze Zg,?_⟩;exact Ya (Ze hO) Zb Zb):p:=h
theorem JB{p:Prop}(h:p:=by
 obtain rfl:n=k0.length:=Zp g;rw [Yk,<-hO] at hG;subst hG;refine (Weak.shutL 12 [1] rfl X6).trans ?_;exact Ya Zb Zb Zb):p:=h
theorem c_eval8 (s:Sch) (hs:SmallS s) (i:Inst) (hi:OkI s i): ∀q:Qr,R8 s q→OkQ q→OkXQ q→(typQ s q).2=0→ACall Tryz.prog 38 [aS s,z8 i,aQ q] [] (.tup [aTab (evR s i q).1,boo (evR s i q).2]) []:=
 ku (p:=fun q=>R8 s q->OkQ q->OkXQ q->(typQ s q).2=0->ACall Tryz.prog 38 [aS s,z8 i,aQ q] [] (.tup [aTab (evR s i q).1,boo (evR s i q).2]) []) fun q ih h8 ho hx ht=>by
 have hq:=ho.one;have hkl:=hq.kids;have hsl:=hs.len;have hty:=xH ht;rw [zW];refine enterX ttok Tryz.func38 Tryz.ntmps38 Tryz.results38 ?_;generalize hr:A.tup [aTab (evR s i q).1,boo (evR s i q).2]=R;refine zN mixed ttok ?_;refine Zn ?_;refine zN mixed ttok ?_;refine Zf ?_;refine zN mixed ttok ?_;refine Zf ?_;refine zq mixed ttok 9 [3,4,5,6,7] [3,4,5] Zv Zw q.kids.length (fun n=> ∀j,j<n->evQ grR s i (q.kids.getD j default)≠none) (fun n=>[(8,.vec 500 n)]) (fun n=>[(500,.vec 38 1 (zd rTab (kid8 s i q n)) 0)]) (fun j h=>absurd h (Yu _)) ?_ ?_
 ·exact (Weak.nilL 8 500 38 1 rfl rfl).trans (Weak.keepL (by simp [cst,ends]) (by simp [cst,kid8,zd,ends]) (by simp [cst,ends]))
 intro I hI n hn hinv;have hl2:(kid8 s i q n).length=n:=by rw [kid8,Y2,Yh];omega
 refine Zx ?_;refine za (fun h=>?_) fun h=>?_
 ·have h':n<q.kids.length:=Zq h;have hw:=zh h' Za;have hst:=wp (fun k=>(evQ grR s i k).getD []) q.kids n h';have hm:=zk h';have hc:=ih _ hm (h8.kid hm) (ho.kid hm) (hx.kid hm) (hty.kid _ hm);rw [zW] at hc;simp only [z8] at hc;have hbad:=allO_at (evQ grR s i) q.kids n h';have hsm:= @evR_some s i (q.kids.getD n default);have hno:= @evR_none s i (q.kids.getD n default);generalize evR s i (q.kids.getD n default)=E at hc hsm hno;obtain ⟨rows,ok⟩:=E;simp only at hc hsm hno;refine ⟨Zs,?_⟩;refine zg [[6],[1],[0,0,0,0,0,0,0,0,0,6,6,7,1,1,15]] [] (hc) ?_;refine Zf ?_;cases ok with
  | false=>
    have hE:evR s i q=([],false):=by unfold evR;rw [hbad (hno rfl)]
    rw [hE] at hr;refine ⟨ze Zg,?_⟩;refine za (fun _=>?_) (fun g=>absurd g Zi);rw [<-hr];exact Mg
  | true=>
    have hv:=hsm rfl;have hk2:kid8 s i q (n+1)=kid8 s i q n++[rows]:=by rw [kid8,hst,hv];rfl
    have hrows:zd rTab (kid8 s i q n)++[[D.sl 1 (zd rRow rows)]]=zd rTab (kid8 s i q (n+1)):=by rw [hk2];exact zf rTab _ [rows]
    rw [hrows];refine ⟨ze Zg,?_⟩;refine za (fun g=>absurd g Zi) (fun _=>?_);refine ⟨⟨hl2.symm,Z2 hl2⟩,?_⟩;exact Jv
 obtain rfl:n=q.kids.length:=Zp h;clear hI;have hsome: ∀k∈q.kids,evQ grR s i k≠none:=fun k hk=>by
  exact K9
 have hE:evR s i q=evOpR s i q (kid8 s i q q.kids.length):=by
  unfold evR;rw [allO_get (evQ grR s i) [] q.kids hsome,kid8,Yk]
 have hk: ∀j,j<q.kids.length->RO (typQ s (q.kids.getD j default)).1.length ((kid8 s i q q.kids.length).getD j []):=fun j hj=>by
  have e1:(kid8 s i q q.kids.length).getD j []=(evQ grR s i (q.kids.getD j default)).getD []:=by
   rw [kid8,Yk];simp only [Yf,List.getElem?_map,List.getElem?_eq_getElem hj,Ub,Option.getD_some]
  rw [e1];have hm:=zk hj;cases hv:evQ grR s i (q.kids.getD j default) with
  | none=>exact absurd hv (hinv j hj)
  | some rows=>exact go grR_ok hi _ (hx.kid hm) (hty.kid _ hm) _ hv
 rw [hE] at hr;unfold evOpR at hr;clear hE hsome hinv;generalize kid8 s i q q.kids.length=ks at hr hk hl2 ⊢;rw [<-hl2];have hkids:=hty.kids;rw [<-hl2] at hkids hk;obtain ⟨O,hO⟩: ∃O,O=outM grR s i q (typQ s (q.kids.getD 0 default)).1.length (typQ s (q.kids.getD 1 default)).1.length (ks.getD 0 []) (ks.getD 1 []):=⟨_,rfl⟩
 rw [<-hO] at hr;unfold outM at hO;refine zN mixed ttok ?_;refine Zf ?_;have e2: ∀n:Int,(q.op==n)=true->q.op=n:=fun n h=>Zc h;have n2: ∀n:Int,(q.op==n)=false-> ¬q.op=n:=fun n h=>Zc h;have hw24: ∀j,j<ks.length->(typQ s (q.kids.getD j default)).1.length<=1000:=fun j hj=>jG hs _ (ho.kid (zk Za));have hdef: ∀j,ks.getD j default=ks.getD j []:=fun _=>rfl;by_cases hbig:q.op=5/\50000<(ks.getD 0 []).length * (ks.getD 1 []).length
 ·rw [if_pos hbig] at hr;have o5':=hbig.1;have hkids2:ks.length=2:=W4 hkids;have b2:=hk 0 Za;have c2:=hk 1 Za;have b3:=b2.len;have c3:=c2.len;have hbig:=hbig.2;have hmul:(ks.getD 0 []).length * (ks.getD 1 []).length<=1000 * 1000:=U3 b3 c3;have hwm:IntKind.i64.wrap (((ks.getD 0 []).length:Int) * ((ks.getD 1 []).length:Int))=(((ks.getD 0 []).length * (ks.getD 1 []).length:Nat):Int):=K7;refine uz mixed ttok ?_;simp -implicitDefEqProofs only [o5',hdef,↓zb,push_cast,simprocAttr,tt];refine ⟨Za,Za,Za,Za,ze Zg,?_⟩;rw [hwm];refine za (fun _=>?_) (fun g=>absurd (Yc g) Za);rw [<-hr];exact Mg
 rw [if_neg hbig] at hr;refine vP mixed ttok (⟨[(12,aTab O)],[]⟩:SL) ?_ ?_
 ·refine Zy hdef ?_;have hqr:zd yM q.rows=zd rRow q.rows:=rfl;refine za (fun o1=>?_) fun o1=>?_
  ·have o1':=e2 _ o1;obtain ⟨a1,a2⟩:=hty.scan o1';rw [if_pos o1'] at hO;refine zg [[6],[0]] [] (c_rfind s q.table Za) ?_;have hlt:=xU (fun t:Tbl=>t.name.toList==q.table.toList) s;have hbd:byT s q.table=fidx (fun t:Tbl=>t.name.toList==q.table.toList) s:=rfl;rw [<-hbd] at hlt;have hil:=hi.len;have hb2:(if 0>byT s q.table then (0:Int) else byT s q.table)=byT s q.table:=if_neg Za;generalize byT s q.table=b at hO a1 a2 hlt hb2 ⊢;refine XT hb2 ?_;refine ⟨Za,?_⟩;exact Ya (Ze hO) Zb Zb
  have o1':=n2 _ o1;rw [if_neg o1'] at hO;refine za (fun o2=>?_) fun o2=>?_
  ·have o2':=e2 _ o2;rw [if_pos o2'] at hO;exact Ya (Z0 hO hqr) Zb Zb
  have o2':=n2 _ o2;rw [if_neg o2'] at hO;rw [if_neg Za] at hkids;refine za (fun o3=>?_) fun o3=>?_
  ·have o3':=e2 _ o3;rw [if_pos o3'] at hO;rw [if_neg Za] at hkids;have b2:=hk 0 Za;have hk0l:=b2.len;obtain ⟨k0,hk0⟩: ∃k0,k0=ks.getD 0 []:=⟨_,rfl⟩
   rw [<-hk0] at hO b2 hk0l;refine zx mixed ttok (fun n:Nat=>(⟨[(15,num n),(8,.vec 500 ks.length),(5,.ptr 5 0),(12,.vec 700 ((k0.take n).filter (okC q)).length)],[(5,vQ q),(500,.vec 38 1 (zd rTab ks) 0),(700,vecT ((k0.take n).filter (okC q)))]⟩:SL)) (fun n=>k0.length-n) (fun n=>n<=k0.length) 0 (Yj _) ?_ ?_
   ·exact (YU 12 700 53 1 rfl rfl).trans (Ya Zb Zb Zb)
   intro I hI n hn;have hfs:=j8 (okC q) k0 n;obtain ⟨G,hG⟩: ∃G,G=(k0.take n).filter (okC q):=⟨_,rfl⟩
   have hGl:G.length<=n:=by rw [hG];exact Y3 (YX _ _) (by rw [Yh];omega)
   rw [<-hG] at hfs ⊢;have hce: ∀row,ACall Tryz.prog 73 [aE q.cond,aRow row] [] (aV (zG row q.cond)) []:=fun row=>c_reval row _ hq.cond;simp only [yt] at hce;simp -implicitDefEqProofs only [hdef,<-hk0,↓zb,push_cast,simprocAttr,tt];refine ⟨Za,Za,?_⟩;refine za (fun g=>?_) fun g=>?_
   ·have g':n<k0.length:=Zq g;have hwk:=zh g' Za;have hfs:=hfs g';obtain ⟨r,hrr⟩: ∃r,r=k0.getD n default:=⟨_,rfl⟩
    rw [<-hrr] at hfs ⊢;refine ⟨Za,Za,Za,?_⟩;refine zg [[0,0,0,0,0,6],[3]] [] (hce r) ?_;refine Z5 ?_;refine zg [[0,0,0]] [] (u3 (zG r q.cond)) ?_;simp -implicitDefEqProofs only [hdef,<-hk0,<-hrr,↓zb,push_cast,simprocAttr,tt];refine ⟨ze Zg,?_⟩;refine za (fun c1=>?_) fun c1=>?_
    ·have hok:okC q r=true:=c1;rw [if_pos hok] at hfs;have hrows:zd rRow G++[[D.sl 3 (zd rV r)]]=zd rRow (G++[r]):=zf rRow G [r];have hlen1:G.length+1=(G++[r]).length:=Xc;rw [hrows,hlen1];refine ⟨Za,Za,Za,Za,?_⟩;exact Nl
    ·exact GC
   exact JB
  have o3':=n2 _ o3;rw [if_neg o3'] at hO;refine za (fun o4=>?_) fun o4=>?_
  ·have o4':=e2 _ o4;rw [if_pos o4'] at hO;rw [if_neg Za] at hkids;have b2:=hk 0 Za;have hk0l:=b2.len;have hel:=hq.exprs;obtain ⟨k0,hk0⟩: ∃k0,k0=ks.getD 0 []:=⟨_,rfl⟩
   rw [<-hk0] at hO b2 hk0l;refine zx mixed ttok (fun n:Nat=>(⟨[(16,num n),(8,.vec 500 ks.length),(5,.ptr 5 0),(12,.vec 700 ((k0.take n).map (keyR q)).length)],[(5,vQ q),(500,.vec 38 1 (zd rTab ks) 0),(700,vecT ((k0.take n).map (keyR q)))]⟩:SL)) (fun n=>k0.length-n) (fun n=>n<=k0.length) 0 (Yj _) ?_ ?_
   ·exact (YU 12 700 53 1 rfl rfl).trans (Ya Zb Zb Zb)
   intro I hI n hn;have hfs:=fun h=>wp (keyR q) k0 n h;obtain ⟨G,hG⟩: ∃G,G=(k0.take n).map (keyR q):=⟨_,rfl⟩
   have hGl:G.length<=n:=by rw [hG,Y2,Yh];omega
   rw [<-hG] at hfs ⊢;simp -implicitDefEqProofs only [hdef,<-hk0,↓zb,push_cast,simprocAttr,tt];refine ⟨Za,Za,?_⟩;refine za (fun g=>?_) fun g=>?_
   ·have g':n<k0.length:=Zq g;have hwk:=zh g' Za;have hfs:=hfs g';obtain ⟨r,hrr⟩: ∃r,r=k0.getD n default:=⟨_,rfl⟩
    rw [<-hrr] at hfs;refine zx mixed ttok (fun j:Nat=>(⟨[(18,num j),(17,.vec 600 j),(16,num n),(8,.vec 500 ks.length),(5,.ptr 5 0),(12,.vec 700 G.length)],[(5,vQ q),(500,.vec 38 1 (zd rTab ks) 0),(700,vecT G),(600,.vec 71 3 (zd rV ((q.exprs.take j).map (zG r))) 0)]⟩:SL)) (fun j=>q.exprs.length-j) (fun j=>j<=q.exprs.length) 0 (Yj _) ?_ ?_
    ·exact (YU 17 600 71 3 rfl rfl).trans (Ya Zb (by simp [zd,ends]) Zb)
    intro J hJ j hj;have hss:=fun h=>wp (zG r) q.exprs j h;have hl3:((q.exprs.take j).map (zG r)).length=j:=Xu;simp -implicitDefEqProofs only [hdef,<-hk0,↓zb,push_cast,simprocAttr,tt];refine za (fun f=>?_) fun f=>?_
    ·have f':j<q.exprs.length:=Zq f;have hwj:=zh f' Za;have hss:=hss f';obtain ⟨L,hL⟩: ∃L,L=(q.exprs.take j).map (zG r):=⟨_,rfl⟩
     rw [<-hL] at hss hl3 ⊢;have hce:ACall Tryz.prog 73 [aE (q.exprs.getD j default),aRow r] [] (aV (zG r (q.exprs.getD j default))) []:=c_reval r _ (hq.ex _ (zk f'));rw [yt] at hce;obtain ⟨v,hv⟩: ∃v,v=zG r (q.exprs.getD j default):=⟨_,rfl⟩
     rw [<-hv] at hss hce;refine ⟨Za,Za,Za,Za,?_⟩;rw [<-hrr];refine zg [[0,0,0,0,0,6],[3]] [] (hce) ?_;refine Z5 ?_;have hss':L++[(⟨v.kind,v.num,v.text⟩:Val)]=(q.exprs.take (j+1)).map (zG r):=hss.symm;rw [hss'];refine ⟨⟨hl3.symm,Za⟩,ze Zg,?_⟩;refine zi hJ (j+1) f' Zl ?_;exact Ya (Z0 hwj hl3) Zb Zb
    obtain rfl:j=q.exprs.length:=Zp f;rw [Yk] at hl3 ⊢;have hrows:zd rRow G++[[D.sl 3 (zd rV (q.exprs.map (zG r)))]]=zd rRow (G++[keyR q r]):=zf rRow G [keyR q r];have hlen1:G.length+1=(G++[keyR q r]).length:=Xc;rw [hrows,hlen1];refine ⟨hl3.symm,Za,?_⟩;exact Nl
   exact JB
  have o4':=n2 _ o4;rw [if_neg o4'] at hO;refine za (fun o5=>?_) fun o5=>?_
  ·have o5':=e2 _ o5;rw [if_pos o5'] at hO;rw [if_pos Za] at hkids;have b2:=hk 0 Za;have c2:=hk 1 Za;have d1:=hw24 0 Za;have d2:=hw24 1 Za;have b3:=b2.len;have c3:=c2.len;obtain ⟨j1,j2,j3⟩:=hty.join o5';have hmul:(ks.getD 0 []).length * (ks.getD 1 []).length<=1000 * 1000:=U3 b3 c3;have hwm:IntKind.i64.wrap (((ks.getD 0 []).length:Int) * ((ks.getD 1 []).length:Int))=(((ks.getD 0 []).length * (ks.getD 1 []).length:Nat):Int):=K7;have m0:=zk (l:=q.kids) (n:=0) Za;have m1:=zk (l:=q.kids) (n:=1) Za;have hw0:=c_width s hs (q.kids.getD 0 default) (ho.kid m0) (num ((typQ s (q.kids.getD 0 default)).1.length:Nat)) (ZA (h8.typ o5' _ m0));have hw1:=c_width s hs (q.kids.getD 1 default) (ho.kid m1) (num ((typQ s (q.kids.getD 1 default)).1.length:Nat)) (ZA (h8.typ o5' _ m1));rw [zW] at hw0 hw1;have hc:=c_join8 q hq (ks.getD 0 []) (ks.getD 1 []) (typQ s (q.kids.getD 0 default)).1.length (typQ s (q.kids.getD 1 default)).1.length b3 c3 (fun r h=>Z2 (b2.wid r h)) (fun r h=>Z2 (c2.wid r h)) Za Za j1;rw [zW] at hc;refine ⟨Za,Za,Za,Za,ze Zg,?_⟩;rw [hwm];refine za (fun g=>absurd (Yd g) (by have:=fun h=>hbig ⟨o5',h⟩;omega)) (fun _=>?_);refine ⟨Za,Za,Za,Za,Za,?_⟩;refine zg [[6],[0,0,0,0,0,0,0,0,0,6,6,7,1,1,15]] [] (hw0) ?_;refine Zf ?_;refine ⟨Za,?_⟩;refine zg [[6],[0,0,0,0,0,0,0,0,0,6,6,7,1,1,15]] [] (hw1) ?_;refine Zf ?_;refine zg [[0,0,0,0,0,0,0,0,0,6,6,7,1,1,15],[1],[1],[],[]] [] (hc) ?_;exact N9
  have o5':=n2 _ o5;rw [if_neg o5'] at hO;refine za (fun o6=>?_) fun o6=>?_
  ·have o6':=e2 _ o6;rw [if_pos o6'] at hO;rw [if_pos Za] at hkids;have b2:=hk 0 Za;have c2:=hk 1 Za;have d1:=hw24 0 Za;have d2:=hw24 1 Za;have b3:=b2.len;have c3:=c2.len;refine ⟨Za,Za,Za,Za,?_⟩;refine zg [[1],[1],[0]] [] (c_union (ks.getD 0 []) (ks.getD 1 []) q.all Za Za (fun r h=>Z2 (b2.wid r h)) (fun r h=>Z2 (c2.wid r h))) ?_;exact N9
  have o6':=n2 _ o6;rw [if_neg o6'] at hO;refine za (fun o7=>?_) fun o7=>?_
  ·have o7':=e2 _ o7;rw [if_pos o7'] at hO;rw [if_pos Za] at hkids;have b2:=hk 0 Za;have c2:=hk 1 Za;have d1:=hw24 0 Za;have d2:=hw24 1 Za;have b3:=b2.len;have c3:=c2.len;refine ⟨Za,Za,Za,Za,?_⟩;refine zg [[1],[1],[0]] [] (c_except (ks.getD 0 []) (ks.getD 1 []) q.all Za Za (fun r h=>Z2 (b2.wid r h)) (fun r h=>Z2 (c2.wid r h))) ?_;exact N9
  have o7':=n2 _ o7;rw [if_neg o7'] at hO;refine za (fun o8=>?_) fun o8=>?_
  ·have o8':=e2 _ o8;rw [if_pos o8'] at hO;rw [if_pos Za] at hkids;have b2:=hk 0 Za;have c2:=hk 1 Za;have d1:=hw24 0 Za;have d2:=hw24 1 Za;have b3:=b2.len;have c3:=c2.len;refine ⟨Za,Za,Za,Za,?_⟩;refine zg [[1],[1],[0]] [] (c_inter (ks.getD 0 []) (ks.getD 1 []) q.all Za Za (fun r h=>Z2 (b2.wid r h)) (fun r h=>Z2 (c2.wid r h))) ?_;exact N9
  have o8':=n2 _ o8;rw [if_neg o8'] at hO;refine za (fun o9=>?_) fun o9=>?_
  ·have o9':=e2 _ o9;rw [if_pos o9'] at hO;rw [if_neg Za] at hkids;have b2:=hk 0 Za;have d1:=hw24 0 Za;have b3:=b2.len;refine ⟨Za,Za,?_⟩;refine zg [[1]] [] (c_distinct (ks.getD 0 []) Za (fun r h=>Z2 (b2.wid r h))) ?_;refine Zf ?_;exact Ya (Ze hO) Zb Zb
  have o9':=n2 _ o9;rw [if_neg o9'] at hO;refine za (fun oa=>?_) fun oa=>?_
  ·have oa':=e2 _ oa;rw [if_pos oa'] at hO;rw [if_neg Za] at hkids;have b2:=hk 0 Za;have d1:=hw24 0 Za;have b3:=b2.len;have hc:=h8.grp oa' q (ks.getD 0 []) hq hx.one b3 (fun r h=>Z2 (b2.wid r h)) b2.val;rw [zW] at hc;refine ⟨Za,Za,?_⟩;refine zg [[0,0,0,0,0,0,0,0,0,6,6,7,1,1,15],[1]] [] (hc) ?_;exact N9
  have oa':=n2 _ oa;have:=hty.op;omega
 refine uz mixed ttok ?_;refine Zf ?_;rw [<-hr];have hle:decide ((O.length:Int)<=1000)=decide (O.length<=1000):=decide_eq_decide.2 Za;rw [<-hle];exact Mg
end
section
attribute [local simp, local push_cast] Ta aRow rRow yx yA yM z7 zQ aAgg vQ vecT yj rTab mEval
theorem c_reval8 (s:Sch) (hs:SmallS s) (i:Inst) (hi:SmallI i) (q:Qr) (h8:(wJ s q).2=0->R8 s q) (ho:OkQ q) (hx:OkXQ q):
 ACall Tryz.prog 13 [aS s,z8 i,aQ q] [] (mEval (xW grR s i q)) []:=by
 have hc1:=c_rfits s i hs hi;have hc2:=c_Type4 s hs q ho;have hc3:=c_eval8 s hs i;have hok:= @fits_ok s i;simp only [z8] at hc1;rw [zW] at hc2 ⊢;refine zn mixed ttok Tryz.func13 Tryz.ntmps13 Tryz.results13 ?_;generalize hr:mEval (xW grR s i q)=R;unfold xW at hr;refine Zn ?_;refine zg [[6],[1]] [] (hc1) ?_;refine Zf ?_;refine za (fun h1=>?_) fun h1=>?_
 ·exact Hh
 have h1':we s i=0:=Zc h1;rw [if_neg (fun h=>h h1')] at hr;refine zg [[6],[0,0,0,0,0,0,0,0,0,6,6,7,1,1,15]] [] (hc2) ?_;refine Xf ?_;refine za (fun h2=>?_) fun h2=>?_
 ·exact Hd
 have h2':(wJ s q).2=0:=Zc h2;rw [if_neg (fun h=>h h2')] at hr;have h8:=h8 h2';rw [qQ h2'] at h2';have hI:=hok h1';have hc3:=hc3 hI q h8 ho hx h2';have hev:=go grR_ok hI q hx h2';have hw:=jG hs q ho;rw [zW] at hc3;simp only [z8] at hc3;have hsm:= @evR_some s i q;have hno:= @evR_none s i q;generalize evR s i q=E at hc3 hsm hno;obtain ⟨rows,ok⟩:=E;simp only at hc3 hsm hno;refine zg [[6],[1],[0,0,0,0,0,0,0,0,0,6,6,7,1,1,15]] [] (hc3) ?_;refine Zf ?_;cases ok with
 | false=>
   rw [hno rfl] at hr;refine za (fun _=>?_) (fun g=>absurd g Zi);rw [<-hr];exact Mg
 | true=>
   have hv:=hsm rfl;rw [hv] at hr;have hR:=hev rows hv;have hl:=hR.len;refine za (fun g=>absurd g Zi) (fun _=>?_);refine zg [[1]] [] (c_rcanon rows Za (fun r h=>Z2 (hR.wid r h))) ?_;exact GU
end
section
attribute [local simp, local push_cast] Ta aRow rRow rTab yx yA yM z7 zQ aAgg vQ vecT
def xx (q:Qr) (rows:List Row) (i:Nat):List Row:=focc ((rows.take i).map (keyR q))
def filI (q:Qr) (rows:List Row) (i:Nat) (k:Row):List Row:=(rows.take i).filter fun r=>cmpR (keyR q r) k==0
def grpI (q:Qr) (rows:List Row) (i:Nat):List (List Row):=(xx q rows i).map (filI q rows i)
theorem keys_step {q:Qr} {rows:List Row} {i:Nat} (h:i<rows.length):xx q rows (i+1)=Go.Proofs.YtnmibokjpedkiaaGreatDoor.addK (xx q rows i) (keyR q (rows.getD i default)):=by
 unfold xx focc;rw [zy _ _ h,YE,List.foldl_append];rfl
theorem fil_step {q:Qr} {rows:List Row} {i:Nat} (h:i<rows.length) (k:Row):filI q rows (i+1) k=filI q rows i k++(if cmpR (keyR q (rows.getD i default)) k=0 then [rows.getD i default] else []):=by
 unfold filI;rw [zy _ _ h,Uy]
 congr 1
 by_cases hc:cmpR (keyR q (rows.getD i default)) k=0
 ·rw [if_pos hc,UE (Zc hc)];rfl
 ·rw [if_neg hc,Ur (Zc hc)];rfl
theorem keys_nodup (q:Qr) (rows:List Row) (i:Nat):(xx q rows i).Nodup:=focc_nodup _
theorem foldK_len: ∀(l a:List Row),(l.foldl Go.Proofs.YtnmibokjpedkiaaGreatDoor.addK a).length<=a.length+l.length
 | [],a=>Ys _
 | x::l,a=>by
   rw [List.foldl_cons];have:=foldK_len l (Go.Proofs.YtnmibokjpedkiaaGreatDoor.addK a x);have h2:(Go.Proofs.YtnmibokjpedkiaaGreatDoor.addK a x).length<=a.length+1:=by
    unfold Go.Proofs.YtnmibokjpedkiaaGreatDoor.addK
    split
    ·omega
    ·rw [Yb];exact Ys _
   rw [Y5];omega
theorem focc_len (l:List Row):(focc l).length<=l.length:=by have:=foldK_len l [];simpa [focc] using this
theorem keys_len (q:Qr) (rows:List Row) (i:Nat):(xx q rows i).length<=rows.length:=Y3 (focc_len _) Xu
theorem fil_len (q:Qr) (rows:List Row) (i:Nat) (k:Row):(filI q rows i k).length<=rows.length:=Y3 (YX _ _) ZD
theorem key_new {q:Qr} {rows:List Row} {i:Nat} (h:i<rows.length) (hn: ∀j,j<(xx q rows i).length->cmpR ((xx q rows i).getD j default) (keyR q (rows.getD i default))≠0):
 xx q rows (i+1)=xx q rows i++[keyR q (rows.getD i default)]/\grpI q rows (i+1)=grpI q rows i++[[rows.getD i default]]:=by
 have hno:keyR q (rows.getD i default) ∉ xx q rows i:=fun hm=>by
  obtain ⟨j,hj,he⟩:=Uq hm;refine hn j hj ?_;rw [Yf,List.getElem?_eq_getElem hj,Option.getD_some,he,yi]
 have hk:xx q rows (i+1)=xx q rows i++[keyR q (rows.getD i default)]:=by
  rw [keys_step h];unfold Go.Proofs.YtnmibokjpedkiaaGreatDoor.addK;rw [if_neg fun e=>hno ((any_mem _ _).1 e)]
 refine ⟨hk,?_⟩;unfold grpI;rw [hk,YE,Y0,U7]
 congr 1
 ·refine Up fun k hm=>?_;rw [fil_step h,if_neg fun e=>hno (by rw [(wF _ _).1 e];exact hm),Yw]
 ·rw [fil_step h,if_pos (yi _)];have:filI q rows i (keyR q (rows.getD i default))=[]:=by
   unfold filI;refine UI.2 fun r hr e=>hno ?_;have:=(wF _ _).1 (eq_of_beq e);rw [<-this];exact (gm _ _).2 (List.mem_map_of_mem hr)
  rw [this];rfl
theorem key_old {q:Qr} {rows:List Row} {i j:Nat} (h:i<rows.length) (hj:j<(xx q rows i).length) (he:cmpR ((xx q rows i).getD j default) (keyR q (rows.getD i default))=0):
 xx q rows (i+1)=xx q rows i/\grpI q rows (i+1)=(grpI q rows i).set j ((grpI q rows i).getD j default++[rows.getD i default]):=by
 have hkj:=(wF _ _).1 he;have hgj:(xx q rows i).getD j default=(xx q rows i)[j]:=by rw [Yf,List.getElem?_eq_getElem hj,Option.getD_some]
 have hk:xx q rows (i+1)=xx q rows i:=by
  rw [keys_step h];unfold Go.Proofs.YtnmibokjpedkiaaGreatDoor.addK;rw [if_pos ((any_mem _ _).2 (by rw [<-hkj,hgj];exact List.getElem_mem hj))]
 refine ⟨hk,?_⟩;have hgl:(grpI q rows i).getD j default=filI q rows i (xx q rows i)[j]:=by
  unfold grpI;rw [Yf,List.getElem?_map,List.getElem?_eq_getElem hj];rfl
 rw [hgl];unfold grpI;rw [hk];apply Uc;intro n;rw [List.getElem?_set,List.getElem?_map,Y2,List.getElem?_map];by_cases hn:n<(xx q rows i).length
 ·rw [List.getElem?_eq_getElem hn];by_cases hnj:j=n
  ·subst hnj;rw [if_pos rfl,if_pos hn,Ub,fil_step h,if_pos (by rw [<-hkj,hgj,yi])]
  ·rw [if_neg hnj,Ub,Ub,fil_step h,if_neg,Yw];intro e;have e2:=(wF _ _).1 e;rw [<-hkj,hgj] at e2;have hp:=List.pairwise_iff_getElem.1 (keys_nodup q rows i);rcases Nat.lt_or_gt_of_ne hnj with g | g
   ·exact hp _ _ hj hn g e2
   ·exact hp _ _ hn hj g e2.symm
 ·rw [List.getElem?_eq_none Za];rw [if_neg Za];rfl
theorem grpI_len (q:Qr) (rows:List Row) (i:Nat):(grpI q rows i).length=(xx q rows i).length:=by unfold grpI;rw [Y2]
def filR (q:Qr) (rows:List Row) (k:Row):List Row:=rows.filter fun r=>cmpR (keyR q r) k==0
theorem fil_all (q:Qr) (rows:List Row):filI q rows rows.length=filR q rows:=by funext k;unfold filI filR;rw [Yk]
theorem gkR_some {q:Qr} {rows:List Row} (h:q.exprs.length≠0):gkR q rows=xx q rows rows.length:=by unfold gkR xx;rw [if_neg h,Yk]
theorem filR_none {q:Qr} {rows:List Row} (h:q.exprs.length=0):filR q rows []=rows:=by
 unfold filR;refine List.filter_eq_self.2 fun r _=>?_;have:keyR q r=[]:=by unfold keyR;rw [Yi h];rfl
 rw [this];rfl
theorem gkR_len {q:Qr} {rows:List Row} (h:rows.length<=1000):(gkR q rows).length<=1000:=by
 by_cases h0:q.exprs.length=0
 ·unfold gkR;rw [if_pos h0];decide
 ·rw [gkR_some h0];exact Y3 (keys_len _ _ _) h
theorem gkR_row {q:Qr} {rows:List Row} (hq:q.exprs.length<=1000): ∀k∈gkR q rows,k.length<=1000:=fun k hk=>by
 by_cases h0:q.exprs.length=0
 ·unfold gkR at hk;rw [if_pos h0] at hk;rw [YK.1 hk];decide
 ·unfold gkR at hk;rw [if_neg h0] at hk;obtain ⟨r,_,rfl⟩:=Yv.1 ((gm _ k).1 hk);unfold keyR;rw [Y2];exact hq
theorem c_bothV (a:Row) (ha:a.length<=1000):ACall Tryz.prog 140 [aRow a,aRow []] [] (.vec 1000 a.length) [(1000,.vec 71 3 (zd rV a) 0)]:=by
 refine zn mixed ttok Tryz.func140 Tryz.ntmps140 Tryz.results140 ?_;refine Zn ?_;refine ⟨Za,Za,?_⟩;rw [zC,Yw];exact ret_vec 8 trivial Za rfl rfl Zb
def memR (G:List (List Row)):List (List (List D)):=G.map (zd rRow)
theorem vi (G:List (List Row)):(memR G).length=G.length:=Y2 ..
theorem memR_get (G:List (List Row)) (j:Nat):(memR G)[j]? =G[j]?.map (zd rRow):=List.getElem?_map ..
theorem memR_at {G:List (List Row)} {j:Nat} (h:j<G.length):(memR G)[j]? =some (zd rRow (G.getD j default)):=by rw [memR_get,Yf,List.getElem?_eq_getElem h];rfl
theorem memR_tab (G:List (List Row)):((memR G).map (D.sl 1)).map (fun x=>[x])=zd rTab G:=by unfold memR zd;rw [Ux,Ux];rfl
theorem memR_app (G:List (List Row)) (l:List Row):memR (G++[l])=memR G++[zd rRow l]:=by unfold memR;rw [YE];rfl
theorem memR_set (G:List (List Row)) (j:Nat) (l:List Row):memR (G.set j l)=(memR G).set j (zd rRow l):=by unfold memR;rw [List.map_set]
def gvO (G:List (List Row)):Ob:= .gv 38 (x5 100000 (memR G))
def gvL (G:List (List Row)):List (Nat×Ob):=u7 53 1 100000 (memR G)
def M6 (q:Qr) (rows:List Row) (i:Nat):A:=if q.exprs.length=0 then .d (.sl 1 (zd rTab [rows])) else .g 501 (grpI q rows i).length none
def O6 (q:Qr) (rows:List Row) (i:Nat):List (Nat×Ob):=if q.exprs.length=0 then [] else (501,gvO (grpI q rows i))::gvL (grpI q rows i)
def K6 (q:Qr) (rows:List Row) (i:Nat):List Row:=if q.exprs.length=0 then [[]] else xx q rows i
theorem qb {f:UJ} {dom:Nat->Bool} {G:List (List Row)} (h: ∀n,n<G.length->f (n+100000)=some (.vec 53 1 (zd rRow (G.getD n default)) 0)):keepO f dom (gvL G):=
 keepO_vecs fun n r hn=>by
  have hl:=(List.getElem?_eq_some_iff.1 hn).1;rw [vi] at hl;rw [memR_at hl] at hn;cases hn;exact h n hl
theorem uF {dom:Nat->Bool} {G:List (List Row)} (h:G.length<=1000):keepIn dom (gvL G):=keepIn_vecs fun n hn=> .inl (hdd_own Za (by rw [vi] at hn;omega))
theorem wX {G:List (List Row)} {n:Nat} (h:n<G.length):lookO (gvL G) (n+100000)=some (.vec 53 1 (zd rRow (G.getD n default)) 0):=lookO_vecs_at _ _ _ (memR_at h)
theorem look_gv_lt (G:List (List Row)) {k:Nat} (h:k<100000):lookO (gvL G) k=none:=lookO_vecs_lt _ _ _ h
theorem closed_gv {dom:Nat->Bool} {G:List (List Row)} (h: ∀n,n<G.length->dom (n+100000)=true):(gvO G).closed dom=true:=kC fun n hn=>h n (by rw [vi] at hn;exact hn)
theorem yP {k n:Nat} {v:Ob} {l:UM} (h:k<100000):lookO ((k,v)::l) (n+100000)=lookO l (n+100000):=y4 Za
theorem W5 {p:Prop} (h:p:=by simp [ends];exact uF hGl):p:=h
theorem WF {p:Prop} (h:p:=by simp [ends];exact ⟨closed_gv fun n hn=>by unfold inO;simp [yP,wX hn],qb fun n hn=>by simp [yP,wX hn]⟩):p:=h
theorem c_grouped:CG:=fun q rows hq hx hl hrl hrv=>by
 have hel:=hq.exprs;have hal:=hq.aggs;rw [zW];refine enterX ttok Tryz.func79 Tryz.ntmps79 Tryz.results79 ?_;generalize hr:aTab (grR q rows)=R;refine zN mixed ttok ?_;refine Zn ?_;refine zN mixed ttok ?_;refine Zf ?_;refine zN mixed ttok ?_;refine Zf ?_;refine vP mixed ttok (⟨[(1,aTab rows),(2,.ptr 2 0),(5,.vec 500 (K6 q rows 0).length),(6,M6 q rows 0)],(2,vQ q)::(500,vecT (K6 q rows 0))::O6 q rows 0⟩:SL) ?_ ?_
 ·refine Zf ?_;refine za (fun h=>?_) fun h=>?_
  ·have h0:q.exprs.length=0:=Zc h;simp -implicitDefEqProofs only [K6,M6,O6,if_pos h0,↓zb,push_cast,simprocAttr,tt];refine (Weak.ren 21 500 Za Za rfl).trans ((Weak.frzSlotL 6 1 rfl Zd).trans ?_);exact Ya (by simp [renT,renO,zT,ends]) (by simp [renT,renO,zT,zd,ends]) (by simp [renT,renO,zT,ends])
  ·have h0: ¬q.exprs.length=0:=Zc h;have hk0:xx q rows 0=[]:=rfl;have hg0:grpI q rows 0=[]:=rfl;simp -implicitDefEqProofs only [K6,M6,O6,if_neg h0,hk0,hg0,↓zb,push_cast,simprocAttr,tt];refine (YU 5 500 53 1 rfl rfl).trans ((Weak.nilG 6 501 38 rfl rfl).trans ?_);exact Ya Zb (by simp [gvO,gvL,memR,x5,u7,zd,ends]) Zb
 refine vP mixed ttok (⟨[(2,.ptr 2 0),(5,.vec 500 (gkR q rows).length),(6,.d (.sl 1 (zd rTab ((gkR q rows).map (filR q rows)))))],[(2,vQ q),(500,vecT (gkR q rows))]⟩:SL) ?_ ?_
 ·refine Zf ?_;refine zx mixed ttok (fun i:Nat=>(⟨[(7,num i),(1,aTab rows),(2,.ptr 2 0),(5,.vec 500 (K6 q rows i).length),(6,M6 q rows i)],(2,vQ q)::(500,vecT (K6 q rows i))::O6 q rows i⟩:SL)) (fun i=>rows.length-i) (fun i=>i<=rows.length/\(q.exprs.length=0->i=0)) 0 ⟨Yj _,fun _=>rfl⟩ ?_ ?_
  ·by_cases h0:q.exprs.length=0
   ·simp only [O6,M6,if_pos h0];exact Ya Zb Zb Zb
   ·simp only [O6,M6,if_neg h0];exact Ya Zb (by simp [gvO,gvL,memR,grpI,xx,focc,x5,u7,ends]) (by simp [gvL,memR,grpI,xx,focc,u7,ends])
  intro I hI i ⟨hi,hi0⟩;have hexit:i=rows.length\/q.exprs.length=0->K6 q rows i=gkR q rows/\(q.exprs.length≠0->i=rows.length):=fun h=>by
   by_cases h0:q.exprs.length=0
   ·exact ⟨by unfold K6 gkR;rw [if_pos h0,if_pos h0],fun e=>absurd h0 e⟩
   ·have:=h.resolve_right h0;subst this;exact ⟨by unfold K6;rw [if_neg h0,gkR_some h0],fun _=>rfl⟩
  have hend:i=rows.length\/q.exprs.length=0-> ∀t:List (Nat×A),lookT t 2= .ptr 2 0->lookT t 5= .vec 500 (K6 q rows i).length->lookT t 6=M6 q rows i->Weak (SL.mk t ((2,vQ q)::(500,vecT (K6 q rows i))::O6 q rows i)).st
   (SL.mk [(2,.ptr 2 0),(5,.vec 500 (gkR q rows).length),(6,.d (.sl 1 (zd rTab ((gkR q rows).map (filR q rows)))))] [(2,vQ q),(500,vecT (gkR q rows))]).st:=fun h t t2 t5 t6=>by
   obtain ⟨h1,h2⟩:=hexit h;rw [h1] at t5 ⊢;by_cases h0:q.exprs.length=0
   ·have hg:gkR q rows=[[]]:=by unfold gkR;rw [if_pos h0]
    simp only [M6,O6,if_pos h0,hg,Y0,U7,filR_none h0] at t5 t6 ⊢;exact Ya (by simp [t2,t5,t6,ends]) Zb Zb
   ·obtain rfl:=h2 h0;have hG:(gkR q rows).map (filR q rows)=grpI q rows rows.length:=by rw [gkR_some h0];unfold grpI;rw [fil_all]
    have hgl:(grpI q rows rows.length).length<=1000:=by rw [grpI_len];exact Y3 (keys_len _ _ _) hl
    rw [hG];simp only [M6,O6,if_neg h0] at t6 ⊢;generalize grpI q rows rows.length=G at hgl t6 ⊢;rw [<-memR_tab];refine (Weak.keepG (t:=lookT t) (σ:=⟨[(2,.ptr 2 0),(5,.vec 500 (gkR q rows).length)],[(2,vQ q),(500,vecT (gkR q rows))]⟩) 6 (q:=501) (n:=G.length) (e2:=53) (b0:=100000) (ls:=memR G) t6 rfl rfl (vi G).symm (fun j r hj=>?_) ?_ ?_ ?_).trans ?_
    ·have hjl:j<G.length:=by have:=(List.getElem?_eq_some_iff.1 hj).1;rwa [vi] at this
     rw [memR_at hjl] at hj;cases hj;exact ⟨by rw [yP (by omega),yP (by omega),yP (by omega),wX hjl],by unfold inO;rw [yP (by omega),yP (by omega)];rfl⟩
    ·simp [t2,t5,ends]
    ·simp [ends]
    ·exact ⟨.inl rfl,.inl rfl,.inl rfl,uF hgl⟩
    ·exact Ya Zb Zb Zb
  refine Zf ?_;refine za (fun h=>?_) fun h=>?_
  rotate_left
  ·exact hend (.inl (Zp h)) _ rfl rfl rfl
  ·have h':i<rows.length:=Zq h;refine za (fun h2=>?_) fun h2=>?_
   rotate_left
   ·exact hend (.inr (Zp h2)) _ rfl rfl rfl
   ·have h0: ¬q.exprs.length=0:=Zq h2;have hw:=zh h' Za;have hce: ∀e∈q.exprs,∀row,ACall Tryz.prog 73 [aE e,aRow row] [] (aV (zG row e)) []:=fun e he row=>c_reval row e (hq.ex e he);simp only [yt] at hce;obtain ⟨r,hrr⟩: ∃r,r=rows.getD i default:=⟨_,rfl⟩
    have hkl:=keys_len q rows i;have hgl:=grpI_len q rows i;have hGl:(grpI q rows i).length<=1000:=Za;have hGm: ∀l∈grpI q rows i,l.length<=1000:=fun l hm=>by
     obtain ⟨k,_,rfl⟩:=Yv.1 hm;exact Y3 (fil_len _ _ _ _) hl
    have hnew:=key_new (q:=q) h';have hold:=fun j=>key_old (q:=q) (j:=j) h';have hst:(fun i:Nat=>(⟨[(7,num i),(1,aTab rows),(2,.ptr 2 0),(5,.vec 500 (K6 q rows i).length),(6,M6 q rows i)],(2,vQ q)::(500,vecT (K6 q rows i))::O6 q rows i⟩:SL))=
     fun i=>⟨[(7,num i),(1,aTab rows),(2,.ptr 2 0),(5,.vec 500 (xx q rows i).length),(6,.g 501 (grpI q rows i).length none)],(2,vQ q)::(500,vecT (xx q rows i))::(501,gvO (grpI q rows i))::gvL (grpI q rows i)⟩:=by funext i;simp only [K6,M6,O6,if_neg h0]
    rw [<-hrr] at hnew hold;have hKk: ∀k∈xx q rows i,k.length<=1000000:=fun k hk=>by
     obtain ⟨r',_,rfl⟩:=Yv.1 ((gm _ k).1 hk);unfold keyR;rw [Y2];omega
    simp only [K6,M6,O6,if_neg h0];generalize xx q rows i=K at hKk hkl hgl hnew hold ⊢;generalize grpI q rows i=G at hgl hGl hGm hnew hold ⊢;have hlk: ∀k,k<100000->lookO (gvL G) k=none:=fun k h=>look_gv_lt G h;refine zx mixed ttok (fun n:Nat=>(⟨[(9,num n),(8,.vec 502 ((q.exprs.take n).map (zG r)).length),(7,num i),(1,aTab rows),(2,.ptr 2 0),(5,.vec 500 K.length),(6,.g 501 G.length none)],
     (502,.vec 71 3 (zd rV ((q.exprs.take n).map (zG r))) 0)::(2,vQ q)::(500,vecT K)::(501,gvO G)::gvL G⟩:SL)) (fun n=>q.exprs.length-n) (fun n=>n<=q.exprs.length) 0 (Yj _) ?_ ?_
    ·refine (YU 8 502 71 3 rfl (by simp only [lookO];rw [look_gv_lt _ (by omega)];rfl)).trans ?_;exact Ya Zb (by simp [zd,ends];exact ⟨closed_gv fun n hn=>by unfold inO;simp [yP,wX hn],qb fun n hn=>by simp [yP,wX hn]⟩) W5
    intro J hJ n hn;have hs:n<q.exprs.length->(q.exprs.take (n+1)).map (zG r)=(q.exprs.take n).map (zG r)++[zG r (q.exprs.getD n default)]:=fun h=>by rw [zy _ _ h,YE];rfl
    have hl2:((q.exprs.take n).map (zG r)).length<=1000:=Xu;refine Zf ?_;refine za (fun g=>?_) fun g=>?_
    ·have g':n<q.exprs.length:=Zq g;have hwn:=zh g' Za;have hs:=hs g';have hls:((q.exprs.take (n+1)).map (zG r)).length=((q.exprs.take n).map (zG r)).length+1:=Xr hs;obtain ⟨L,hL⟩: ∃L,L=(q.exprs.take n).map (zG r):=⟨_,rfl⟩
     rw [<-hL] at hs hl2 hls ⊢;have hc:=hce _ (zk g') r;rw [<-hrr];refine ⟨⟨Za,Za⟩,⟨Za,Za⟩,?_⟩;refine zg [[0,0,0,0,0,6],[3]] [] (hc) ?_;simp -implicitDefEqProofs only [aV,hlk,↓zb,push_cast,simprocAttr,tt];rw [<-hs];refine ⟨Za,ze Zg,?_⟩;rw [<-hls];exact zi hJ (n+1) g' Zl (Ya (Ze hwn) WF W5)
    obtain rfl:n=q.exprs.length:=Zp g;have hkey:(q.exprs.take q.exprs.length).map (zG r)=keyR q r:=by rw [Yk];rfl
    rw [hkey] at hl2 ⊢;have hml: ∀k∈K,k.length<=1000000:=fun k hk=>hKk k hk;obtain ⟨key,hke⟩: ∃key,key=keyR q r:=⟨_,rfl⟩
    rw [<-hke] at hl2 hnew hold ⊢;refine zx mixed ttok (fun n:Nat=>(⟨[(10,num n),(8,aRow key),(7,num i),(1,aTab rows),(2,.ptr 2 0),(5,.vec 500 K.length),(6,.g 501 G.length none)],
     (2,vQ q)::(500,vecT K)::(501,gvO G)::gvL G⟩:SL)) (fun n=>K.length-n) (fun n=>n<=K.length/\ ∀j,j<n->cmpR (K.getD j default) key≠0) 0 ⟨Yj _,fun j h=>absurd h (Yu _)⟩ ?_ ?_
    ·refine (Weak.frzSlotL 8 3 rfl X6).trans ?_;exact Ya Zb WF W5
    intro M hM n ⟨hn,hno⟩;refine Zf ?_;refine za (fun g2=>?_) fun g2=>?_
    ·have g2':n<K.length:=Zq g2;have hwn:=zh g2' Za;have hkn:=hml _ (zk g2');refine ⟨⟨Za,Za⟩,g2',?_⟩;refine zg [[3],[3]] [] (jB (K.getD n default) key hkn) ?_;refine Zf ?_;refine za (fun e=>?_) (fun e=>?_)
     ·have hne:cmpR (K.getD n default) key≠0:=Zc e;refine zi hM (n+1) ⟨g2',fun j hj=>?_⟩ Zl (Ya (Ze hwn) WF W5);rcases YL j n with q1 | q1
      ·exact hno j q1
      ·rw [show j=n from Za];exact hne
     ·have heq:cmpR (K.getD n default) key=0:=Zc e;obtain ⟨hk1,hg1⟩:=hold n g2' heq;refine za (fun e=>absurd (eq_of_beq e) Za) (fun _=>?_);have hng:n<G.length:=Za;have hvg:(x5 100000 (memR G))[n]? =some (.vec (n+100000) (G.getD n default).length):=by rw [kO,memR_at hng,Ub,zc]
      have hlg:=wX hng;have hvl:(x5 100000 (memR G)).length=G.length:=by rw [vt,vi]
      have e1: ∀k,k<1000->(k=n+100000)=False:=fun k hk=>eq_false Za;simp -implicitDefEqProofs only [gvO,hlk,↓zb,push_cast,simprocAttr,tt];simp -implicitDefEqProofs only [hvg,hvl,hlk,hlg,Ub,↓zb,push_cast,simprocAttr,tt];have hgn:=hGm _ (zk hng);refine ⟨⟨Za,Za⟩,⟨Za,Za⟩,Za,⟨Za,Za⟩,hng,ze Zg,?_⟩;refine zi hI (i+1) ⟨h',fun e=>absurd e h0⟩ Zl ?_;simp only [K6,M6,O6,if_neg h0,hk1,hg1];have hrow:zd rRow (G.getD n default)++[[D.sl 3 (zd rV (rows.getD i default))]]=zd rRow (G.getD n default++[r]):=by rw [hrr];exact zf rRow _ [rows.getD i default]
      have hvs:(x5 100000 (memR G)).set n (A.vec (n+100000) ((G.getD n default).length+1))=x5 100000 (memR (G.set n (G.getD n default++[r]))):=by
       rw [memR_set,<-vecsA_set,zc,Yb];rfl
      rw [hrow,hvs];obtain ⟨X,hX⟩: ∃X,X=G.getD n default++[r]:=⟨_,rfl⟩
      obtain ⟨G1,hGe⟩: ∃G1,G1=G.set n X:=⟨_,rfl⟩
      rw [<-hX,<-hGe];have hG1:G1.length=G.length:=by rw [hGe];exact YF ..
      have hgo:gvO G1= .gv 38 (x5 100000 (memR G1)):=rfl;have hgn1:G1.getD n default=X:=by rw [hGe,Yf,List.getElem?_set_self hng];rfl
      have hgj1: ∀j,j≠n->G1.getD j default=G.getD j default:=fun j e=>by rw [hGe,Yf,List.getElem?_set_ne (fun e'=>e e'.symm),<-Yf]
      refine Ya (Z0 hw hG1) ?_ ?_
      ·simp [hgo,ends];refine ⟨kC fun j hn=>?_,qb fun j hn=>?_⟩
       ·rw [vi] at hn;unfold inO;simp [yP,wX hn]
       ·by_cases q1:j=n
        ·subst q1;rw [hgn1];simp [yP,lookO]
        ·rw [hG1] at hn;rw [hgj1 j q1];simp [yP,y4 (show n+100000≠j+100000 from Za),wX hn]
      ·simp [ends];exact ⟨.inl Za,uF hGl⟩
    ·obtain rfl:n=K.length:=Zp g2;obtain ⟨hk1,hg1⟩:=hnew hno;refine za (fun _=>?_) (fun e=>absurd e Zd);have hD:(x5 100000 (memR G)).length=K.length:=by rw [vt,vi];exact hgl
     simp -implicitDefEqProofs only [gvO,hlk,↓zb,push_cast,simprocAttr,tt];simp -implicitDefEqProofs only [Yw,getA_at hD,setA_at hD,hlk,↓zb,push_cast,simprocAttr,tt];have hGK:K.length=G.length:=hgl.symm;have happ:(x5 100000 (memR G)++[A.snil]).length=G.length+1:=by rw [Yb,hD,hGK];rfl
     rw [happ,hD];refine ⟨Za,⟨Za,Za⟩,⟨⟨Za,Za⟩,Za⟩,Za,⟨Za,Za⟩,⟨⟨Za,Za⟩,Za⟩,⟨Za,Za⟩,ze Zg,?_⟩;refine zi hI (i+1) ⟨h',fun e=>absurd e h0⟩ Zl ?_;simp only [K6,M6,O6,if_neg h0,hk1,hg1];have hrv:renL (zT 95 (K.length+100000)) (x5 100000 (memR G)++[A.vec 95 1])=x5 100000 (memR (G++[[r]])):=by
      rw [renL_app,renL_vecs (fun n hn=>by unfold zT;rw [if_neg (by omega)]),memR_app,vecsA_app,vi,hGK];simp [renL,A.ren,zT,zd]
     have hro:renO 95 (K.length+100000) (gvL G)=gvL G:=renO_vecs fun n hn=>by unfold zT;rw [if_neg (by omega)]
     refine (Weak.ren 95 (K.length+100000) Za Za ?_).trans ?_
     ·simp only [yP,Nat.reduceLT];exact lookO_vecs_ge _ _ _ (by rw [vi];omega)
     ·simp only [renT,renO,hro,Ob.ren,hrv];have hG1:(G++[[r]]).length=G.length+1:=Xc;have hG1l:(G++[[r]]).length<=1000:=by have:=keys_len q rows (i+1);rw [hk1,Yb] at this;simp at this;omega
      have hgo:gvO (G++[[r]])= .gv 38 (x5 100000 (memR (G++[[r]]))):=rfl;refine Ya (by simp [zT,hw,hgl,hD,ends]) ?_ ?_
      ·simp [zT,hgo,zf,ends];refine ⟨zf rRow K [key],kC fun n hn=>?_,qb fun n hn=>?_⟩
       ·rw [vi] at hn;unfold inO;simp [yP,wX hn]
       ·rcases YL n G.length with q1 | q1
        ·have hget:(G++[[r]]).getD n default=G.getD n default:=by simp [Yf,List.getElem?_append_left q1]
         rw [hget];simp [yP,y4 (show K.length+100000≠n+100000 from Za),wX q1]
        ·obtain rfl:n=K.length:=Za;have hget:(G++[[r]]).getD K.length default=[r]:=by rw [hGK];simp [Yf]
         rw [hget];simp [yP,lookO,zd,hrr]
      ·simp [zT,ends];exact ⟨.inl Za,uF hGl⟩
 have hKl:=gkR_len (q:=q) hl;have hKr:=gkR_row (rows:=rows) hel;have hfr: ∀k,(filR q rows k).length<=1000:=fun k=>Y3 (YX _ _) hl;have hfv: ∀k,∀r∈filR q rows k,∀v∈r,okV v:=fun k r hm=>hrv r (Uj.1 hm).1;have hR:grR q rows=(gkR q rows).map fun k=>k++xc q (filR q rows k):=rfl;rw [hR] at hr;clear hR;generalize gkR q rows=K at hKl hKr hr ⊢;refine zN mixed ttok ?_;refine Zf ?_;refine zN mixed ttok ?_;refine Zf ?_;refine zx mixed ttok (fun n:Nat=>(⟨[(12,num n),(11,.vec 505 ((K.take n).map fun k=>k++xc q (filR q rows k)).length),(2,.ptr 2 0),(5,.vec 500 K.length),(6,.d (.sl 1 (zd rTab (K.map (filR q rows)))))],[(2,vQ q),(500,vecT K),(505,vecT ((K.take n).map fun k=>k++xc q (filR q rows k)))]⟩:SL)) (fun n=>K.length-n) (fun n=>n<=K.length) 0 (Yj _) ?_ ?_
 ·exact (YU 11 505 53 1 rfl rfl).trans (Ya Zb (by simp [zd,ends]) Zb)
 intro I hI n hn;have hs:n<K.length->(K.take (n+1)).map (fun k=>k++xc q (filR q rows k))=(K.take n).map (fun k=>k++xc q (filR q rows k))++[K.getD n default++xc q (filR q rows (K.getD n default))]:=fun h=>by rw [zy _ _ h,YE];rfl
 have hl2:((K.take n).map fun k=>k++xc q (filR q rows k)).length<=1000:=Xu;refine Zf ?_;refine za (fun g=>?_) fun g=>?_
 ·have g':n<K.length:=Zq g;have hw:=zh g' Za;have hs:=hs g';have hls:((K.take (n+1)).map fun k=>k++xc q (filR q rows k)).length=((K.take n).map fun k=>k++xc q (filR q rows k)).length+1:=Xr hs;obtain ⟨L,hL⟩: ∃L,L=(K.take n).map fun k=>k++xc q (filR q rows k):=⟨_,rfl⟩
  rw [<-hL] at hs hl2 hls ⊢;have hkr:=hKr _ (zk g');have hc:=c_bothV (K.getD n default) hkr;have hc2:=fun (a:Agg) (hm:a∈q.aggs)=>c_raggregate a.fn a.arg (hq.ag a hm) (filR q rows (K.getD n default)) (hfr _) (okV_vals a.arg _ (hx.ag a hm) (hfv _));have hgetm:(K.map (filR q rows)).getD n default=filR q rows (K.getD n default):=by
   rw [Yf,Yf,List.getElem?_map,List.getElem?_eq_getElem g'];rfl
  have hml:(K.map (filR q rows)).length=K.length:=Y2 ..;generalize filR q rows (K.getD n default)=F at hs hc2 hgetm;generalize K.getD n default=k at hs hc hkr hgetm ⊢;refine ⟨⟨Za,Za⟩,g',?_⟩;refine zg [[3],[3]] [(1000,506)] (hc) ?_;refine Zf ?_;refine zx mixed ttok (fun m:Nat=>(⟨[(14,num m),(13,.vec 506 (k++(q.aggs.take m).map fun a=>aggM a.fn a.arg F).length),(12,num n),(11,.vec 505 L.length),(2,.ptr 2 0),(5,.vec 500 K.length),(6,.d (.sl 1 (zd rTab (K.map (filR q rows)))))],
   [(2,vQ q),(500,vecT K),(505,vecT L),(506,.vec 71 3 (zd rV (k++(q.aggs.take m).map fun a=>aggM a.fn a.arg F)) 0)]⟩:SL)) (fun m=>q.aggs.length-m) (fun m=>m<=q.aggs.length) 0 (Yj _) ?_ ?_
  ·exact Ya Zb Zb Zb
  intro J hJ m hm;have hs2:m<q.aggs.length->k++((q.aggs.take (m+1)).map fun a=>aggM a.fn a.arg F)=(k++(q.aggs.take m).map fun a=>aggM a.fn a.arg F)++[aggM (q.aggs.getD m default).fn (q.aggs.getD m default).arg F]:=fun h=>by rw [zy _ _ h,YE,Yn];rfl
  have hl3:(k++(q.aggs.take m).map fun a=>aggM a.fn a.arg F).length<=2000:=by rw [Yb,Y2,Yh];omega
  refine Zf ?_;refine za (fun f=>?_) fun f=>?_
  ·have f':m<q.aggs.length:=Zq f;have hwm:=zh f' Za;have hs2:=hs2 f';have hls2:(k++(q.aggs.take (m+1)).map fun a=>aggM a.fn a.arg F).length=(k++(q.aggs.take m).map fun a=>aggM a.fn a.arg F).length+1:=Xr hs2;obtain ⟨X,hX⟩: ∃X,X=k++(q.aggs.take m).map fun a=>aggM a.fn a.arg F:=⟨_,rfl⟩
   rw [<-hX] at hs2 hl3 hls2 ⊢;have hc2:=hc2 _ (zk f');simp only [aAgg] at hc2;rw [hgetm];refine ⟨⟨Za,Za⟩,⟨Za,Za⟩,?_⟩;refine zg [[0,0,0,0,0,0,6],[1]] [] (hc2) ?_;refine Z5 ?_;rw [<-hs2];refine ⟨Za,ze Zg,?_⟩;rw [<-hls2];exact zi hJ (m+1) f' Zl (Ya (Ze hwm) Zb Zb)
  obtain rfl:m=q.aggs.length:=Zp f;rw [Yk] at hl3 ⊢;have hrows:zd rRow L++[[D.sl 3 (zd rV (k++xc q F))]]=zd rRow (L++[k++xc q F]):=zf rRow L [k++xc q F];unfold xc at hs hrows;rw [hrows,<-hs];refine ⟨Za,?_⟩;rw [<-hls];exact zi hI (n+1) g' Zl (Ya (Ze hw) (by simp [hL,xc,ends]) Zb)
 obtain rfl:n=K.length:=Zp g;rw [Yk];refine zN mixed ttok ?_;refine Zf ?_;refine uz mixed ttok ?_;refine Zf ?_;exact MO
end
end Go.Proofs.YtnmibokjpedkiaaGreatDoor
