/- Conditions over finite domains (part Wn) -/
import Derived.Test.YtiagabnddihchaaGreatDoorWm
set_option maxRecDepth 100000
set_option maxHeartbeats 4000000
set_option linter.all false
namespace Go.Proofs.YtiagabnddihchaaGreatDoor
section
open Go.Am
attribute [local simp, local push_cast] num boo str ints aV aTab aRow rRow vE
theorem c_ints (a b:List Int) (hl:a.length≤1000000) (hm:b.length≤1000000):ACall Tryz.prog 84 [ints a,ints b] [] (boo (a==b)) []:=by
 refine zm mixed ttok Tryz.func84 Tryz.ntmps84 Tryz.results84 ?_
 generalize hr:boo (a==b)=R
 simp -implicitDefEqProofs only [argT,↓zb,push_cast,simprocAttr,tte]
 refine za (fun h0=>?_) fun h0=>?_
 ·have h0': ¬a.length=b.length:=by simp only [bne_iff_ne,ne_eq] at h0;omega
  have he:(a==b)=false:=by
   cases hq:a==b with
   | false=>rfl
   | true=>exact absurd (congrArg List.length (beq_iff_eq.1 hq)) h0'
  rw [he] at hr
  exact zk trivial hr (by simp [ends])
 have h0':a.length=b.length:=by simp only [bne_eq_false_iff_eq] at h0;omega
 refine yl mixed ttok 5 [0,1] [] (by simp only [wH,ends,push_cast,simprocAttr];rfl) (by simp only [wI,ym,ends,push_cast,simprocAttr];rfl) a.length (fun n=> ∀i,i<n->a.getD i default=b.getD i default) (fun _=>[]) (fun _=>[]) (fun i h=>absurd h (Nat.not_lt_zero _)) ?_ ?_
 ·exact Weak.keepL (by simp [cst,ends]) (by simp [cst,ends]) (by simp [cst,ends])
 intro I hI n hn hi
 simp -implicitDefEqProofs only [cst,↓zb,push_cast,simprocAttr,tte]
 refine za (fun h=>?_) fun h=>?_
 ·have h':n<a.length:=by have:=of_decide_eq_true h;omega
  have hw:=zw h' (by omega)
  refine ⟨⟨by omega,by omega⟩,⟨by omega,by omega⟩,zh (by kernel_rfl),?_⟩
  refine za (fun g=>?_) fun g=>?_
  ·have g': ¬a.getD n default=b.getD n default:=by simpa using g
   have he:(a==b)=false:=by
    cases hq:a==b with
    | false=>rfl
    | true=>exact absurd (by rw [beq_iff_eq.1 hq]) g'
   rw [he] at hr
   exact zk trivial hr (by simp [ends])
  ·have g':a.getD n default=b.getD n default:=by simpa using g
   exact yt hI n rfl h' (fun i hi2=>by
    rcases Nat.lt_or_eq_of_le (Nat.lt_succ_iff.1 hi2) with q | q
    ·exact hi i q
    ·rw [q];exact g') (by simp [hw,ends]) (by simp [hw,ends]) (by simp [hw,ends]) (by simp [hw,ends])
 have hnn:n=a.length:=by have:=of_decide_eq_false h;omega
 subst hnn
 have he:a=b:=by
  apply List.ext_getElem h0'
  intro i h1 h2
  have:=hi i h1
  simpa [List.getD_eq_getElem?_getD,h1,h2] using this
 rw [he,beq_self_eq_true] at hr
 exact zk trivial hr (by simp [ends])
theorem c_types2 (a b:List Int) (hl:a.length<=1000000) (hm:b.length<=1000000):ACall Tryz.prog 35 [ints a,ints b] [] (boo (a==b)) []:=by
 refine zm mixed ttok Tryz.func35 Tryz.ntmps35 Tryz.results35 ?_
 simp -implicitDefEqProofs only [argT,↓zb,push_cast,simprocAttr,tte]
 refine zd [[1],[1]] [] (c_ints a b hl hm) ?_
 simp -implicitDefEqProofs only [↓zb,push_cast,simprocAttr,tte]
 exact zk trivial rfl (by simp [ends])
def sameR (a b:Row):Bool:=(a.length==b.length)&&(cmpR a b==0)
theorem cmpR_self: ∀a:Row,cmpR a a=0
 | []=>rfl
 | x::a=>by
   rw [cmpR,if_neg]
   ·exact cmpR_self a
   ·rw [(vP x x).2 rfl];decide
theorem sameR_self (a:Row):sameR a a=true:=by rw [sameR,cmpR_self];simp
theorem c_same23 (a b:Row) (hl:a.length<=1000000):ACall Tryz.prog 16 [aRow a,aRow b] [] (boo (sameR a b)) []:=by
 refine zm mixed ttok Tryz.func16 Tryz.ntmps16 Tryz.results16 ?_
 generalize hr:boo (sameR a b)=R
 unfold sameR at hr
 simp -implicitDefEqProofs only [argT,↓zb,push_cast,simprocAttr,tte]
 refine za (fun h=>?_) fun h=>?_
 ·have e:a.length=b.length:=by simp only [beq_iff_eq] at h;omega
  rw [e,beq_self_eq_true,Bool.true_and] at hr
  refine zd [[3],[3]] [] (c_cmpRows a b hl) ?_
  simp -implicitDefEqProofs only [↓zb,push_cast,simprocAttr,tte]
  exact zk trivial hr (by simp [ends])
 ·have e: ¬a.length=b.length:=by simp only [beq_eq_false_iff_ne,ne_eq] at h;omega
  rw [beq_false_of_ne e,Bool.false_and] at hr
  exact zk trivial hr (by simp [ends])
theorem c_counts (d:List Row) (hd:yE d) (e:Ex) (ho:Ok12 e):ACall Tryz.prog 42 [aTab d,aE e] [] (boo true) []:=by
 have h1:=c_pcount d hd e ho
 have h2:=c_count23 d hd e ho
 obtain ⟨a,b,c,f,hq⟩: ∃a b c f,uf d e=[a,b,c,f]:=by
  unfold uf
  split
  ·exact ⟨_,_,_,_,rfl⟩
  ·exact ⟨_,_,_,_,rfl⟩
 rw [hq] at h1 h2
 rw [zl] at h1 h2 ⊢
 refine zm mixed ttok Tryz.func42 Tryz.ntmps42 Tryz.results42 ?_
 simp -implicitDefEqProofs only [argT,aTab,↓zb,push_cast,simprocAttr,tte]
 refine zd [[1],[0,0,0,0,0,6]] [] (h1) ?_
 simp -implicitDefEqProofs only [↓zb,push_cast,simprocAttr,tte]
 refine zd [[1],[0,0,0,0,0,6]] [] (h2) ?_
 simp -implicitDefEqProofs only [beq_self_eq_true,↓zb,push_cast,simprocAttr,tte]
 exact zk trivial rfl (by simp [ends])
mutual
def yP:Ex->Int->Int
 | .mk _ _ _ _ _ ks,n=>nodesL ks (n+1)
def nodesL:List Ex->Int->Int
 | [],n=>n
 | k::l,n=>if n<=300 then nodesL l (yP k n) else n
end
theorem nodesM_eq (e:Ex) (n:Int):yP e n=nodesL e.kids (n+1):=by cases e;rw [yP];rfl
theorem nodesL_big: ∀(l:List Ex) (n:Int),¬n<=300->nodesL l n=n
 | [],_,_=>by rw [nodesL]
 | k::l,n,h=>by rw [nodesL,if_neg h]
theorem nodes_range: ∀(e:Ex) (n:Int),0≤n→n≤300→n<yP e n∧yP e n≤301:=
 xj (p:=fun e=> ∀n:Int,0≤n→n≤300→n<yP e n∧yP e n≤301) fun e ih n h0 h3=>by
  rw [nodesM_eq]
  have key: ∀(l:List Ex),(∀k∈l,k∈e.kids)-> ∀m:Int,0<=m->m<=301->m<=nodesL l m/\nodesL l m<=301:=by
   intro l
   induction l with
   | nil=>intro _ m h1 h2;rw [nodesL];omega
   | cons k l ihl=>
     intro hk m h1 h2
     rw [nodesL]
     split
     ·have:=ih k (hk k (by simp)) m h1 (by omega)
      have:=ihl (fun x hx=>hk x (by simp [hx])) (yP k m) (by omega) (by omega)
      omega
     ·omega
  have:=key e.kids (fun _ h=>h) (n+1) (by omega) (by omega)
  omega
theorem nodesL_drop (l:List Ex) (i:Nat) (n:Int) (h:i<l.length) (hn:n<=300):nodesL (l.drop i) n=nodesL (l.drop (i+1)) (yP (l.getD i default) n):=by
 rw [yc l i h,nodesL,if_pos hn]
def D1s (e:Ex) (x:Nat×Int):SL:=⟨[(5,.d (.lit (.int .i64 x.1))),(1,num x.2),(2,.ptr 2 0)],[(2,.var (vE e))]⟩
theorem c_nodes: ∀(e:Ex) (n:Int),0<=n->n<=300->ACall Tryz.prog 75 [aE e,num n] [] (num (yP e n)) []:=
 xj (p:=fun e=> ∀n:Int,0<=n->n<=300->ACall Tryz.prog 75 [aE e,num n] [] (num (yP e n)) []) fun e ih n h0 h3=>by
 generalize hr:num (yP e n)=R
 rw [nodesM_eq] at hr
 rw [zl]
 refine zm mixed ttok Tryz.func75 Tryz.ntmps75 Tryz.results75 ?_
 have w1:IntKind.i64.wrap (n+1)=n+1:=z7 (by omega) (by omega)
 simp -implicitDefEqProofs only [argT,w1,↓zb,push_cast,simprocAttr,tte]
 refine z8 mixed ttok (fun x:Nat×Int=>D1s e x) (fun x=>e.kids.length-x.1) (fun x=>x.1<=e.kids.length/\(x.1:Int)<x.2/\x.2<=301/\nodesL e.kids (n+1)=nodesL (e.kids.drop x.1) x.2) (0,n+1) ⟨Nat.zero_le _,by dsimp only;omega,by dsimp only;omega,rfl⟩ ?_ ?_
 ·exact Weak.keepL (by simp [D1s,ends]) (by simp [D1s,vE,ends]) (by simp [D1s,ends])
 rintro I hI ⟨i,m⟩ ⟨hi,him,hm,hg⟩
 dsimp only at hi him hm hg
 simp -implicitDefEqProofs only [D1s,vE,↓zb,push_cast,simprocAttr,tte]
 refine za (fun h1=>?_) fun h1=>?_
 ·have h1':i<e.kids.length:=by simpa using h1
  refine za (fun h2=>?_) fun h2=>?_
  ·have h2':m≤300:=by simpa using h2
   rw [nodesL_drop _ _ _ h1' h2'] at hg
   have hb:=nodes_range (e.kids.getD i default) m (by omega) h2'
   have hw:IntKind.i64.wrap ((i:Int)+1)=((i+1:Nat):Int):=by rw [z7 (by omega) (by omega)];rfl
   refine ⟨⟨by omega,by omega⟩,?_⟩
   refine zd [[0,0,0,0,0,6],[]] [] (ih _ (zx h1') m (by omega) h2') ?_
   simp -implicitDefEqProofs only [↓zb,push_cast,simprocAttr,tte]
   exact zp hI (i+1,yP (e.kids.getD i default) m) ⟨h1',by dsimp only;omega,hb.2,hg⟩ (by show e.kids.length-(i+1)<e.kids.length-i;omega) (Weak.keepL (by simp [D1s,hw,ends]) (by simp [D1s,vE,ends]) (by simp [D1s,ends]))
  ·have h2': ¬m≤300:=by simpa using h2
   rw [nodesL_big _ _ h2'] at hg
   rw [hg] at hr
   exact zk trivial hr (by simp [ends])
 have hii:i=e.kids.length:=by have:=of_decide_eq_false h1;omega
 subst hii
 rw [List.drop_length,nodesL] at hg
 rw [hg] at hr
 exact zk trivial hr (by simp [ends])
def smallE (e:Ex):Bool:=decide (yP e 0<=300)
theorem c_smallE (e:Ex):ACall Tryz.prog 27 [aE e] [] (boo (smallE e)) []:=by
 have h:=c_nodes e 0 (by omega) (by omega)
 rw [zl] at h ⊢
 refine zm mixed ttok Tryz.func27 Tryz.ntmps27 Tryz.results27 ?_
 simp -implicitDefEqProofs only [argT,↓zb,push_cast,simprocAttr,tte]
 refine zd [[0,0,0,0,0,6],[]] [] (h) ?_
 simp -implicitDefEqProofs only [↓zb,push_cast,simprocAttr,tte]
 exact zk trivial rfl (by simp [ends])
theorem nodes_size: ∀(e:Ex) (n:Int),0≤n→yP e n≤300→yP e n=n+wE e∧Ok12 e:=
 xj (p:=fun e=> ∀n:Int,0≤n→yP e n≤300→yP e n=n+wE e∧Ok12 e) fun e ih n h0 h3=>by
  rw [nodesM_eq] at h3 ⊢
  have key: ∀(l:List Ex),(∀k∈l,k∈e.kids)-> ∀m:Int,0<=m->nodesL l m<=300->nodesL l m=m+sizeTs l/\(l.length:Int)<=nodesL l m-m/\ ∀k∈l,Ok12 k:=by
   intro l
   induction l with
   | nil=>intro _ m h1 h2;rw [nodesL,sizeTs];simp
   | cons k l ihl=>
     intro hk m h1 h2
     rw [nodesL] at h2 ⊢
     split at h2
     ·rename_i hm
      rw [if_pos hm]
      have hr:=nodes_range k m h1 hm
      have hle:yP k m<=300:=by
       by_cases q:yP k m<=300
       ·exact q
       ·rw [nodesL_big _ _ q] at h2;exact h2
      obtain ⟨g1,g2⟩:=ih k (hk k (by simp)) m h1 hle
      obtain ⟨g3,g4,g5⟩:=ihl (fun x hx=>hk x (by simp [hx])) (yP k m) (by omega) h2
      rw [sizeTs]
      refine ⟨by omega,by simp only [List.length_cons];omega,fun x hx=>?_⟩
      rcases List.mem_cons.1 hx with rfl | hx
      ·exact g2
      ·exact g5 x hx
     ·rename_i hm
      exact absurd h2 hm
  obtain ⟨g1,g2,g3⟩:=key e.kids (fun _ h=>h) (n+1) (by omega) h3
  rw [sizeT_eq]
  exact ⟨by omega,⟨e,by omega,g3⟩⟩
theorem smallE_ok {e:Ex} (h:smallE e=true):Ok12 e:=(nodes_size e 0 (by omega) (of_decide_eq_true h)).2
end
section
open Go.Am
attribute [local simp, local push_cast] num boo str ints aV aTab aRow rRow vE zU
def j6 (l:Row) (v:Val):Bool:=l.all fun w=> !yw w v
def vL (xs:List Int) (typ:Int) (x:Row×Nat):Row×Nat:=
 (if j6 x.1 (yi xs typ true x.2).1=true then x.1++[(yi xs typ true x.2).1] else x.1,(yi xs typ true x.2).2)
def wX (xs:List Int) (typ:Int) (p:Nat):Nat->Row×Nat
 | 0=>([],p)
 | k+1=>vL xs typ (wX xs typ p k)
def pickD:List Int:=[1,1,2,3]
def rowD (xs:List Int) (p:Nat):Row×Nat:=wX xs (pickD.getD (drawn xs p 4).toNat default) (p+2) (1+drawn xs (p+1) 4).toNat
def kN (xs:List Int) (x:(List Row×Nat)×Nat):(List Row×Nat)×Nat:=
 (if x.1.2 * (rowD xs x.2).1.length<=300 then (x.1.1++[(rowD xs x.2).1],x.1.2 * (rowD xs x.2).1.length) else x.1,(rowD xs x.2).2)
def xH (xs:List Int) (p:Nat):Nat->(List Row×Nat)×Nat
 | 0=>(([],1),p)
 | k+1=>kN xs (xH xs p k)
def domF (xs:List Int) (p:Nat):List Row×Nat:=((xH xs (p+1) (drawn xs p 5).toNat).1.1,(xH xs (p+1) (drawn xs p 5).toNat).2)
theorem rowsF_len (xs:List Int) (typ:Int) (p:Nat): ∀k,(wX xs typ p k).1.length<=k
 | 0=>by simp [wX]
 | k+1=>by
   have:=rowsF_len xs typ p k
   rw [wX,vL]
   dsimp only
   split
   ·rw [List.length_append];simp;omega
   ·omega
theorem domsF_pts (xs:List Int) (p:Nat): ∀k,(xH xs p k).1.2<=300/\(xH xs p k).1.1.length<=k
 | 0=>by simp [xH]
 | k+1=>by
   have:=domsF_pts xs p k
   rw [xH,kN]
   dsimp only
   split
   ·rename_i h
    dsimp only
    rw [List.length_append]
    simp
    omega
   ·omega
def O1s (xs:List Int) (N k:Nat) (x:(List Row×Nat)×Nat):SL:=
 ⟨[(5,num ((N:Int)-k)),(4,num x.1.2),(3,.vec 500 x.1.1.length),(0,.ptr 1000 0)],[(500,.vec 32 1 (zg rRow x.1.1) 0),(1000,zU xs x.2)]⟩
def O2s (xs:List Int) (N k:Nat) (x:(List Row×Nat)×Nat) (typ:Int) (M j:Nat) (y:Row×Nat):SL:=
 ⟨[(8,num ((M:Int)-j)),(7,.vec 501 y.1.length),(6,num typ),(5,num ((N:Int)-k)),(4,num x.1.2),(3,.vec 500 x.1.1.length),(0,.ptr 1000 0)],
  [(500,.vec 32 1 (zg rRow x.1.1) 0),(501,.vec 53 3 (zg rV y.1) 0),(1000,zU xs y.2)]⟩
def O3s (xs:List Int) (N k:Nat) (x:(List Row×Nat)×Nat) (typ:Int) (M j:Nat) (y:Row×Nat) (v:Val) (q i:Nat):SL:=
 ⟨[(33,num i),(32,num y.1.length),(31,.vec 501 y.1.length),(10,boo (j6 (y.1.take i) v)),(9,.ptr 9 0),(8,num ((M:Int)-j)),(7,.vec 501 y.1.length),(6,num typ),(5,num ((N:Int)-k)),(4,num x.1.2),(3,.vec 500 x.1.1.length),(0,.ptr 1000 0)],
  [(9,.var [.d (.lit (.int .i64 v.kind)),.d (.lit (.int .i64 v.num)),.d (.lit (.string v.text))]),(500,.vec 32 1 (zg rRow x.1.1) 0),(501,.vec 53 3 (zg rV y.1) 0),(1000,zU xs q)]⟩
theorem c_domains {xs:List Int} {p:Nat} (hx:ve xs):ACall Tryz.prog 9 [.ptr 1000 0] [(1000,zU xs p)] (aTab (domF xs p).1) [(1000,zU xs (domF xs p).2)]:=by
 refine zm mixed ttok Tryz.func9 Tryz.ntmps9 Tryz.results9 ?_
 unfold domF
 have h5:=zB xs p (n:=5) (by omega)
 simp -implicitDefEqProofs only [argT,aTab,↓zb,push_cast,simprocAttr,tte]
 refine zd [[],[]] [(1000,1000)] (c_N (n:=5) (p:=p) hx (by omega) (by omega)) ?_
 obtain ⟨N,hN⟩: ∃N:Nat,drawn xs p 5=N:=⟨(drawn xs p 5).toNat,by omega⟩
 rw [hN] at h5 ⊢
 simp -implicitDefEqProofs only [Int.toNat_natCast,↓zb,push_cast,simprocAttr,tte]
 refine z8 mixed ttok (fun k:Nat=>O1s xs N k (xH xs (p+1) k)) (fun k=>N-k) (fun k=>k<=N) 0 (Nat.zero_le _) ?_ ?_
 ·exact (Weak.nilL 3 500 32 1 rfl rfl).trans (Weak.keepL (by simp [O1s,xH,ends]) (by simp [O1s,xH,zg,ends]) (by simp [O1s,ends]))
 intro I hI k hk
 have hpt:=domsF_pts xs (p+1) k
 have hsk:xH xs (p+1) (k+1)=kN xs (xH xs (p+1) k):=rfl
 simp -implicitDefEqProofs only [O1s,↓zb,push_cast,simprocAttr,tte]
 refine za (fun h=>?_) fun h=>?_
 ·have h':k<N:=by have:=of_decide_eq_true h;omega
  generalize xH xs (p+1) k=x at hpt hsk ⊢
  have wk:IntKind.i64.wrap ((N:Int)-k-1)=(N:Int)-((k+1:Nat):Int):=by rw [z7 (by omega) (by omega)];omega
  have h4:=zB xs (x.2+1) (n:=4) (by omega)
  refine zd [[],[1]] [(1000,1000)] (vG (p:=x.2) hx pickD (by decide) (by decide)) ?_ (hargs:=by simp [ends,bs,pickD,zo,zv,rI])
  have hrd:rowD xs x.2=wX xs (pickD.getD (drawn xs x.2 4).toNat default) (x.2+2) (1+drawn xs (x.2+1) 4).toNat:=rfl
  rw [show ((pickD.length:Nat):Int)=4 from rfl]
  generalize pickD.getD (drawn xs x.2 4).toNat default=typ at hrd ⊢
  simp -implicitDefEqProofs only [↓zb,push_cast,simprocAttr,tte]
  refine zd [[],[],[]] [(1000,1000)] (kR (lo:=1) (hi:=4) (p:=x.2+1) hx (by omega) (by omega) (by omega)) ?_
  rw [show (4:Int)-1+1=4 from rfl]
  obtain ⟨M,hM⟩: ∃M:Nat,1+drawn xs (x.2+1) 4=M:=⟨(1+drawn xs (x.2+1) 4).toNat,by omega⟩
  rw [hM] at hrd ⊢
  rw [Int.toNat_natCast] at hrd
  have hM5:M<=4:=by omega
  simp -implicitDefEqProofs only [↓zb,push_cast,simprocAttr,tte]
  refine z8 mixed ttok (fun j:Nat=>O2s xs N k x typ M j (wX xs typ (x.2+2) j)) (fun j=>M-j) (fun j=>j<=M) 0 (Nat.zero_le _) ?_ ?_
  ·exact (Weak.nilL 7 501 53 3 rfl rfl).trans (Weak.keepL (by simp [O2s,wX,ends]) (by simp [O2s,wX,zg,ends]) (by simp [O2s,ends]))
  intro J hJ j hj
  have hyl:=rowsF_len xs typ (x.2+2) j
  have hsj:wX xs typ (x.2+2) (j+1)=vL xs typ (wX xs typ (x.2+2) j):=rfl
  simp -implicitDefEqProofs only [O2s,↓zb,push_cast,simprocAttr,tte]
  refine za (fun g=>?_) fun g=>?_
  ·have g':j<M:=by have:=of_decide_eq_true g;omega
   generalize wX xs typ (x.2+2) j=y at hyl hsj ⊢
   have wj:IntKind.i64.wrap ((M:Int)-j-1)=(M:Int)-((j+1:Nat):Int):=by rw [z7 (by omega) (by omega)];omega
   refine zd [[],[],[]] [(1000,1000)] (wc (typ:=typ) (nl:=true) (p:=y.2) hx) ?_
   unfold vL at hsj
   generalize yi xs typ true y.2=vq at hsj ⊢
   simp -implicitDefEqProofs only [↓zb,push_cast,simprocAttr,tte]
   refine z8 mixed ttok (fun i:Nat=>O3s xs N k x typ M j y vq.1 vq.2 i) (fun i=>y.1.length-i) (fun i=>i<=y.1.length) 0 (Nat.zero_le _) ?_ ?_
   ·exact Weak.keepL (by simp [O3s,j6,ends]) (by simp [O3s,ends]) (by simp [O3s,ends])
   intro L hL i hi
   simp -implicitDefEqProofs only [O3s,↓zb,push_cast,simprocAttr,tte]
   refine za (fun q=>?_) fun q=>?_
   ·have q':i<y.1.length:=by simpa using q
    have hwi:=zw q' (by omega)
    have hfs:j6 (y.1.take (i+1)) vq.1=(j6 (y.1.take i) vq.1&& !yw (y.1.getD i default) vq.1):=by
     unfold j6
     rw [yr _ _ q',List.all_append,List.all_cons,List.all_nil,Bool.and_true]
    refine ⟨⟨by omega,by omega⟩,q',?_⟩
    refine za (fun r=>?_) fun r=>?_
    ·rw [r,Bool.true_and] at hfs
     exact zp hL (i+1) q' (by show y.1.length-(i+1)<y.1.length-i;omega) (Weak.keepL (by simp [O3s,hwi,hfs,yw,Bool.or_assoc,ends]) (by simp [O3s,ends]) (by simp [O3s,ends]))
    ·rw [r,Bool.false_and] at hfs
     exact zp hL (i+1) q' (by show y.1.length-(i+1)<y.1.length-i;omega) (Weak.keepL (by simp [O3s,hwi,hfs,ends]) (by simp [O3s,ends]) (by simp [O3s,ends]))
   have hii:i=y.1.length:=by have:=of_decide_eq_false q;omega
   subst hii
   rw [List.take_length]
   refine za (fun r=>?_) fun r=>?_
   ·rw [if_pos r] at hsj
    refine ⟨by omega,?_⟩
    exact zp hJ (j+1) g' (by show M-(j+1)<M-j;omega) (Weak.keepL (by simp [O2s,wj,hsj,ends]) (by simp [O2s,hsj,zy,rV,ends]) (by simp [O2s,ends]))
   ·rw [if_neg (by rw [r];decide)] at hsj
    exact zp hJ (j+1) g' (by show M-(j+1)<M-j;omega) (Weak.keepL (by simp [O2s,wj,hsj,ends]) (by simp [O2s,hsj,ends]) (by simp [O2s,ends]))
  have hjj:j=M:=by have:=of_decide_eq_false g;omega
  subst hjj
  rw [<-hrd] at hyl ⊢
  unfold kN at hsk
  generalize rowD xs x.2=y at hyl hsk ⊢
  obtain ⟨q,hq⟩: ∃q,x.1.2 * y.1.length=q:=⟨_,rfl⟩
  have hqb:q<=300 * 4:=by rw [<-hq];exact Nat.mul_le_mul hpt.1 (by omega)
  have hwq:IntKind.i64.wrap ((x.1.2:Int) * (y.1.length:Int))=(q:Int):=by
   rw [<-Int.natCast_mul,hq,z7 (by omega) (by omega)]
  rw [hq] at hsk
  simp only [hwq]
  refine za (fun r=>?_) fun r=>?_
  ·rw [if_pos (by simp only [decide_eq_true_eq] at r;omega)] at hsk
   have hap:zg rRow (x.1.1++[y.1])=zg rRow x.1.1++[[D.sl 3 (zg rV y.1)]]:=by simp [zg,rRow]
   refine ⟨by omega,?_⟩
   exact zp hI (k+1) h' (by show N-(k+1)<N-k;omega) (Weak.keepL (by simp [O1s,wk,hsk,ends]) (by simp [O1s,hsk,hap,ends]) (by simp [O1s,ends]))
  ·rw [if_neg (by simp only [decide_eq_false_iff_not] at r;omega)] at hsk
   exact zp hI (k+1) h' (by show N-(k+1)<N-k;omega) (Weak.keepL (by simp [O1s,wk,hsk,ends]) (by simp [O1s,hsk,ends]) (by simp [O1s,ends]))
 have hkk:k=N:=by have:=of_decide_eq_false h;omega
 subst hkk
 refine zf [1] rfl trivial (by simp [zc]) ?_ (by simp [ends]) (by simp [ends]) (by simp [ends])
 rfl
end
section
open Go.Am
attribute [local simp, local push_cast] num boo str ints aV
mutual
def xC:Ex->Nat
 | .mk _ _ _ _ _ ks=>depthTs ks+1
def depthTs:List Ex->Nat
 | []=>0
 | e::l=>max (xC e) (depthTs l)
end
theorem depthT_eq (e:Ex):xC e=depthTs e.kids+1:=by cases e;rw [xC];rfl
theorem sizeL_T: ∀(ks:List Ex) (n:Nat),(∀k∈ks,we k=wE k)->n+sizeTs ks<=1000000->sizeL n ks=((n+sizeTs ks:Nat):Int)
 | [],n,_,_=>by simp [sizeL,sizeTs]
 | k::ks,n,h,hb=>by
   rw [sizeTs] at hb ⊢
   rw [sizeL,h k (by simp),z7 (by omega) (by omega),show (n:Int)+(wE k:Int)=((n+wE k:Nat):Int) by omega,sizeL_T ks _ (fun x hx=>h x (by simp [hx])) (by omega)]
   omega
theorem sizeW_T: ∀e:Ex,wE e<=1000000->we e=wE e:=
 xj (p:=fun e=>wE e<=1000000->we e=wE e) fun e ih h=>by
  rw [sizeT_eq] at h ⊢
  rw [sizeW_eq]
  exact sizeL_T e.kids 1 (fun k hk=>ih k hk (by have:=sizeTs_mem _ _ hk;omega)) h
theorem depthTs_mem: ∀(l:List Ex) (e:Ex),e∈l->xC e<=depthTs l
 | [],_,h=>by simp at h
 | x::l,e,h=>by
   rw [depthTs]
   rcases List.mem_cons.1 h with rfl | h
   ·omega
   ·have:=depthTs_mem l e h;omega
theorem depthL_T: ∀(ks:List Ex) (n:Nat),(∀k∈ks,xk k=xC k)->depthL n ks=((max n (depthTs ks):Nat):Int)
 | [],n,_=>by simp [depthL,depthTs]
 | k::ks,n,h=>by
   rw [depthL,depthTs,h k (by simp)]
   have e:(if ((xC k:Nat):Int)>(n:Int) then ((xC k:Nat):Int) else (n:Int))=((max n (xC k):Nat):Int):=by split<;>omega
   rw [e,depthL_T ks _ fun x hx=>h x (by simp [hx])]
   omega
theorem depthW_T: ∀e:Ex,xC e<=1000000->xk e=xC e:=
 xj (p:=fun e=>xC e<=1000000->xk e=xC e) fun e ih h=>by
  rw [depthT_eq] at h ⊢
  rw [depthW_eq,show (0:Int)=((0:Nat):Int) from rfl,depthL_T e.kids 0 (fun k hk=>ih k hk (by have:=depthTs_mem _ _ hk;omega)),z7 (by omega) (by omega)]
  omega
structure Made (ts:List Int) (d:Nat) (t:Int) (e:Ex):Prop where
 typ:typG (ownM ts) e=(t,0)
 dep:xC e<=d
 size:3 * wE e+1<=4 ^ d
 ok12:Ok12 e
theorem Made.type {ts:List Int} {d:Nat} {t:Int} {e:Ex} (h:Made ts d t e) (hd:xC e<=24) (hs:wE e<=200):xD (ownM ts) e=(t,0):=by
 unfold xD
 rw [sizeW_T e (by omega),depthW_T e (by omega),if_neg (by omega),if_neg (by omega)]
 exact h.typ
structure MadeL (ts:List Int) (d:Nat) (l:List Int) (ks:List Ex):Prop where
 typ:ks.map (typG (ownM ts))=l.map fun u=>(u,(0:Int))
 dep: ∀k∈ks,xC k<=d/\3 * wE k+1<=4 ^ d
 ok12: ∀k∈ks,Ok12 k
theorem MadeL.len {ts:List Int} {d:Nat} {l:List Int} {ks:List Ex} (h:MadeL ts d l ks):ks.length=l.length:=by have:=congrArg List.length h.typ;simpa using this
theorem MadeL.nil {ts:List Int} {d:Nat}:MadeL ts d [] []:=⟨rfl,fun k h=>absurd h (by simp),fun k h=>absurd h (by simp)⟩
theorem MadeL.cons {ts:List Int} {d:Nat} {t:Int} {l:List Int} {e:Ex} {ks:List Ex} (h:Made ts d t e) (h2:MadeL ts d l ks):MadeL ts d (t::l) (e::ks):=
 ⟨by rw [List.map_cons,List.map_cons,h.typ,h2.typ],fun k hk=>by
  rcases List.mem_cons.1 hk with rfl | hk
  ·exact ⟨h.dep,h.size⟩
  ·exact h2.dep k hk,fun k hk=>by
  rcases List.mem_cons.1 hk with rfl | hk
  ·exact h.ok12
  ·exact h2.ok12 k hk⟩
theorem sizeTs_bd {P:Nat}: ∀(ks:List Ex),(∀k∈ks,3 * wE k+1<=P)->3 * sizeTs ks+ks.length<=ks.length * P
 | [],_=>by simp [sizeTs]
 | k::ks,h=>by
   have h1:=h k (by simp)
   have h2:=sizeTs_bd ks fun x hx=>h x (by simp [hx])
   rw [sizeTs,List.length_cons,Nat.add_mul]
   omega
theorem depthTs_bd {d:Nat}: ∀(ks:List Ex),(∀k∈ks,xC k<=d)->depthTs ks<=d
 | [],_=>by simp [depthTs]
 | k::ks,h=>by
   have h1:=h k (by simp)
   have h2:=depthTs_bd ks fun x hx=>h x (by simp [hx])
   rw [depthTs]
   omega
theorem made_node {ts:List Int} {d:Nat} {t op ty n c:Int} {b:ByteArray} {ks:List Ex} {ks':List Int} (h:MadeL ts d ks' ks) (hl:ks'.length<=4)
 (ho:ownM ts (.mk op ty n b c ks) ks'=(t,0)):Made ts (d+1) t (.mk op ty n b c ks):=by
 have hP0:0<4 ^ d:=Nat.pow_pos (by omega)
 have hs:(4:Nat) ^ (d+1)=4 * 4 ^ d:=by rw [Nat.pow_succ];omega
 have hlen:=h.len
 obtain ⟨hk,h1,hx⟩:=h
 refine ⟨?_,?_,?_,⟨_,by show ks.length<=1000;omega,hx⟩⟩
 ·rw [vI]
  show typK (ownM ts) _ (ks.map (typG (ownM ts)))=_
  rw [hk]
  have he: ∀l:List Int,ferr Prod.snd (l.map fun u=>(u,(0:Int)))=0:=fun l=>j8 _ _ fun i hi=>by
   have:=zx hi
   obtain ⟨u,_,hu⟩:=List.mem_map.1 this
   rw [<-hu]
  rw [typK,if_pos (he _),List.map_map]
  rw [show (Prod.fst∘fun u:Int=>(u,(0:Int)))=id from rfl,List.map_id]
  exact ho
 ·rw [depthT_eq]
  have:=depthTs_bd (d:=d) ks fun k hk=>(h1 k hk).1
  show depthTs ks+1<=d+1
  omega
 ·rw [sizeT_eq,hs]
  have:=sizeTs_bd (P:=4 ^ d) ks fun k hk=>(h1 k hk).2
  show 3 * (1+sizeTs ks)+1<=_
  generalize (4:Nat) ^ d=P at hP0 this ⊢
  have hm:ks.length * P<=4 * P-(4-ks.length) * P:=by
   have:ks.length * P+(4-ks.length) * P=4 * P:=by rw [<-Nat.add_mul];congr 1;omega
   omega
  have h4:(4-ks.length)<=(4-ks.length) * P:=Nat.le_mul_of_pos_right _ hP0
  have h5:(4-ks.length) * P<=4 * P:=Nat.mul_le_mul_right _ (by omega)
  omega
theorem Made.mono {ts:List Int} {d d':Nat} {t:Int} {e:Ex} (h:Made ts d t e) (hd:d<=d'):Made ts d' t e:=by
 have hP:4 ^ d<=4 ^ d':=Nat.pow_le_pow_right (by omega) hd
 obtain ⟨h1,h2,h3,h4⟩:=h
 exact ⟨h1,by omega,by omega,h4⟩
theorem bempty:ByteArray.empty.toList=[]:=by simp [ByteArray.toList_eq]
theorem clean_op {op:Int} (h:6<=op) (ks:List Ex):zQ (.mk op 0 0 ByteArray.empty 0 ks)=true:=by
 have h1: ¬op=1:=by omega
 have h2: ¬op=2:=by omega
 have h3: ¬op=3:=by omega
 have h4: ¬op=4:=by omega
 have h5: ¬op=5:=by omega
 simp [zQ,okF,noT,noN,noX,noC,Ex.op,Ex.type,Ex.num,Ex.text,Ex.col,h1,h2,h3,h4,h5,ByteArray.toList_eq]
def opOk (op:Int) (l:List Int) (t:Int):Bool:=
 isOp op&&decide (6<=op)&&(((l.length:Int)==(ye op).kids) || ((op==28)&&decide ((l.length:Int)>(ye op).kids)))&&fitM (ye op) l&&
  (if ((ye op).own==0)=true then l.getD (l.length-1) default==t else (ye op).own==t)
theorem own_op {ts:List Int} {op t:Int} {l:List Int} {ks:List Ex} (h:opOk op l t=true) (hl:ks.length=l.length):ownM ts (.mk op 0 0 ByteArray.empty 0 ks) l=(t,0):=by
 unfold opOk at h
 simp only [Bool.and_eq_true,decide_eq_true_eq] at h
 obtain ⟨⟨⟨⟨h1,h2⟩,h3⟩,h4⟩,h5⟩:=h
 have hc:yf (.mk op 0 0 ByteArray.empty 0 ks)=true:=by
  unfold yf
  simp only [Ex.op,Ex.kids,hl,h1,h3,Bool.true_and]
 have n5:(op==5)=false:=beq_eq_false_iff_ne.2 (by omega)
 have n1:(op==1)=false:=beq_eq_false_iff_ne.2 (by omega)
 unfold ownM
 simp only [Ex.op,h1,clean_op h2,hc,h4,n5,n1,Bool.not_true,Bool.or_self,Bool.false_and,Bool.false_eq_true,if_false]
 split at h5
 ·rename_i ho
  exact (if_pos ho).trans (by rw [eq_of_beq h5])
 ·rename_i ho
  exact (if_neg ho).trans (by rw [eq_of_beq h5])
theorem xc {ts:List Int} {d:Nat} {op t:Int} {l:List Int} {r:List Ex×Nat} (h:opOk op l t=true) (hl:l.length<=4) (hm:MadeL ts d l r.1):Made ts (d+1) t (mkE op r).1:=
 made_node hm hl (own_op h hm.len)
theorem made_op {ts:List Int} {d:Nat} {op t:Int} {l:List Int} {ks:List Ex} (h:opOk op l t=true) (hl:l.length<=4) (hm:MadeL ts d l ks):Made ts (d+1) t (bin op ks):=
 made_node hm hl (own_op h hm.len)
theorem un {ts:List Int} {t op ty n c:Int} {b:ByteArray} (ho:ownM ts (.mk op ty n b c []) []=(t,0)):Made ts 1 t (.mk op ty n b c []):=
 made_node (d:=0) .nil (by simp) ho
theorem made_null (ts:List Int) {t:Int} (ht:Kn t):Made ts 1 t (.mk 1 t 0 ByteArray.empty 0 []):=by
 refine un ?_
 rcases ht with rfl | rfl | rfl<;>(simp only [ownM,zQ,okF,noT,noN,noX,noC,Ex.op,Ex.type,Ex.num,Ex.text,Ex.col,bempty];rfl)
theorem made_int (ts:List Int) {n:Int} (h:n∈intsF):Made ts 1 1 (.mk 2 0 n ByteArray.empty 0 []):=by
 refine un ?_
 simp only [intsF,List.mem_cons,List.not_mem_nil,or_false] at h
 rcases h with rfl | rfl | rfl | rfl | rfl | rfl<;>(simp only [ownM,zQ,okF,zC,noT,noN,noX,noC,Ex.op,Ex.type,Ex.num,Ex.text,Ex.col,bempty];rfl)
theorem made_bo (ts:List Int) {n:Int} (h:n=0\/n=1):Made ts 1 2 (.mk 3 0 n ByteArray.empty 0 []):=by
 refine un ?_
 rcases h with rfl | rfl<;>(simp only [ownM,zQ,okF,zC,noT,noN,noX,noC,Ex.op,Ex.type,Ex.num,Ex.text,Ex.col,bempty];rfl)
theorem made_text (ts:List Int) {b:ByteArray} (h:b∈textsF):Made ts 1 3 (.mk 4 0 0 b 0 []):=by
 refine un ?_
 simp only [textsF,List.mem_cons,List.not_mem_nil,or_false] at h
 rcases h with rfl | rfl | rfl | rfl<;>simp [ownM,isOp,zQ,okF,zC,uQ,noT,noN,noX,noC,Ex.op,Ex.type,Ex.num,Ex.text,Ex.col,ByteArray.toList_eq]<;>decide
def vOk (k:Int) (v:Val):Prop:=v=zi\/k=1/\(∃n∈intsF,v=⟨1,n,ByteArray.empty⟩)\/k=2/\(∃b,v=ofV b)\/k=3/\ ∃b∈textsF,v=⟨3,0,b⟩
theorem valF_ok (xs:List Int) {k:Int} (hk:Kn k) (p:Nat):vOk k (valF xs k p):=by
 have h6:=zB xs p (n:=6) (by omega)
 have h4:=zB xs p (n:=4) (by omega)
 have l6:intsF.length=6:=rfl
 have l4:textsF.length=4:=rfl
 unfold valF
 rcases hk with rfl | rfl | rfl
 ·rw [if_pos rfl]
  exact .inr (.inl ⟨rfl,_,zx (by omega),rfl⟩)
 ·rw [if_neg (by decide),if_pos rfl]
  exact .inr (.inr (.inl ⟨rfl,_,rfl⟩))
 ·rw [if_neg (by decide),if_neg (by decide)]
  exact .inr (.inr (.inr ⟨rfl,_,zx (by omega),rfl⟩))
theorem valueF_ok (xs:List Int) {k:Int} (hk:Kn k) (nl:Bool) (p:Nat):vOk k (yi xs k nl p).1:=by
 unfold yi
 split
 ·split
  ·exact .inl rfl
  ·exact valF_ok xs hk _
 ·exact valF_ok xs hk _
theorem made_const (ts:List Int) {k:Int} (hk:Kn k) {v:Val} (hv:vOk k v):Made ts 1 k (xK v k):=by
 rcases hv with rfl | ⟨rfl,n,hn,rfl⟩ | ⟨rfl,b,rfl⟩ | ⟨rfl,b,hb,rfl⟩
 ·have e:xK zi k= .mk 1 k 0 ByteArray.empty 0 []:=by simp [xK,zi]
  rw [e];exact made_null ts hk
 ·exact made_int ts hn
 ·cases b
  ·exact made_bo ts (.inl rfl)
  ·exact made_bo ts (.inr rfl)
 ·exact made_text ts hb
theorem made_col {ts:List Int} {j:Nat} {typ:Int} (h2:j<ts.length) (h4:ts.getD j default=typ) (ht:vN typ=true):Made ts 1 typ (.mk 5 0 0 ByteArray.empty (j:Int) []):=by
 refine un ?_
 have hcl:zQ (.mk 5 0 0 ByteArray.empty (j:Int) [])=true:=by simp only [zQ,okF,noT,noN,noX,noC,Ex.op,Ex.type,Ex.num,Ex.text,Ex.col,bempty];rfl
 have hcn:yf (.mk 5 0 0 ByteArray.empty (j:Int) [])=true:=rfl
 have hfi:fitM (ye 5) []=true:=rfl
 have g:(((5:Int)==5)&&(decide ((j:Int)<0) || decide ((j:Int)≥ts.length)))=false:=by rw [decide_eq_false (by omega),decide_eq_false (by omega)];rfl
 have g2:((((5:Int)==5)&& !vN (ts.getD ((j:Int)).toNat default)) || !fitM (ye 5) [])=false:=by rw [Int.toNat_natCast,h4,ht,hfi];rfl
 show (if (!isOp 5 || !zQ (.mk 5 0 0 ByteArray.empty (j:Int) []))=true then ((0,1):Int×Int) else if (!yf (.mk 5 0 0 ByteArray.empty (j:Int) []))=true then (0,9) else if (((5:Int)==5)&&(decide ((j:Int)<0) || decide ((j:Int)≥ts.length)))=true then (0,3)
  else if ((((5:Int)==5)&& !vN (ts.getD ((j:Int)).toNat default)) || !fitM (ye 5) [])=true then (0,4) else (ts.getD ((j:Int)).toNat default,0))=_
 rw [hcl,hcn,g,g2,Int.toNat_natCast,h4]
 rfl
theorem j4 (xs ts:List Int) {k:Int} (hk:Kn k) (p:Nat):Made ts 1 k (zW xs ts k p).1:=by
 unfold zW
 split
 ·rename_i hc
  split
  ·have hd:=zB xs (p+1) (n:=((cols ts k).length:Int)) (by omega)
   have hm:(cols ts k).getD (drawn xs (p+1) (cols ts k).length).toNat default∈cols ts k:=zx (by omega)
   obtain ⟨j,h1,h2,h3⟩:=cols_in hm
   dsimp only
   rw [h1]
   exact made_col h2 h3 (by rcases hk with rfl | rfl | rfl<;>rfl)
  ·exact made_const ts hk (valueF_ok xs hk _ _)
 ·exact made_const ts hk (valueF_ok xs hk _ _)
section
variable {xs ts:List Int} {d:Nat} {f:Int->Nat->Ex×Nat} (hf: ∀t p,Kn t->Made ts d t (f t p).1)
include hf
theorem kD {x:Int} (hx:Kn x) (p:Nat):MadeL ts d [x] (oneM f x p).1:= .cons (hf x _ hx) .nil
theorem uX {x:Int} (hx:Kn x) (p:Nat):MadeL ts d [x,x] (twoM f x p).1:= .cons (hf x _ hx) (.cons (hf x _ hx) .nil)
theorem made_three {x:Int} (hx:Kn x) (p:Nat):MadeL ts d [2,x,x] (zL f x p).1:= .cons (hf 2 _ (.inr (.inl rfl))) (.cons (hf x _ hx) (.cons (hf x _ hx) .nil))
theorem made_last {k:Int} (hk:Kn k) (p:Nat):Made ts (d+1) k (xP xs f k p).1:=by
 unfold xP
 split
 ·refine xc ?_ (by simp) (uX hf hk _)
  rcases hk with rfl | rfl | rfl<;>decide
 ·refine xc ?_ (by simp) (made_three hf hk _)
  rcases hk with rfl | rfl | rfl<;>decide
theorem made_cond (hd1:1<=d) (p:Nat):Made ts (d+1) 2 (wZ xs f (zW xs ts) p).1:=by
 have hx:=pick_kn xs p
 have k2:Kn 2:= .inr (.inl rfl)
 unfold wZ
 generalize pickB.getD (drawn xs p 4).toNat default=x at hx ⊢
 dsimp only
 split
 ·have h7:=zB xs (p+2) (n:=7) (by omega)
  refine xc ?_ (by simp) (uX hf hx _)
  generalize drawn xs (p+2) 7=n at h7 ⊢
  have:n=0\/n=1\/n=2\/n=3\/n=4\/n=5\/n=6:=by omega
  rcases this with rfl | rfl | rfl | rfl | rfl | rfl | rfl<;>rcases hx with rfl | rfl | rfl<;>decide
 split
 ·have h7:=zB xs (p+2) (n:=2) (by omega)
  refine xc ?_ (by simp) (uX hf k2 _)
  generalize drawn xs (p+2) 2=n at h7 ⊢
  have:n=0\/n=1:=by omega
  rcases this with rfl | rfl<;>decide
 split
 ·have h7:=zB xs (p+2) (n:=2) (by omega)
  refine xc ?_ (by simp) (kD hf k2 _)
  generalize drawn xs (p+2) 2=n at h7 ⊢
  have:n=0\/n=1:=by omega
  rcases this with rfl | rfl<;>decide
 split
 ·refine xc ?_ (by simp) (kD hf hx _)
  rcases hx with rfl | rfl | rfl<;>decide
 split
 ·refine xc (l:=[x,x,x]) ?_ (by simp) ?_
  ·rcases hx with rfl | rfl | rfl<;>decide
  ·exact .cons (hf x _ hx) (.cons ((j4 xs ts hx _).mono hd1) (.cons ((j4 xs ts hx _).mono hd1) .nil))
 ·refine xc ?_ (by simp) (made_three hf k2 _)
  decide
theorem made_step (hd1:1<=d) {k:Int} (hk:Kn k) (p:Nat):Made ts (d+1) k (yH xs ts f k p).1:=by
 unfold yH
 split
 ·exact (j4 xs ts hk _).mono (by omega)
 rcases hk with rfl | rfl | rfl
 ·rw [if_pos rfl]
  dsimp only
  split
  ·have h7:=zB xs (p+2) (n:=5) (by omega)
   refine xc ?_ (by simp) (uX hf (.inl rfl) _)
   generalize drawn xs (p+2) 5=n at h7 ⊢
   have:n=0\/n=1\/n=2\/n=3\/n=4:=by omega
   rcases this with rfl | rfl | rfl | rfl | rfl<;>decide
  split
  ·exact xc (by decide) (by simp) (kD hf (.inl rfl) _)
  split
  ·exact xc (by decide) (by simp) (kD hf (.inr (.inr rfl)) _)
  ·exact made_last hf (.inl rfl) _
 ·rw [if_neg (by decide),if_neg (by decide)]
  exact made_cond hf hd1 _
 ·rw [if_neg (by decide),if_pos rfl]
  split
  ·exact xc (by decide) (by simp) (uX hf (.inr (.inr rfl)) _)
  ·exact made_last hf (.inr (.inr rfl)) _
end
theorem made_expr (xs ts:List Int): ∀(d:Nat) (k:Int),Kn k-> ∀p:Nat,Made ts (d+1) k (exprF xs ts (d+1) k p).1
 | 0,k,hk,p=>j4 xs ts hk p
 | d+1,k,hk,p=>made_step (fun t q ht=>made_expr xs ts d t ht q) (by omega) hk p
end
section
open Go.Am
attribute [local simp, local push_cast] num boo str ints aV aTab aRow rRow vE zU
structure RowOk (l:Row):Prop where
 ne:0<l.length
 ok: ∃k,Kn k/\ ∀v∈l,vOk k v
 nd:l.Nodup
theorem kq {k:Int} (hk:Kn k) {v:Val} (h:vOk k v):(v.kind=0\/v.kind=k)/\zC v=true:=by
 rcases h with rfl | ⟨rfl,n,hn,rfl⟩ | ⟨rfl,b,rfl⟩ | ⟨rfl,b,hb,rfl⟩
 ·refine ⟨.inl rfl,?_⟩
  simp [zC,zi,ByteArray.toList_eq]
 ·refine ⟨.inr rfl,?_⟩
  simp only [intsF,List.mem_cons,List.not_mem_nil,or_false] at hn
  rcases hn with rfl | rfl | rfl | rfl | rfl | rfl<;>simp [zC,ByteArray.toList_eq]
 ·refine ⟨.inr rfl,?_⟩
  cases b<;>simp [zC,ofV,ByteArray.toList_eq]
 ·refine ⟨.inr rfl,?_⟩
  simp only [textsF,List.mem_cons,List.not_mem_nil,or_false] at hb
  rcases hb with rfl | rfl | rfl | rfl<;>simp [zC,uQ,ByteArray.toList_eq]<;>decide
theorem RowOk.okR {l:Row} (h:RowOk l):okR l=true:=by
 obtain ⟨k,hk,hv⟩:=h.ok
 have hne:(l.length !=0)=true:=bne_iff_ne.2 (by have:=h.ne;omega)
 unfold Go.Proofs.YtiagabnddihchaaGreatDoor.okR
 rw [hne,Bool.true_and]
 refine (okGo_iff l []).2 ⟨fun v hm=>⟨(kq hk (hv v hm)).2,fun w hw=>absurd hw (by simp)⟩,?_⟩
 have:=h.nd
 rw [List.Nodup] at this
 refine List.Pairwise.imp_of_mem ?_ this
 intro a b ha hb hab
 have h1:=(kq hk (hv a ha)).1
 have h2:=(kq hk (hv b hb)).1
 have hs:yw b a=false:=by
  cases q:yw b a with
  | false=>rfl
  | true=>exact absurd ((uR b a).1 q).symm hab
 unfold vd
 rw [hs,Bool.false_or]
 cases q:((b.kind !=a.kind&&b.kind !=0)&&a.kind !=0) with
 | false=>rfl
 | true=>
   simp only [Bool.and_eq_true,bne_iff_ne] at q
   omega
theorem RowOk.kind {l:Row} (h:RowOk l):(yB l).2=true:=by rw [kind_ok];exact h.okR
theorem typ_two {k:Int}: ∀(l:Row) (t:Int),(t=1\/t=k)->(∀v∈l,v.kind=0\/v.kind=k)->l.foldl (fun t v=>if v.kind=0 then t else v.kind) t=1\/l.foldl (fun t v=>if v.kind=0 then t else v.kind) t=k
 | [],t,ht,_=>ht
 | v::l,t,ht,h=>by
   rw [List.foldl_cons]
   refine typ_two l _ ?_ fun w hw=>h w (by simp [hw])
   have:=h v (by simp)
   split<;>omega
theorem RowOk.kn {l:Row} (h:RowOk l):Kn (yB l).1:=by
 obtain ⟨k,hk,hv⟩:=h.ok
 rw [<-kw h.kind]
 rcases typ_two (k:=k) l 1 (.inl rfl) fun v hm=>(kq hk (hv v hm)).1 with q | q
 ·unfold typR;rw [q];exact .inl rfl
 ·unfold typR;rw [q];exact hk
theorem rows_step (xs:List Int) {k:Int} (hk:Kn k) {x:Row×Nat} (h:(∀v∈x.1,vOk k v)/\x.1.Nodup):(∀v∈(vL xs k x).1,vOk k v)/\(vL xs k x).1.Nodup/\0<(vL xs k x).1.length:=by
 unfold vL
 dsimp only
 have hv:=valueF_ok xs hk true x.2
 generalize (yi xs k true x.2).1=v at hv ⊢
 split
 ·rename_i hf
  refine ⟨fun w hw=>?_,?_,by simp⟩
  ·rcases List.mem_append.1 hw with hw | hw
   ·exact h.1 w hw
   ·rw [List.mem_singleton] at hw;rw [hw];exact hv
  ·refine List.nodup_append.2 ⟨h.2,by simp,?_⟩
   intro a ha b hb hab
   rw [List.mem_singleton] at hb
   subst hab
   rw [hb] at ha
   have:=List.all_eq_true.1 hf v ha
   rw [(uR v v).2 rfl] at this
   cases this
 ·rename_i hf
  refine ⟨h.1,h.2,?_⟩
  cases hl:x.1 with
  | nil=>rw [hl] at hf;exact absurd rfl hf
  | cons a l=>simp
theorem rows_ok (xs:List Int) {k:Int} (hk:Kn k) (p:Nat): ∀n,(∀v∈(wX xs k p n).1,vOk k v)/\(wX xs k p n).1.Nodup/\(0<n->0<(wX xs k p n).1.length)
 | 0=>by simp [wX]
 | n+1=>by
   have h:=rows_ok xs hk p n
   have:=rows_step xs hk ⟨h.1,h.2.1⟩
   exact ⟨this.1,this.2.1,fun _=>this.2.2⟩
theorem pickD_kn (xs:List Int) (p:Nat):Kn (pickD.getD (drawn xs p 4).toNat default):=by
 have h4:=zB xs p (n:=4) (by omega)
 have l4:pickD.length=4:=rfl
 have:=zx (l:=pickD) (n:=(drawn xs p 4).toNat) (by omega)
 generalize pickD.getD (drawn xs p 4).toNat default=x at this ⊢
 simp only [pickD,List.mem_cons,List.not_mem_nil,or_false] at this
 unfold Kn
 omega
theorem rowD_ok (xs:List Int) (p:Nat):RowOk (rowD xs p).1:=by
 have hk:=pickD_kn xs p
 have h4:=zB xs (p+1) (n:=4) (by omega)
 have:=rows_ok xs hk (p+2) (1+drawn xs (p+1) 4).toNat
 exact ⟨this.2.2 (by omega),⟨_,hk,this.1⟩,this.2.1⟩
theorem prodL_snoc: ∀(d:List Row) (l:Row),zn (d++[l])=zn d * l.length
 | [],l=>by simp [zn]
 | x::d,l=>by rw [List.cons_append,zn,zn,prodL_snoc d l,Nat.mul_assoc]
theorem doms_ok (xs:List Int) (p:Nat): ∀n,(∀l∈(xH xs p n).1.1,RowOk l)∧zn (xH xs p n).1.1=(xH xs p n).1.2
 | 0=>by simp [xH,zn]
 | n+1=>by
   have h:=doms_ok xs p n
   rw [xH,kN]
   generalize xH xs p n=x at h ⊢
   have hr:=rowD_ok xs x.2
   generalize rowD xs x.2=y at hr ⊢
   dsimp only
   split
   ·refine ⟨fun l hl=>?_,?_⟩
    ·rcases List.mem_append.1 hl with hl | hl
     ·exact h.1 l hl
     ·rw [List.mem_singleton] at hl;rw [hl];exact hr
    ·dsimp only
     rw [prodL_snoc,h.2]
   ·exact h
structure DomOk (d:List Row):Prop where
 rows: ∀l∈d,RowOk l
 len:d.length<=4
 pts:zn d<=300
theorem domF_ok (xs:List Int) (p:Nat):DomOk (domF xs p).1:=by
 have h1:=doms_ok xs (p+1) (drawn xs p 5).toNat
 have h2:=domsF_pts xs (p+1) (drawn xs p 5).toNat
 have h5:=zB xs p (n:=5) (by omega)
 refine ⟨h1.1,by show (xH xs (p+1) (drawn xs p 5).toNat).1.1.length<=4;omega,?_⟩
 show zn (xH xs (p+1) (drawn xs p 5).toNat).1.1<=300
 rw [h1.2];exact h2.1
namespace DomOk
variable {d:List Row} (h:DomOk d)
include h
theorem ok:wO d=true:=by
 unfold wO
 rw [decide_eq_true (by have:=h.len;omega),Bool.true_and]
 exact List.all_eq_true.2 fun l hl=>(h.rows l hl).kind
theorem full:Full d:=(uH h.ok).1
theorem good:GoodD d:=⟨h.full,by have:=h.len;omega,by have:=h.pts;omega,fun l hl=>by have:=uZ h.full l hl;have:=h.pts;omega⟩
theorem small:yE d:=⟨by have:=h.len;omega,fun l hl=>by have:=h.good.ll l hl;omega⟩
theorem types:zZ d=d.map fun l=>(yB l).1:=by rw [zZ,if_pos h.ok]
theorem tlen:(zZ d).length=d.length:=by rw [h.types,List.length_map]
theorem pts23:pts23 d=zn d:=uV h.good
theorem valid {e:Ex} (he:xD (ownM (zZ d)) e=(2,0)):zI d e=0:=by
 unfold zI
 rw [h.ok,he,if_neg (by decide),if_neg (by have:=h.pts;omega),if_pos rfl,if_pos rfl]
end DomOk
end
section
open Go.Am
attribute [local simp, local push_cast] num boo str ints aV aTab aRow rRow vE zU
def iV (n:Int):Val:=⟨1,n,ByteArray.empty⟩
def exD:List Row:=[[iV 1,iV 2,zi],[iV 1,iV 2]]
def colE (n:Int):Ex:= .mk 5 0 0 ByteArray.empty n []
def exE:Ex:=bin 16 [colE 1,colE 0]
theorem exD_ok:DomOk exD:=by
 refine ⟨fun l hl=>?_,by decide,by decide⟩
 have k1:Kn 1:= .inl rfl
 have v1:vOk 1 (iV 1):= .inr (.inl ⟨rfl,1,by decide,rfl⟩)
 have v2:vOk 1 (iV 2):= .inr (.inl ⟨rfl,2,by decide,rfl⟩)
 have v3:vOk 1 zi:= .inl rfl
 simp only [exD,List.mem_cons,List.not_mem_nil,or_false] at hl
 rcases hl with rfl | rfl
 ·refine ⟨by decide,⟨1,k1,?_⟩,?_⟩
  ·intro v hv
   simp only [List.mem_cons,List.not_mem_nil,or_false] at hv
   rcases hv with rfl | rfl | rfl<;>assumption
  ·simp [iV,zi]
 ·refine ⟨by decide,⟨1,k1,?_⟩,?_⟩
  ·intro v hv
   simp only [List.mem_cons,List.not_mem_nil,or_false] at hv
   rcases hv with rfl | rfl<;>assumption
  ·simp [iV]
theorem exD_types:zZ exD=[1,1]:=by
 rw [exD_ok.types]
 have h1:=kw (exD_ok.rows [iV 1,iV 2,zi] (by simp [exD])).kind
 have h2:=kw (exD_ok.rows [iV 1,iV 2] (by simp [exD])).kind
 show [(yB [iV 1,iV 2,zi]).1,(yB [iV 1,iV 2]).1]=_
 rw [<-h1,<-h2];rfl
theorem exE_ok12:Ok12 exE:=by
 have hc: ∀n,Ok12 (colE n):=fun n=>⟨_,by show 0<=1000;decide,fun k hk=>absurd (show k∈([]:List Ex) from hk) (by simp)⟩
 refine ⟨_,by decide,fun k hk=>?_⟩
 have hk:k∈[colE 1,colE 0]:=hk
 simp only [List.mem_cons,List.not_mem_nil,or_false] at hk
 rcases hk with rfl | rfl<;>exact hc _
theorem exE_valid:zI exD exE=0:=by
 refine exD_ok.valid ?_
 rw [exD_types]
 have m0:Made [1,1] 1 1 (colE 0):=made_col (j:=0) (by decide) rfl rfl
 have m1:Made [1,1] 1 1 (colE 1):=made_col (j:=1) (by decide) rfl rfl
 exact (made_op (l:=[1,1]) (t:=2) (op:=16) (by decide) (by decide) (.cons m1 (.cons m0 .nil))).type (by decide) (by decide)
theorem eval_col (row:List Val) (n:Int):zN row (colE n)=if 0<=n/\n<row.length then row.getD n.toNat default else zi:=by
 rw [kJ,zR,if_neg (by show¬true=false;decide)];rfl
theorem eval_op (row:List Val) (op:Int) (ks:List Ex) (h:6<=op) (h26:op≠26) (hc:yf (bin op ks)=true):zN row (bin op ks)=z6 op (ks.map (zN row)):=by
 rw [kJ,evalK_apply row (bin op ks) _ h h26 hc];rfl
theorem uq (a b:Val):zN [a,b] exE=xd b a:=by
 rw [exE,eval_op _ _ _ (by decide) (by decide) rfl]
 simp only [List.map_cons,List.map_nil,eval_col]
 rfl
theorem exD_at: ∀k,k<6->zV exD exE k=[0,0,1,0,2,2].getD k default:=by
 intro k hk
 have:k=0\/k=1\/k=2\/k=3\/k=4\/k=5:=by omega
 rcases this with rfl | rfl | rfl | rfl | rfl | rfl
 ·exact (congrArg zA (uq (iV 1) (iV 1))).trans (by simp [xd,iV,zA,ofV,cmpM,cmpI,cmpS,zi,kV])
 ·exact (congrArg zA (uq (iV 1) (iV 2))).trans (by simp [xd,iV,zA,ofV,cmpM,cmpI,cmpS,zi,kV])
 ·exact (congrArg zA (uq (iV 2) (iV 1))).trans (by simp [xd,iV,zA,ofV,cmpM,cmpI,cmpS,zi,kV])
 ·exact (congrArg zA (uq (iV 2) (iV 2))).trans (by simp [xd,iV,zA,ofV,cmpM,cmpI,cmpS,zi,kV])
 ·exact (congrArg zA (uq zi (iV 1))).trans (by simp [xd,iV,zA,ofV,cmpM,cmpI,cmpS,zi,kV])
 ·exact (congrArg zA (uq zi (iV 2))).trans (by simp [xd,iV,zA,ofV,cmpM,cmpI,cmpS,zi,kV])
theorem holds_truth (d:List Row) (e:Ex) (k:Nat):yp d e k=(zV d e k==1):=rfl
theorem exD_solve:xq exD exE=([iV 2,iV 1],0):=by
 have hp:zn exD=6:=rfl
 have:wn (yp exD exE) (zn exD)=some 2:=by
  refine first_of (by decide) ?_ ?_
  ·rw [holds_truth,exD_at 2 (by omega)];rfl
  ·intro j hj
   rw [holds_truth,exD_at j (by omega)]
   have:j=0\/j=1:=by omega
   rcases this with rfl | rfl<;>rfl
 rw [xq,if_neg (by rw [exE_valid];decide),this]
 rfl
theorem cntT_eq {v w:Nat->Int} {t:Int} {n:Nat} (h: ∀k,k<n->v k=w k):cntT v t n=cntT w t n:=by
 unfold cntT
 congr 1
 refine List.countP_congr fun k hk=>?_
 rw [h k (List.mem_range.1 hk)]
theorem exD_count:uf exD exE=[1,3,2,0]:=by
 have hp:zn exD=6:=rfl
 rw [uf,if_neg (by rw [exE_valid];decide),hp,cntT_eq (exD_at),cntT_eq (exD_at),cntT_eq (exD_at)]
 rfl
theorem kT:ACall Tryz.prog 20 [] [] (boo true) []:=by
 have h1:=c_solve exD exD_ok.small exE exE_ok12
 have h2:=c_pcount exD exD_ok.small exE exE_ok12
 rw [exD_solve] at h1
 rw [exD_count] at h2
 have hs:=c_same23 [iV 2,iV 1] [iV 2,iV 1] (by decide)
 rw [sameR_self] at hs
 rw [zl] at h1 h2
 obtain ⟨e1,he1⟩: ∃e,e=colE 1:=⟨_,rfl⟩
 obtain ⟨e0,he0⟩: ∃e,e=colE 0:=⟨_,rfl⟩
 have hE:exE=bin 16 [e1,e0]:=by rw [he1,he0];rfl
 have hc1:=c_fcol 1
 have hc0:=c_fcol 0
 rw [show Ex.mk 5 0 0 ByteArray.empty 1 []=e1 from he1.symm] at hc1
 rw [show Ex.mk 5 0 0 ByteArray.empty 0 []=e0 from he0.symm] at hc0
 have hd:=c_do 16 [e1,e0] (by simp)
 rw [<-hE] at hd
 generalize exE=e at h1 h2 hd
 refine zm mixed ttok Tryz.func20 Tryz.ntmps20 Tryz.results20 ?_
 simp -implicitDefEqProofs only [argT,↓zb,push_cast,simprocAttr,tte]
 refine zd [[]] [] (uJ 1) ?_
 simp -implicitDefEqProofs only [↓zb,push_cast,simprocAttr,tte]
 refine zd [[]] [] (uJ 2) ?_
 simp -implicitDefEqProofs only [↓zb,push_cast,simprocAttr,tte]
 refine zd [[]] [] (uJ 1) ?_
 simp -implicitDefEqProofs only [↓zb,push_cast,simprocAttr,tte]
 refine zd [[]] [] (uJ 2) ?_
 simp -implicitDefEqProofs only [↓zb,push_cast,simprocAttr,tte]
 refine zd [[]] [] (hc1) ?_
 simp -implicitDefEqProofs only [↓zb,push_cast,simprocAttr,tte]
 refine zd [[]] [] (hc0) ?_
 simp -implicitDefEqProofs only [↓zb,push_cast,simprocAttr,tte]
 refine zd [[],[6]] [] hd ?_ (hargs:=by simp [ends,bs,yI,zo,zv])
 simp -implicitDefEqProofs only [↓zb,push_cast,simprocAttr,tte]
 refine zd [[1],[0,0,0,0,0,6]] [] h1 ?_ (hargs:=by simp [ends,bs,exD,iV,zi,zo,zv,rV,rRow])
 simp -implicitDefEqProofs only [↓zb,push_cast,simprocAttr,tte]
 refine zd [[1],[0,0,0,0,0,6]] [] h2 ?_ (hargs:=by simp [ends,bs,exD,iV,zi,zo,zv,rV,rRow])
 simp -implicitDefEqProofs only [beq_self_eq_true,↓zb,push_cast,simprocAttr,tte]
 refine zd [[]] [] (uJ 2) ?_
 simp -implicitDefEqProofs only [↓zb,push_cast,simprocAttr,tte]
 refine zd [[]] [] (uJ 1) ?_
 simp -implicitDefEqProofs only [↓zb,push_cast,simprocAttr,tte]
 refine zd [[3],[3]] [] hs ?_ (hargs:=by simp [ends,bs,iV,zo,zv,rV])
 simp -implicitDefEqProofs only [beq_self_eq_true,↓zb,push_cast,simprocAttr,tte]
 exact zk trivial rfl (by simp [ends])
end
section
open Go.Am
attribute [local simp, local push_cast] num boo str ints aV aTab aRow rRow vE zU
theorem c_new (t:List Int):ACall Tryz.prog 8 [ints t] [] (.ptr 1000 0) [(1000,zU (t.take 2000) 0)]:=by
 refine zm mixed ttok Tryz.func8 Tryz.ntmps8 Tryz.results8 ?_
 simp -implicitDefEqProofs only [argT,↓zb,push_cast,simprocAttr,tte]
 have e:(if (2000:Int)<(t.length:Int) then (2000:Int) else (t.length:Int))=((min 2000 t.length:Nat):Int):=by split<;>omega
 have e2:t.take (min 2000 t.length)=t.take 2000:=by
  by_cases h:t.length<=2000
  ·rw [Nat.min_eq_right h,List.take_of_length_le (Nat.le_refl _),List.take_of_length_le h]
  ·rw [Nat.min_eq_left (by omega)]
 rw [e,Int.toNat_natCast,e2]
 refine ⟨⟨by omega,by omega⟩,?_⟩
 refine u9 9 1000 trivial (by decide) (by decide) rfl (by simp [A.ren,renL,zJ]) (by simp [A.closed,closedL,inO,lookO]) ?_ ?_
 ·simp [renO,Ob.ren,A.ren,renL,zJ,ends]
 ·simp [renO,zJ,ends]
end
section
open Go.Am
attribute [local simp, local push_cast] num boo str ints aV aTab aRow rRow vE zU
def X1s (e:Ex) (n:Nat):SL:=⟨[(5,.d (.lit (.int .i64 n))),(2,.ptr 2 0),(3,.ptr 3 0)],[(2,.var (vE e)),(3,.var (vE e))]⟩
theorem c_sameE: ∀e:Ex,Ok12 e->ACall Tryz.prog 31 [aE e,aE e] [] (boo true) []:=
 xj (p:=fun e=>Ok12 e->ACall Tryz.prog 31 [aE e,aE e] [] (boo true) []) fun e ih ho=>by
 have hl:=ho.kids
 rw [zl]
 refine zm mixed ttok Tryz.func31 Tryz.ntmps31 Tryz.results31 ?_
 simp -implicitDefEqProofs only [argT,bne_self_eq_false,↓zb,push_cast,simprocAttr,tte]
 refine z8 mixed ttok (fun n:Nat=>X1s e n) (fun n=>e.kids.length-n) (fun n=>n<=e.kids.length) 0 (Nat.zero_le _) ?_ ?_
 ·exact Weak.keepL (by simp [X1s,ends]) (by simp [X1s,vE,ends]) (by simp [X1s,ends])
 intro I hI n hn
 simp -implicitDefEqProofs only [X1s,vE,↓zb,push_cast,simprocAttr,tte]
 refine za (fun h1=>?_) fun h1=>?_
 ·have h1':n<e.kids.length:=by simpa using h1
  have hw:=zw h1' (by omega)
  refine ⟨⟨by omega,by omega⟩,⟨by omega,by omega⟩,?_⟩
  refine zd [[0,0,0,0,0,6],[0,0,0,0,0,6]] [] (ih _ (zx h1') (ho.kid (zx h1'))) ?_
  simp -implicitDefEqProofs only [↓zb,push_cast,simprocAttr,tte]
  refine ⟨zh (by kernel_rfl),?_⟩
  exact zp hI (n+1) h1' (by show e.kids.length-(n+1)<e.kids.length-n;omega) (Weak.keepL (by simp [X1s,hw,ends]) (by simp [X1s,vE,ends]) (by simp [X1s,ends]))
 exact zk trivial rfl (by simp [ends])
def smGo:Nat->List Row->Nat
 | n,[]=>n
 | n,l::d=>if n<900 then smGo (n+l.length) d else n
def smallQ (d:List Row):Bool:=decide (smGo d.length d<=200)
theorem sm_ge: ∀(d:List Row) (n:Nat),n<=smGo n d
 | [],n=>Nat.le_refl _
 | l::d,n=>by
   rw [smGo]
   split
   ·have:=sm_ge d (n+l.length);omega
   ·omega
theorem sm_mem: ∀(d:List Row) (n:Nat),smGo n d<=200-> ∀l∈d,l.length<=200
 | [],n,_,l,hl=>by simp at hl
 | x::d,n,h,l,hl=>by
   rw [smGo] at h
   split at h
   ·have h1:=sm_ge d (n+x.length)
    rcases List.mem_cons.1 hl with rfl | hl
    ·omega
    ·exact sm_mem d _ h l hl
   ·omega
theorem small_of {d:List Row} (h:smallQ d=true):yE d/\d.length<=200/\ ∀l∈d,l.length<=200:=by
 have h:=of_decide_eq_true h
 have h1:=sm_ge d d.length
 have h2:=sm_mem d _ h
 exact ⟨⟨by omega,fun l hl=>by have:=h2 l hl;omega⟩,by omega,h2⟩
def G1s (d:List Row) (x:Nat×Nat):SL:=⟨[(4,.d (.lit (.int .i64 x.1))),(3,num x.2),(0,aTab d)],[]⟩
theorem c_smallD (d:List Row) (hl:d.length<=1000000000000) (hd: ∀l∈d,l.length<=1000000000000):ACall Tryz.prog 33 [aTab d] [] (boo (smallQ d)) []:=by
 refine zm mixed ttok Tryz.func33 Tryz.ntmps33 Tryz.results33 ?_
 generalize hr:boo (smallQ d)=R
 unfold smallQ at hr
 simp -implicitDefEqProofs only [argT,aTab,↓zb,push_cast,simprocAttr,tte]
 refine z8 mixed ttok (fun x:Nat×Nat=>G1s d x) (fun x=>d.length-x.1) (fun x=>x.1<=d.length/\x.2<=2000000000000/\smGo d.length d=smGo x.2 (d.drop x.1)) (0,d.length) ⟨Nat.zero_le _,by dsimp only;omega,rfl⟩ ?_ ?_
 ·exact Weak.keepL (by simp [G1s,ends]) (by simp [G1s,ends]) (by simp [G1s,ends])
 rintro I hI ⟨n,m⟩ ⟨hn,hm,hg⟩
 dsimp only at hn hm hg
 simp -implicitDefEqProofs only [G1s,rRow,↓zb,push_cast,simprocAttr,tte]
 refine za (fun h1=>?_) fun h1=>?_
 ·have h1':n<d.length:=by simpa using h1
  have hw:IntKind.i64.wrap ((n:Int)+1)=((n+1:Nat):Int):=by rw [z7 (by omega) (by omega)];rfl
  have hlb:=hd _ (zx h1')
  rw [yc d n h1',smGo] at hg
  generalize (d.getD n default).length=L at hlb hg ⊢
  refine za (fun h2=>?_) fun h2=>?_
  ·have h2':m<900:=by simp only [decide_eq_true_eq] at h2;omega
   rw [if_pos h2'] at hg
   have hwm:IntKind.i64.wrap ((m:Int)+(L:Int))=((m+L:Nat):Int):=by rw [z7 (by omega) (by omega)];omega
   refine ⟨⟨by omega,by omega⟩,?_⟩
   exact zp hI (n+1,m+L) ⟨h1',by dsimp only;omega,hg⟩ (by show d.length-(n+1)<d.length-n;omega) (Weak.keepL (by simp [G1s,hw,hwm,ends]) (by simp [G1s,ends]) (by simp [G1s,ends]))
  ·have h2': ¬m<900:=by simp only [decide_eq_false_iff_not] at h2;omega
   rw [if_neg h2'] at hg
   rw [hg] at hr
   exact zk trivial (by rw [<-hr];simp;omega) (by simp [ends])
 have hnn:n=d.length:=by have:=of_decide_eq_false h1;omega
 subst hnn
 rw [List.drop_length,smGo] at hg
 rw [hg] at hr
 exact zk trivial (by rw [<-hr];simp;omega) (by simp [ends])
end
end Go.Proofs.YtiagabnddihchaaGreatDoor
