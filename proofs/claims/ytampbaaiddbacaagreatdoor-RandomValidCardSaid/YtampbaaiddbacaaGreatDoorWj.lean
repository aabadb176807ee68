/- What random makes of a tape is valid, of its types, and not too large: a proof over an abstract machine of our own (part Wj) -/
import Derived.Test.YtampbaaiddbacaaGreatDoorWh
import Derived.Test.YtampbaaiddbacaaGreatDoorWg
set_option maxRecDepth 100000
set_option maxHeartbeats 4000000
set_option linter.all false
namespace Go.Proofs.YtampbaaiddbacaaGreatDoor
section
open Go.Am
attribute [local simp, local push_cast] num boo str ints aV aTab zA aS aT aC y5 yJ yY zF aAgg zG aX
theorem ret_shut1 {p:Prop} {t:List (Nat×A)} {o os':List (Nat×Ob)} {a b x:A} (ws:List Nat) {f:FrzS} (hf:frzA (lookO o) ws a=some f) (hp:p) (hs:f.side) (hx:f.x=x)
 (hc:closedL (inO os') [x,b]=true) (ho:keepO (lookO (updO o f.upd)) (inO os') os') (hin:keepIn (inO os') (updO o f.upd)):retx (some (p,.tup [a,b])) ⟨t,o⟩ (.tup [x,b]) os':=by
 refine ⟨hp,?_⟩
 have h1:Weak ⟨lookT [(0,.tup [a,b])],lookO o⟩ ⟨lookT [(0,.tup [x,b])],lookO (updO o f.upd)⟩:=by
  intro cx N ac w ⟨β,h1,h2,h3,h4⟩
  have hv:=h2 0
  simp only [lookT,if_true,A.rep,repL] at hv
  obtain ⟨vs,hv1,u,us,rfl,ha,u2,us2,rfl,hb,rfl⟩:=hv
  obtain ⟨r1,L1,x1⟩:=frzA_ok h1 hf hs ha
  rw [hx] at x1
  simp only at r1 L1 x1
  rw [xB] at r1 L1 x1
  refine ⟨β,r1,fun j=>?_,h3,MarksOk.le L1 h4⟩
  by_cases hj:j=0
  ·subst hj
   simp only [lookT,if_true,A.rep,repL]
   exact ⟨_,hv1,u,_,rfl,x1,u2,_,rfl,A.rep_le L1 _ _ hb,rfl⟩
  ·simp [lookT,Ne.symm hj,A.rep]
 exact h1.trans (Weak.keep (σ:=⟨[(0,.tup [x,b])],os'⟩) ⟨⟨by simp [lookT],by simpa [A.closed] using hc⟩,trivial⟩ ho hin)
def aQs (s:Sch):A:= .agg [.ptr 1000 0,.d (.sl 6 (ze rT s))]
def aQP (x:Qr×List Int):A:= .tup [aQ x.1,ints x.2]
attribute [local simp, local push_cast] aQs aQP
def zE:Ex:= .mk 0 0 0 ByteArray.empty 0 []
def wq (name:ByteArray):Qr:= .mk 1 name 0 false zE [] [] [] [] []
def kL (xs:List Int) (s:Sch) (p:Nat):(Qr×List Int)×Nat:=
 ((wq (s.getD (drawn xs p s.length).toNat default).name,zX (s.getD (drawn xs p s.length).toNat default)),p+1)
theorem aQ_scan (b:ByteArray):aQ (wq b)= .agg [num 1,str b,num 0,boo false,num 0,num 0,num 0,str ByteArray.empty,num 0,.d (.sl 6 []),.d (.sl 6 []),.d (.sl 7 []),.d (.sl 1 []),.d (.sl 1 []),.d (.sl 15 [])]:=by
 rw [zY];rfl
theorem c_qscan {xs:List Int} (hx:Tape xs) (s:Sch) (hs:SmallS s) (h0:0<s.length) (p:Nat):ACall Tryz.prog 134 [aQs s] [(1000,zG xs p)] (aQP (kL xs s p).1) [(1000,zG xs (kL xs s p).2)]:=by
 have hsl:=hs.len
 have hd:=zv xs p (n:=(s.length:Int)) (by omega)
 have hm:=zi (l:=s) (n:=(drawn xs p s.length).toNat) (by omega)
 have hct:=c_types (s.getD (drawn xs p s.length).toNat default) (by have:=(hs.tab _ hm).cols;omega)
 refine zp mixed ttok Tryz.func134 Tryz.ntmps134 Tryz.results134 ?_
 unfold kL aQP
 rw [aQ_scan]
 simp -implicitDefEqProofs only [argT,aQs,↓zb,push_cast,simprocAttr,tte]
 refine zd [[],[]] [(1000,1000)] (c13 (n:=(s.length:Int)) (p:=p) hx (by omega) (by omega)) ?_
 simp -implicitDefEqProofs only [↓zb,push_cast,simprocAttr,tte]
 refine ⟨by omega,zg (by kernel_rfl),?_⟩
 simp only [aT] at hct
 generalize s.getD (drawn xs p s.length).toNat default=t at hct ⊢
 refine zd [[0,3,1,1,2,6]] [] (hct) ?_
 simp -implicitDefEqProofs only [↓zb,push_cast,simprocAttr,tte]
 refine ⟨zg (by kernel_rfl),?_⟩
 refine zm [[0,0,0,0,0,0,0,0,0,6,6,7,1,1,15],[1]] rfl (by simp) (by simp [zc]<;>omega) ?_ (by first | rfl | simp [ends] | (subst_vars;simp [ends])) (by simp [ends]) (by simp [ends])
 rfl
theorem kH {xs:List Int} (hx:Tape xs) (s:Sch) (types:List Int) (ht:types.length<=1000) (d:Nat) (hd:d+1<=10) (typ:Int) (p:Nat):
 ACall Tryz.prog 87 [aQs s,ints types,num typ,num (d+1:Nat)] [(1000,zG xs p)] (aE (zK xs types (d+1) typ p).1) [(1000,zG xs (zK xs types (d+1) typ p).2)]:=by
 have hc:=c11 hx ht d hd typ p
 rw [yb] at hc ⊢
 refine zp mixed ttok Tryz.func87 Tryz.ntmps87 Tryz.results87 ?_
 simp -implicitDefEqProofs only [argT,aQs,↓zb,push_cast,simprocAttr,tte]
 refine zd [[0,1],[0],[0]] [(1000,1000)] (hc) ?_
 simp -implicitDefEqProofs only [↓zb,push_cast,simprocAttr,tte]
 refine zr [0,0,0,0,0,6] rfl (by simp) (by simp [zc]<;>omega) ?_ (by first | rfl | simp [ends] | (subst_vars;simp [ends])) (by simp [ends]) (by simp [ends])
 rfl
def y6 (xs types:List Int) (d:Nat):Nat->Nat->(List Ex×List Int)×Nat
 | 0,p=>(([],[]),p)
 | n+1,p=>
   (((y6 xs types d n p).1.1++[(zK xs types d (1+drawn xs (y6 xs types d n p).2 3) ((y6 xs types d n p).2+1)).1],
     (y6 xs types d n p).1.2++[1+drawn xs (y6 xs types d n p).2 3]),
     (zK xs types d (1+drawn xs (y6 xs types d n p).2 3) ((y6 xs types d n p).2+1)).2)
theorem xU (xs types:List Int) (d:Nat) (p:Nat): ∀n,(y6 xs types d n p).1.1.length=n/\(y6 xs types d n p).1.2.length=n
 | 0=>⟨rfl,rfl⟩
 | n+1=>by
   have:=xU xs types d p n
   simp only [y6,List.length_append,List.length_cons,List.length_nil]
   omega
theorem c_qlist {xs:List Int} (hx:Tape xs) (s:Sch) (types:List Int) (ht:types.length<=1000) (d:Nat) (hd:d+1<=10) (n:Nat) (hn:n<=10) (p:Nat):
 ACall Tryz.prog 88 [aQs s,num n,ints types,num (d+1:Nat)] [(1000,zG xs p)] (.tup [.d (.sl 6 (ze rE (y6 xs types (d+1) n p).1.1)),.vec 501 n]) [(1000,zG xs (y6 xs types (d+1) n p).2),(501,.vec 3 1 (ze rI (y6 xs types (d+1) n p).1.2) 0)]:=by
 refine zp mixed ttok Tryz.func88 Tryz.ntmps88 Tryz.results88 ?_
 obtain ⟨F,hF⟩: ∃F,y6 xs types (d+1) n p=F:=⟨_,rfl⟩
 rw [hF]
 simp -implicitDefEqProofs only [argT,aQs,↓zb,push_cast,simprocAttr,tte]
 refine zn mixed ttok 14 [2,3,4,13] [4] (by simp only [z6,ends,push_cast,simprocAttr];rfl) (by simp only [zB,zo,ends,push_cast,simprocAttr];rfl) n (fun _=>True) (fun k=>[(10,.vec 500 k),(11,.vec 501 k)]) (fun k=>[(1000,zG xs (y6 xs types (d+1) k p).2),(500,.vec 52 6 (ze rE (y6 xs types (d+1) k p).1.1) 0),(501,.vec 3 1 (ze rI (y6 xs types (d+1) k p).1.2) 0)]) trivial ?_ ?_
 ·exact ((Weak.nilL 10 500 52 6 rfl rfl).trans (Weak.nilL 11 501 3 1 rfl rfl)).trans (Weak.keepL (by simp [cst,ends]) (by simp [cst,y6,ze,ends]) (by simp [cst,ends]))
 intro I hI k hk hi
 simp -implicitDefEqProofs only [cst,↓zb,push_cast,simprocAttr,tte]
 refine za (fun h=>?_) fun h=>?_
 ·have h':k<n:=by have:=of_decide_eq_true h;omega
  have hw:=zj h' (by omega)
  have hst:y6 xs types (d+1) (k+1) p=(((y6 xs types (d+1) k p).1.1++[(zK xs types (d+1) (1+drawn xs (y6 xs types (d+1) k p).2 3) ((y6 xs types (d+1) k p).2+1)).1],(y6 xs types (d+1) k p).1.2++[1+drawn xs (y6 xs types (d+1) k p).2 3]),(zK xs types (d+1) (1+drawn xs (y6 xs types (d+1) k p).2 3) ((y6 xs types (d+1) k p).2+1)).2):=rfl
  have hlen:=xU xs types (d+1) p k
  generalize y6 xs types (d+1) k p=L at hst hlen ⊢
  obtain ⟨⟨es,own⟩,p1⟩:=L
  simp only at hst hlen ⊢
  obtain ⟨hl1,hl2⟩:=hlen
  have h3:=zv xs p1 (n:=3) (by omega)
  have hwd:IntKind.i64.wrap (1+drawn xs p1 3)=1+drawn xs p1 3:=zJ (by omega) (by omega)
  refine zd [[],[]] [(1000,1000)] (c13 (n:=3) (p:=p1) hx (by omega) (by omega)) ?_
  simp -implicitDefEqProofs only [hwd,↓zb,push_cast,simprocAttr,tte]
  generalize 1+drawn xs p1 3=typ at hst ⊢
  have hce:=kH hx s types ht d hd typ (p1+1)
  rw [yb] at hce
  refine zd [[0,6],[1],[0],[0]] [(1000,1000)] (hce) ?_
  generalize zK xs types (d+1) typ (p1+1)=e at hst ⊢
  simp -implicitDefEqProofs only [↓zb,push_cast,simprocAttr,tte]
  refine ⟨⟨hl1.symm,by omega⟩,⟨hl2.symm,by omega⟩,?_⟩
  exact zl hI k rfl h' trivial (by simp [hw,hst,hl1,hl2,zG,ends]) (by simp [hw,hst,hl1,hl2,zG,ends]) (by simp [hw,hst,hl1,hl2,zG,ends]) (by simp [hw,hst,hl1,hl2,zG,ends])
 ·obtain rfl:k=n:=by have:=of_decide_eq_false h;omega
  rw [hF]
  have hlen:=xU xs types (d+1) p k
  rw [hF] at hlen
  obtain ⟨hl1,hl2⟩:=hlen
  exact ret_shut1 [6] rfl trivial (by simp [zc,hl1]) rfl (by simp [ends]) (by simp [ends]) (by simp [ends])
end
section
open Go.Am
attribute [local simp, local push_cast] num boo str ints aV aTab zA aS aT aC y5 yJ yY zF aAgg zG aQs aQP
def valsQ (types:List Int) (rows:List (List Val)):Qr:= .mk 2 ByteArray.empty 0 false zE [] [] types rows []
def wt (xs:List Int) (u:Int):Nat->Nat->List (List Val)×Nat
 | 0,p=>([],p)
 | n+1,p=>((wt xs u n p).1++[[(yx xs 1 true (wt xs u n p).2).1,(yx xs u true (yx xs 1 true (wt xs u n p).2).2).1]],(yx xs u true (yx xs 1 true (wt xs u n p).2).2).2)
theorem kg (xs:List Int) (u:Int) (p:Nat): ∀n,(wt xs u n p).1.length=n
 | 0=>rfl
 | n+1=>by simp only [wt,List.length_append,List.length_cons,List.length_nil,kg xs u p n]
def vi (xs:List Int) (s:Sch) (p:Nat):(Qr×List Int)×Nat:=
 if drawn xs p 5≠4 then kL xs s (p+1)
 else ((valsQ [1,1+drawn xs (p+1) 3] (wt xs (1+drawn xs (p+1) 3) (drawn xs (p+2) 3).toNat (p+3)).1,[1,1+drawn xs (p+1) 3]),(wt xs (1+drawn xs (p+1) 3) (drawn xs (p+2) 3).toNat (p+3)).2)
theorem rowsQR2 (r:List (List Val)) (v1 v2:Val):ze yY r++[[D.sl 3 [[D.lit (.int .i64 v1.kind),D.lit (.int .i64 v1.num),D.lit (.string v1.text)],[D.lit (.int .i64 v2.kind),D.lit (.int .i64 v2.num),D.lit (.string v2.text)]]]]=ze yY (r++[[v1,v2]]):=by simp [ze,yY,rV]
theorem c_qleaf {xs:List Int} (hx:Tape xs) (s:Sch) (hs:SmallS s) (h0:0<s.length) (p:Nat):ACall Tryz.prog 86 [aQs s] [(1000,zG xs p)] (aQP (vi xs s p).1) [(1000,zG xs (vi xs s p).2)]:=by
 have h5:=zv xs p (n:=5) (by omega)
 have h3:=zv xs (p+1) (n:=3) (by omega)
 have h3':=zv xs (p+2) (n:=3) (by omega)
 have hwd:IntKind.i64.wrap (1+drawn xs (p+1) 3)=1+drawn xs (p+1) 3:=zJ (by omega) (by omega)
 refine zp mixed ttok Tryz.func86 Tryz.ntmps86 Tryz.results86 ?_
 obtain ⟨F,hF⟩: ∃F,vi xs s p=F:=⟨_,rfl⟩
 rw [hF]
 unfold vi at hF
 simp -implicitDefEqProofs only [argT,aQs,↓zb,push_cast,simprocAttr,tte]
 refine zd [[],[]] [(1000,1000)] (c13 (n:=5) (p:=p) hx (by omega) (by omega)) ?_
 simp -implicitDefEqProofs only [↓zb,push_cast,simprocAttr,tte]
 refine za (fun k1=>?_) fun k1=>?_
 ·have k1':drawn xs p 5≠4:=by simpa using k1
  rw [if_pos k1'] at hF
  have hc:=c_qscan hx s hs h0 (p+1)
  rw [hF] at hc
  unfold aQP at hc
  rw [zY] at hc ⊢
  refine zd [[0,6]] [(1000,1000)] (hc) ?_
  simp -implicitDefEqProofs only [↓zb,push_cast,simprocAttr,tte]
  refine zm [[0,0,0,0,0,0,0,0,0,6,6,7,1,1,15],[1]] rfl (by simp) (by simp [zc]<;>omega) ?_ (by first | rfl | simp [ends] | (subst_vars;simp [ends])) (by simp [ends]) (by simp [ends])
  rfl
 have k1': ¬drawn xs p 5≠4:=by simpa using k1
 rw [if_neg k1'] at hF
 refine zd [[],[]] [(1000,1000)] (c13 (n:=3) (p:=p+1) hx (by omega) (by omega)) ?_
 simp -implicitDefEqProofs only [hwd,↓zb,push_cast,simprocAttr,tte]
 refine zd [[],[]] [(1000,1000)] (c13 (n:=3) (p:=p+2) hx (by omega) (by omega)) ?_
 simp -implicitDefEqProofs only [↓zb,push_cast,simprocAttr,tte]
 obtain ⟨m,hm⟩: ∃m:Nat,drawn xs (p+2) 3=m:=⟨(drawn xs (p+2) 3).toNat,by omega⟩
 rw [hm] at hF h3'
 rw [hm,show (m:Int).toNat=m from rfl] at *
 generalize hu:1+drawn xs (p+1) 3=u at *
 refine zn mixed ttok 24 [1,2,4,5,23] [1,2,18] (by simp only [z6,ends,push_cast,simprocAttr];rfl) (by simp only [zB,zo,ends,push_cast,simprocAttr];rfl) m (fun _=>True) (fun _=>[]) (fun k=>[(1000,zG xs (wt xs u k (p+3)).2),(5,.var [num 2,str ByteArray.empty,num 0,boo false,num 0,num 0,num 0,str ByteArray.empty,num 0,.snil,.snil,.snil,.vec 18 2,.vec 600 k,.snil]),(600,.vec 43 1 (ze yY (wt xs u k (p+3)).1) 0)]) trivial ?_ ?_
 ·exact (Weak.nilCellL 5 13 600 43 1 rfl rfl rfl).trans (Weak.keepL (by simp [cst,ends]) (by simp [cst,wt,ze,ends]) (by simp [cst,ends]))
 intro I hI k hk hi
 simp -implicitDefEqProofs only [cst,↓zb,push_cast,simprocAttr,tte]
 refine za (fun h=>?_) fun h=>?_
 ·have h':k<m:=by have:=of_decide_eq_true h;omega
  have hw:=zj h' (by omega)
  have hst:wt xs u (k+1) (p+3)=((wt xs u k (p+3)).1++[[(yx xs 1 true (wt xs u k (p+3)).2).1,(yx xs u true (yx xs 1 true (wt xs u k (p+3)).2).2).1]],(yx xs u true (yx xs 1 true (wt xs u k (p+3)).2).2).2):=rfl
  have hlen:=kg xs u (p+3) k
  generalize wt xs u k (p+3)=r at hst hlen ⊢
  refine zd [[],[],[]] [(1000,1000)] (c18 (typ:=1) (nl:=true) (p:=r.2) hx) ?_
  generalize yx xs 1 true r.2=v1 at hst ⊢
  simp -implicitDefEqProofs only [↓zb,push_cast,simprocAttr,tte]
  refine zd [[],[],[]] [(1000,1000)] (c18 (typ:=u) (nl:=true) (p:=v1.2) hx) ?_
  generalize yx xs u true v1.2=v2 at hst ⊢
  simp -implicitDefEqProofs only [↓zb,push_cast,simprocAttr,tte]
  refine ⟨⟨hlen.symm,by omega⟩,zg (by kernel_rfl),?_⟩
  exact zl hI k rfl h' trivial (by simp [hw,hst,hlen,rowsQR2,ends]) (by simp [hw,hst,hlen,rowsQR2,ends]) (by simp [hw,hst,hlen,rowsQR2,ends]) (by simp [hw,hst,hlen,rowsQR2,ends])
 ·obtain rfl:k=m:=by have:=of_decide_eq_false h;omega
  have hlen:=kg xs u (p+3) k
  subst hF
  rw [zY]
  refine zm [[0,0,0,0,0,0,0,0,0,6,6,7,1,1,15],[1]] rfl (by simp) (by simp [zc]<;>omega) ?_ (by first | rfl | simp [ends] | (subst_vars;simp [ends])) (by simp [ends]) (by simp [ends])
  rfl
end
section
open Go.Am
attribute [local simp, local push_cast] num boo str ints aV aTab zA aS aT aC y5 yJ yY zF aAgg zG aQs aQP
def oneA (xs types:List Int) (p:Nat):(Agg×Int)×Nat:=
 if 1+drawn xs p 6=1 then ((⟨1,zE⟩,1),p+1)
 else if 1+drawn xs p 6=4 then ((⟨4,(zK xs types (0+1) 1 (p+1)).1⟩,1),(zK xs types (0+1) 1 (p+1)).2)
 else ((⟨1+drawn xs p 6,(zK xs types (0+1) (1+drawn xs (p+1) 3) (p+2)).1⟩,if 1+drawn xs p 6=5\/1+drawn xs p 6=6 then 1+drawn xs (p+1) 3 else 1),(zK xs types (0+1) (1+drawn xs (p+1) 3) (p+2)).2)
def xE (xs types:List Int) (p:Nat):Nat->(List Agg×List Int)×Nat
 | 0=>(([],[]),p)
 | n+1=>(((xE xs types p n).1.1++[(oneA xs types (xE xs types p n).2).1.1],(xE xs types p n).1.2++[(oneA xs types (xE xs types p n).2).1.2]),(oneA xs types (xE xs types p n).2).2)
theorem uW (xs types:List Int) (p:Nat): ∀n,(xE xs types p n).1.1.length=n/\(xE xs types p n).1.2.length=n
 | 0=>⟨rfl,rfl⟩
 | n+1=>by
   have:=uW xs types p n
   simp only [xE,List.length_append,List.length_cons,List.length_nil]
   omega
def grpQ (es:List Ex) (gs:List Agg) (a:Qr):Qr:= .mk 10 ByteArray.empty 0 false zE es gs [] [] [a]
def qg (xs types:List Int) (a:Qr) (p:Nat):(Qr×List Int)×Nat:=
 let l:=y6 xs types (0+1) (drawn xs p 2).toNat (p+1)
 let g:=xE xs types (l.2+1) (1+drawn xs l.2 2).toNat
 ((grpQ l.1.1 g.1.1 a,l.1.2++g.1.2),g.2)
theorem rowsAg0 (gs:List Agg) (fn:Int):ze rAgg gs++[[D.lit (.int .i64 fn),D.lit (.int .i64 0),D.lit (.int .i64 0),D.lit (.int .i64 0),D.lit (.string ByteArray.empty),D.lit (.int .i64 0),D.sl 6 []]]=ze rAgg (gs++[⟨fn,zE⟩]):=by
 rw [<-zf];rfl
theorem xp (gs:List Agg) (fn:Int) (e:Ex):ze rAgg gs++[[D.lit (.int .i64 fn),D.lit (.int .i64 e.op),D.lit (.int .i64 e.type),D.lit (.int .i64 e.num),D.lit (.string e.text),D.lit (.int .i64 e.col),D.sl 6 (ze rE e.kids)]]=ze rAgg (gs++[⟨fn,e⟩]):=by
 rw [<-zf,yI,y5];rfl
theorem c_qgroup {xs:List Int} (hx:Tape xs) (s:Sch) (types:List Int) (ht:types.length<=1000) (a:Qr) (p:Nat):
 ACall Tryz.prog 90 [aQs s,aQ a,ints types] [(1000,zG xs p)] (aQP (qg xs types a p).1) [(1000,zG xs (qg xs types a p).2)]:=by
 have h2:=zv xs p (n:=2) (by omega)
 obtain ⟨n0,hn0⟩: ∃m:Nat,drawn xs p 2=m:=⟨(drawn xs p 2).toNat,by omega⟩
 have hcl:=c_qlist hx s types ht 0 (by omega) n0 (by omega) (p+1)
 have hll:=xU xs types (0+1) (p+1) n0
 obtain ⟨F,hF⟩: ∃F,qg xs types a p=F:=⟨_,rfl⟩
 rw [hF,zY]
 simp only [qg,hn0,Int.toNat_natCast] at hF
 refine zp mixed ttok Tryz.func90 Tryz.ntmps90 Tryz.results90 ?_
 simp -implicitDefEqProofs only [argT,aQs,↓zb,push_cast,simprocAttr,tte]
 refine zd [[],[]] [(1000,1000)] (c13 (n:=2) (p:=p) hx (by omega) (by omega)) ?_
 rw [hn0]
 simp -implicitDefEqProofs only [↓zb,push_cast,simprocAttr,tte]
 refine zd [[0,6],[0],[1],[0]] [(1000,1000),(501,700)] (hcl) ?_
 generalize y6 xs types (0+1) n0 (p+1)=L at hF hll ⊢
 obtain ⟨⟨es,own⟩,p1⟩:=L
 obtain ⟨hl1,hl2⟩:=hll
 have h2':=zv xs p1 (n:=2) (by omega)
 simp only at hF hl1 hl2 ⊢
 simp -implicitDefEqProofs only [↓zb,push_cast,simprocAttr,tte]
 refine ⟨zg (by kernel_rfl),?_⟩
 refine zd [[],[]] [(1000,1000)] (c13 (n:=2) (p:=p1) hx (by omega) (by omega)) ?_
 obtain ⟨m,hm⟩: ∃m:Nat,1+drawn xs p1 2=m:=⟨(1+drawn xs p1 2).toNat,by omega⟩
 have hwm:IntKind.i64.wrap (1+drawn xs p1 2)=m:=by rw [zJ (by omega) (by omega)];exact hm
 rw [hm,Int.toNat_natCast] at hF
 simp -implicitDefEqProofs only [hwm,↓zb,push_cast,simprocAttr,tte]
 refine zn mixed ttok 30 [2,3,6,8,29] [3,6,14] (by simp only [z6,ends,push_cast,simprocAttr];rfl) (by simp only [zB,zo,ends,push_cast,simprocAttr];rfl) m (fun _=>True) (fun k=>[(9,.vec 700 (n0+k))]) (fun k=>[(1000,zG xs (xE xs types (p1+1) k).2),(8,.var [num 10,str ByteArray.empty,num 0,boo false,num 0,num 0,num 0,str ByteArray.empty,num 0,.snil,.d (.sl 6 (ze rE es)),.vec 600 k,.snil,.snil,.vec 14 1]),(600,.vec 119 7 (ze rAgg (xE xs types (p1+1) k).1.1) 0),(700,.vec 3 1 (ze rI (own++(xE xs types (p1+1) k).1.2)) 0)]) trivial ?_ ?_
 ·exact (Weak.nilCellL 8 11 600 119 7 rfl rfl rfl).trans (Weak.keepL (by simp [cst,ends]) (by simp [cst,xE,ze,ends]) (by simp [cst,ends]))
 intro I hI k hk hi
 simp -implicitDefEqProofs only [cst,↓zb,push_cast,simprocAttr,tte]
 have hm3:m<=3:=by omega
 refine za (fun h=>?_) fun h=>?_
 ·have h':k<m:=by have:=of_decide_eq_true h;omega
  have hw:=zj h' (by omega)
  have hlen:=uW xs types (p1+1) k
  have hst:xE xs types (p1+1) (k+1)=(((xE xs types (p1+1) k).1.1++[(oneA xs types (xE xs types (p1+1) k).2).1.1],(xE xs types (p1+1) k).1.2++[(oneA xs types (xE xs types (p1+1) k).2).1.2]),(oneA xs types (xE xs types (p1+1) k).2).2):=rfl
  generalize xE xs types (p1+1) k=g at hlen hst ⊢
  obtain ⟨⟨gs,os⟩,p2⟩:=g
  obtain ⟨hg1,hg2⟩:=hlen
  simp only at hg1 hg2 hst ⊢
  have h6:=zv xs p2 (n:=6) (by omega)
  have hwf:IntKind.i64.wrap (1+drawn xs p2 6)=1+drawn xs p2 6:=zJ (by omega) (by omega)
  refine zd [[],[]] [(1000,1000)] (c13 (n:=6) (p:=p2) hx (by omega) (by omega)) ?_
  simp -implicitDefEqProofs only [hwf,↓zb,push_cast,simprocAttr,tte]
  generalize hone:oneA xs types p2=one1 at hst
  unfold oneA at hone
  generalize 1+drawn xs p2 6=fn at hone ⊢
  refine za (fun f1=>?_) fun f1=>?_
  ·have f1':fn=1:=by simpa using f1
   rw [if_pos f1'] at hone
   subst hone f1'
   refine ⟨⟨hg1.symm,by omega⟩,⟨by rw [List.length_append];omega,by rw [List.length_append];omega⟩,?_⟩
   exact zl hI k rfl h' trivial (by simp [hw,hst,hg1,hg2,hl1,hl2,rowsAg0,List.length_append,Nat.add_assoc,List.append_assoc,ends]) (by simp [hw,hst,hg1,hg2,hl1,hl2,rowsAg0,List.length_append,Nat.add_assoc,List.append_assoc,ends]) (by simp [hw,hst,hg1,hg2,hl1,hl2,rowsAg0,List.length_append,Nat.add_assoc,List.append_assoc,ends]) (by simp [hw,hst,hg1,hg2,hl1,hl2,rowsAg0,List.length_append,Nat.add_assoc,List.append_assoc,ends])
  have f1': ¬fn=1:=by simpa using f1
  rw [if_neg f1'] at hone
  refine za (fun f4=>?_) fun f4=>?_
  ·have f4':fn=4:=by simpa using f4
   rw [if_pos f4'] at hone
   have hce:=kH hx s types ht 0 (by omega) 1 (p2+1)
   rw [yb] at hce
   refine zd [[0,6],[1],[0],[0]] [(1000,1000)] (hce) ?_
   generalize zK xs types (0+1) 1 (p2+1)=e at hone ⊢
   subst hone f4'
   simp -implicitDefEqProofs only [↓zb,push_cast,simprocAttr,tte]
   refine ⟨⟨hg1.symm,by omega⟩,⟨by rw [List.length_append];omega,by rw [List.length_append];omega⟩,?_⟩
   exact zl hI k rfl h' trivial (by simp [hw,hst,hg1,hg2,hl1,hl2,xp,List.length_append,Nat.add_assoc,List.append_assoc,ends]) (by simp [hw,hst,hg1,hg2,hl1,hl2,xp,List.length_append,Nat.add_assoc,List.append_assoc,ends]) (by simp [hw,hst,hg1,hg2,hl1,hl2,xp,List.length_append,Nat.add_assoc,List.append_assoc,ends]) (by simp [hw,hst,hg1,hg2,hl1,hl2,xp,List.length_append,Nat.add_assoc,List.append_assoc,ends])
  have f4': ¬fn=4:=by simpa using f4
  rw [if_neg f4'] at hone
  have h3:=zv xs (p2+1) (n:=3) (by omega)
  have hwu:IntKind.i64.wrap (1+drawn xs (p2+1) 3)=1+drawn xs (p2+1) 3:=zJ (by omega) (by omega)
  refine zd [[],[]] [(1000,1000)] (c13 (n:=3) (p:=p2+1) hx (by omega) (by omega)) ?_
  simp -implicitDefEqProofs only [hwu,↓zb,push_cast,simprocAttr,tte]
  generalize 1+drawn xs (p2+1) 3=u at hone ⊢
  have hce:=kH hx s types ht 0 (by omega) u (p2+2)
  rw [yb] at hce
  refine zd [[0,6],[1],[0],[0]] [(1000,1000)] (hce) ?_
  generalize zK xs types (0+1) u (p2+2)=e at hone ⊢
  simp -implicitDefEqProofs only [↓zb,push_cast,simprocAttr,tte]
  refine za (fun f5=>?_) fun f5=>?_
  ·have f5':fn=5:=by simpa using f5
   rw [if_pos (.inl f5')] at hone
   subst hone
   refine ⟨⟨hg1.symm,by omega⟩,⟨by rw [List.length_append];omega,by rw [List.length_append];omega⟩,?_⟩
   exact zl hI k rfl h' trivial (by simp [hw,hst,hg1,hg2,hl1,hl2,xp,List.length_append,Nat.add_assoc,List.append_assoc,ends]) (by simp [hw,hst,hg1,hg2,hl1,hl2,xp,List.length_append,Nat.add_assoc,List.append_assoc,ends]) (by simp [hw,hst,hg1,hg2,hl1,hl2,xp,List.length_append,Nat.add_assoc,List.append_assoc,ends]) (by simp [hw,hst,hg1,hg2,hl1,hl2,xp,List.length_append,Nat.add_assoc,List.append_assoc,ends])
  have f5': ¬fn=5:=by simpa using f5
  refine za (fun f6=>?_) fun f6=>?_
  ·have f6':fn=6:=by simpa using f6
   rw [if_pos (.inr f6')] at hone
   subst hone
   refine ⟨⟨hg1.symm,by omega⟩,⟨by rw [List.length_append];omega,by rw [List.length_append];omega⟩,?_⟩
   exact zl hI k rfl h' trivial (by simp [hw,hst,hg1,hg2,hl1,hl2,xp,List.length_append,Nat.add_assoc,List.append_assoc,ends]) (by simp [hw,hst,hg1,hg2,hl1,hl2,xp,List.length_append,Nat.add_assoc,List.append_assoc,ends]) (by simp [hw,hst,hg1,hg2,hl1,hl2,xp,List.length_append,Nat.add_assoc,List.append_assoc,ends]) (by simp [hw,hst,hg1,hg2,hl1,hl2,xp,List.length_append,Nat.add_assoc,List.append_assoc,ends])
  ·have f6': ¬fn=6:=by simpa using f6
   rw [if_neg (fun h=>h.elim f5' f6')] at hone
   subst hone
   refine ⟨⟨hg1.symm,by omega⟩,⟨by rw [List.length_append];omega,by rw [List.length_append];omega⟩,?_⟩
   exact zl hI k rfl h' trivial (by simp [hw,hst,hg1,hg2,hl1,hl2,xp,List.length_append,Nat.add_assoc,List.append_assoc,ends]) (by simp [hw,hst,hg1,hg2,hl1,hl2,xp,List.length_append,Nat.add_assoc,List.append_assoc,ends]) (by simp [hw,hst,hg1,hg2,hl1,hl2,xp,List.length_append,Nat.add_assoc,List.append_assoc,ends]) (by simp [hw,hst,hg1,hg2,hl1,hl2,xp,List.length_append,Nat.add_assoc,List.append_assoc,ends])
 ·obtain rfl:k=m:=by have:=of_decide_eq_false h;omega
  have hlen:=uW xs types (p1+1) k
  subst hF
  rw [zY]
  refine zm [[0,0,0,0,0,0,0,0,0,6,6,7,1,1,15],[1]] rfl (by simp) (by simp [zc]<;>omega) ?_ (by first | rfl | simp [ends] | (subst_vars;simp [ends])) (by simp [ends]) (by simp [ends])
  have hka:ze rQ (grpQ es (xE xs types (p1+1) k).1.1 a).kids=[rQ a]:=rfl
  simp only [hka,yJ a]
  rfl
end
section
open Go.Am
attribute [local simp, local push_cast] num boo str ints aV aTab zA aS aT aC y5 yJ yY zF aAgg zG aQs aQP
def wH (xs cols types:List Int) (p:Nat):Nat->List Ex×Nat
 | 0=>([],p)
 | n+1=>((wH xs cols types p n).1++[(zK xs cols (0+1) (types.getD n default) (wH xs cols types p n).2).1],(zK xs cols (0+1) (types.getD n default) (wH xs cols types p n).2).2)
theorem ki (xs cols types:List Int) (p:Nat): ∀n,(wH xs cols types p n).1.length=n
 | 0=>rfl
 | n+1=>by simp only [wH,List.length_append,List.length_cons,List.length_nil,ki xs cols types p n]
def projQ (es:List Ex) (a:Qr):Qr:= .mk 4 ByteArray.empty 0 false zE es [] [] [] [a]
def setR (xs:List Int) (s:Sch) (a:Qr) (types:List Int) (p:Nat):Qr×Nat:=
 let b:=kL xs s (p+2)
 let l:=wH xs b.1.2 types b.2 types.length
 (.mk (6+drawn xs p 3) ByteArray.empty 0 (drawn xs (p+1) 2==1) zE [] [] [] [] [a,projQ l.1 b.1.1],l.2)
theorem c_qset {xs:List Int} (hx:Tape xs) (s:Sch) (hs:SmallS s) (h0:0<s.length) (types:List Int) (ht:types.length<=1000) (a:Qr) (p:Nat):
 ACall Tryz.prog 89 [aQs s,aQ a,ints types] [(1000,zG xs p)] (aQ (setR xs s a types p).1) [(1000,zG xs (setR xs s a types p).2)]:=by
 have h3:=zv xs p (n:=3) (by omega)
 obtain ⟨F,hF⟩: ∃F,setR xs s a types p=F:=⟨_,rfl⟩
 rw [hF,zY a]
 simp only [setR] at hF
 refine zp mixed ttok Tryz.func89 Tryz.ntmps89 Tryz.results89 ?_
 simp -implicitDefEqProofs only [argT,aQs,↓zb,push_cast,simprocAttr,tte]
 refine zd [[],[]] [(1000,1000)] (c13 (n:=3) (p:=p) hx (by omega) (by omega)) ?_
 simp -implicitDefEqProofs only [↓zb,push_cast,simprocAttr,tte]
 have hop:([6,7,8]:List Int).getD (drawn xs p 3).toNat 0=6+drawn xs p 3:=by
  have:drawn xs p 3=0\/drawn xs p 3=1\/drawn xs p 3=2:=by omega
  rcases this with h | h | h<;>rw [h]<;>rfl
 rw [hop]
 refine ⟨by omega,?_⟩
 refine zd [[],[]] [(1000,1000)] (c13 (n:=2) (p:=p+1) hx (by omega) (by omega)) ?_
 simp -implicitDefEqProofs only [↓zb,push_cast,simprocAttr,tte]
 refine ⟨zg (by kernel_rfl),?_⟩
 have hc:=c_qscan hx s hs h0 (p+2)
 simp only [aQP,zY] at hc
 refine zd [[0,6]] [(1000,1000)] (hc) ?_
 have hbl:(kL xs s (p+2)).1.2.length<=1000:=by
  have hd:=zv xs (p+2) (n:=(s.length:Int)) (by omega)
  have hm:=zi (l:=s) (n:=(drawn xs (p+2) s.length).toNat) (by omega)
  have:=(hs.tab _ hm).cols
  simpa [kL,zX] using this
 generalize kL xs s (p+2)=b at hF hbl ⊢
 obtain ⟨⟨b,cols⟩,p1⟩:=b
 simp only at hF hbl ⊢
 simp -implicitDefEqProofs only [↓zb,push_cast,simprocAttr,tte]
 have hcols:cols.length<=1000:=hbl
 refine zn mixed ttok 33 [3,4,6,7,9,10,31,32] [3,4,6,7,29] (by simp only [z6,ends,push_cast,simprocAttr];rfl) (by simp only [zB,zo,ends,push_cast,simprocAttr];rfl) types.length (fun _=>True) (fun _=>[]) (fun k=>[(1000,zG xs (wH xs cols types p1 k).2),(10,.var [num 4,str ByteArray.empty,num 0,boo false,num 0,num 0,num 0,str ByteArray.empty,num 0,.snil,.vec 600 k,.snil,.snil,.snil,.vec 29 1]),(600,.vec 52 6 (ze rE (wH xs cols types p1 k).1) 0)]) trivial ?_ ?_
 ·exact (Weak.nilCellL 10 10 600 52 6 rfl rfl rfl).trans (Weak.keepL (by simp [cst,ends]) (by simp [cst,wH,ze,ends]) (by simp [cst,ends]))
 intro I hI k hk hi
 simp -implicitDefEqProofs only [cst,↓zb,push_cast,simprocAttr,tte]
 refine za (fun h=>?_) fun h=>?_
 ·have h':k<types.length:=by have:=of_decide_eq_true h;omega
  have hw:=zj h' (by omega)
  have hlen:=ki xs cols types p1 k
  have hst:wH xs cols types p1 (k+1)=((wH xs cols types p1 k).1++[(zK xs cols (0+1) (types.getD k default) (wH xs cols types p1 k).2).1],(zK xs cols (0+1) (types.getD k default) (wH xs cols types p1 k).2).2):=rfl
  generalize wH xs cols types p1 k=r at hlen hst ⊢
  refine ⟨(by first | omega | trivial | (refine ⟨?_,?_⟩<;>first | omega | trivial | (refine ⟨?_,?_⟩<;>first | omega | trivial | (refine ⟨?_,?_⟩<;>first | omega | trivial | rfl)))),?_⟩
  have hce:=kH hx s cols hcols 0 (by omega) (types.getD k default) r.2
  rw [yb] at hce
  refine zd [[0,6],[1],[0],[0]] [(1000,1000)] (hce) ?_
  generalize zK xs cols (0+1) (types.getD k default) r.2=e at hst ⊢
  simp -implicitDefEqProofs only [↓zb,push_cast,simprocAttr,tte]
  refine ⟨⟨hlen.symm,by omega⟩,zg (by kernel_rfl),?_⟩
  exact zl hI k rfl h' trivial (by simp [hw,hst,hlen,zf,ends]) (by simp [hw,hst,hlen,zf,ends]) (by simp [hw,hst,hlen,zf,ends]) (by simp [hw,hst,hlen,zf,ends])
 ·obtain rfl:k=types.length:=by have:=of_decide_eq_false h;omega
  have hlen:=ki xs cols types p1 types.length
  subst hF
  refine ⟨hlen.symm,?_⟩
  generalize (wH xs cols types p1 types.length)=r at hlen ⊢
  have hka: ∀(op:Int) (al:Bool),aQ (.mk op ByteArray.empty 0 al zE [] [] [] [] [a,projQ r.1 b])= .agg [num op,str ByteArray.empty,num 0,boo al,num 0,num 0,num 0,str ByteArray.empty,num 0,.d (.sl 6 []),.d (.sl 6 []),.d (.sl 7 []),.d (.sl 1 []),.d (.sl 1 []),.d (.sl 15 [rQ a,rQ (projQ r.1 b)])]:=fun op al=>by rw [zY];rfl
  have hkb:rQ (projQ r.1 b)=[.lit (.int .i64 4),.lit (.string ByteArray.empty),.lit (.int .i64 0),.lit (.bool false),.lit (.int .i64 0),.lit (.int .i64 0),.lit (.int .i64 0),.lit (.string ByteArray.empty),.lit (.int .i64 0),.sl 6 [],.sl 6 (ze rE r.1),.sl 7 [],.sl 1 [],.sl 1 [],.sl 15 [rQ b]]:=by rw [yJ];rfl
  rw [hka,hkb,yJ a,yJ b]
  refine zr [0,0,0,0,0,0,0,0,0,6,6,7,1,1,15] rfl (by simp) (by simp [zc]<;>omega) ?_ (by first | rfl | simp [ends] | (subst_vars;simp [ends])) (by simp [ends]) (by simp [ends])
  rfl
end
section
open Go.Am
attribute [local simp, local push_cast] num boo str ints aV aTab zA aS aT aC y5 yJ yY zF aAgg zG aQs aQP
def selQ (e:Ex) (a:Qr):Qr:= .mk 3 ByteArray.empty 0 false e [] [] [] [] [a]
def joinQ (k:Int) (e:Ex) (a b:Qr):Qr:= .mk 5 ByteArray.empty k false e [] [] [] [] [a,b]
def distQ (a:Qr):Qr:= .mk 9 ByteArray.empty 0 false zE [] [] [] [] [a]
def stepQ (xs:List Int) (s:Sch) (a:Qr) (types:List Int) (n:Int) (p:Nat):(Qr×List Int)×Nat:=
 if n=0 then ((selQ (zK xs types (2+1) 2 p).1 a,types),(zK xs types (2+1) 2 p).2)
 else if n=1 then
  let l:=y6 xs types (1+1) (1+drawn xs p 2).toNat (p+1)
  ((projQ l.1.1 a,l.1.2),l.2)
 else if n=2 then
  let b:=vi xs s p
  if types.length+b.1.2.length>12 then ((a,types),b.2)
  else
   let k:=1+drawn xs b.2 6
   let e:=zK xs (types++b.1.2) (1+1) 2 (b.2+1)
   ((joinQ k e.1 a b.1.1,if k<5 then types++b.1.2 else types),e.2)
 else if n=3 then (((setR xs s a types p).1,types),(setR xs s a types p).2)
 else if n=4 then ((distQ a,types),p)
 else if n=5 then qg xs types a p
 else ((a,types),p)
def xy (xs:List Int) (s:Sch):Nat->Nat->(Qr×List Int)×Nat
 | 0,p=>vi xs s p
 | d+1,p=>stepQ xs s (xy xs s d p).1.1 (xy xs s d p).1.2 (drawn xs (xy xs s d p).2 8) ((xy xs s d p).2+1)
theorem scan_len {xs:List Int} {s:Sch} (hs:SmallS s) (h0:0<s.length) (p:Nat):(kL xs s p).1.2.length<=1000:=by
 have hd:=zv xs p (n:=(s.length:Int)) (by have:=hs.len;omega)
 have hm:=zi (l:=s) (n:=(drawn xs p s.length).toNat) (by omega)
 have:=(hs.tab _ hm).cols
 simpa [kL,zX] using this
theorem leaf_len {xs:List Int} {s:Sch} (hs:SmallS s) (h0:0<s.length) (p:Nat):(vi xs s p).1.2.length<=1000:=by
 unfold vi
 split
 ·exact scan_len hs h0 _
 ·simp
theorem step_len {xs:List Int} {s:Sch} (hs:SmallS s) (h0:0<s.length) (a:Qr) (types:List Int) (ht:types.length<=1000) (n:Int) (p:Nat):(stepQ xs s a types n p).1.2.length<=1000:=by
 unfold stepQ
 split
 ·exact ht
 split
 ·have h2:=zv xs p (n:=2) (by omega)
  have:=(xU xs types (1+1) (p+1) (1+drawn xs p 2).toNat).2
  simp only
  omega
 split
 ·simp only
  split
  ·exact ht
  ·rename_i h12
   simp only
   split
   ·rw [List.length_append];omega
   ·exact ht
 split
 ·exact ht
 split
 ·exact ht
 split
 ·have h2:=zv xs p (n:=2) (by omega)
  simp only [qg,List.length_append]
  have h3:=(xU xs types (0+1) (p+1) (drawn xs p 2).toNat).2
  have h4:=zv xs (y6 xs types (0+1) (drawn xs p 2).toNat (p+1)).2 (n:=2) (by omega)
  have h5:=(uW xs types ((y6 xs types (0+1) (drawn xs p 2).toNat (p+1)).2+1) (1+drawn xs (y6 xs types (0+1) (drawn xs p 2).toNat (p+1)).2 2).toNat).2
  omega
 ·exact ht
theorem query_len {xs:List Int} {s:Sch} (hs:SmallS s) (h0:0<s.length) (p:Nat): ∀d,(xy xs s d p).1.2.length<=1000
 | 0=>leaf_len hs h0 p
 | d+1=>step_len hs h0 _ _ (query_len hs h0 p d) _ _
end
section
open Go.Am
attribute [local simp, local push_cast] num boo str ints aV aTab zA aS aT aC y5 yJ yY zF aAgg zG aQs aQP
theorem c_qquery0 {xs:List Int} (hx:Tape xs) (s:Sch) (hs:SmallS s) (h0:0<s.length) (p:Nat):
 ACall Tryz.prog 46 [aQs s,num 1] [(1000,zG xs p)] (aQP (vi xs s p).1) [(1000,zG xs (vi xs s p).2)]:=by
 have hc:=c_qleaf hx s hs h0 p
 refine zp mixed ttok Tryz.func46 Tryz.ntmps46 Tryz.results46 ?_
 obtain ⟨F,hF⟩: ∃F,vi xs s p=F:=⟨_,rfl⟩
 rw [hF] at hc ⊢
 simp -implicitDefEqProofs only [argT,aQs,↓zb,push_cast,simprocAttr,tte]
 unfold aQP at hc
 rw [zY] at hc ⊢
 refine zd [[0,6]] [(1000,1000)] (hc) ?_
 simp -implicitDefEqProofs only [↓zb,push_cast,simprocAttr,tte]
 refine zm [[0,0,0,0,0,0,0,0,0,6,6,7,1,1,15],[1]] rfl (by simp) (by simp [zc]<;>omega) ?_ (by first | rfl | simp [ends] | (subst_vars;simp [ends])) (by simp [ends]) (by simp [ends])
 rfl
theorem c_qquery {xs:List Int} (hx:Tape xs) (s:Sch) (hs:SmallS s) (h0:0<s.length): ∀(d:Nat),d<=5-> ∀p:Nat,
 ACall Tryz.prog 46 [aQs s,num (d+1:Nat)] [(1000,zG xs p)] (aQP (xy xs s d p).1) [(1000,zG xs (xy xs s d p).2)]
 | 0,_,p=>c_qquery0 hx s hs h0 p
 | d+1,hd,p=>by
   have ih:=c_qquery hx s hs h0 d (by omega) p
   have hql:=query_len (xs:=xs) hs h0 p d
   obtain ⟨F,hF⟩: ∃F,xy xs s (d+1) p=F:=⟨_,rfl⟩
   rw [hF]
   rw [xy] at hF
   refine zp mixed ttok Tryz.func46 Tryz.ntmps46 Tryz.results46 ?_
   simp -implicitDefEqProofs only [argT,aQs,↓zb,push_cast,simprocAttr,tte]
   refine za (fun h=>absurd (of_decide_eq_true h) (by omega)) (fun _=>?_)
   have hwd:IntKind.i64.wrap ((d:Int)+1+1-1)=(d:Int)+1:=by rw [zJ (by omega) (by omega)];omega
   unfold aQP at ih
   rw [zY] at ih
   simp only [hwd]
   refine zd [[0,6],[0]] [(1000,1000)] (ih) ?_
   generalize xy xs s d p=r at hF hql ⊢
   obtain ⟨⟨a,types⟩,p1⟩:=r
   simp only at hF hql ⊢
   have h8:=zv xs p1 (n:=8) (by omega)
   simp -implicitDefEqProofs only [↓zb,push_cast,simprocAttr,tte]
   refine zd [[],[]] [(1000,1000)] (c13 (n:=8) (p:=p1) hx (by omega) (by omega)) ?_
   generalize drawn xs p1 8=n at hF h8 ⊢
   unfold stepQ at hF
   simp -implicitDefEqProofs only [↓zb,push_cast,simprocAttr,tte]
   refine za (fun n0=>?_) fun n0=>?_
   ·have n0':n=0:=by simpa using n0
    rw [if_pos n0'] at hF
    have hce:=kH hx s types hql 2 (by omega) 2 (p1+1)
    rw [yb] at hce
    refine zd [[0,6],[1],[0],[0]] [(1000,1000)] (hce) ?_
    generalize zK xs types (2+1) 2 (p1+1)=e at hF ⊢
    simp -implicitDefEqProofs only [↓zb,push_cast,simprocAttr,tte]
    refine ⟨zg (by kernel_rfl),?_⟩
    subst hF
    rw [zY]
    refine zm [[0,0,0,0,0,0,0,0,0,6,6,7,1,1,15],[1]] rfl (by simp) (by simp [zc]<;>omega) ?_ (by first | rfl | simp [ends] | (subst_vars;simp [ends])) (by simp [ends]) (by simp [ends])
    have hka:ze rQ (selQ e.1 a).kids=[rQ a]:=rfl
    simp only [hka,yJ a]
    rfl
   have n0': ¬n=0:=by simpa using n0
   rw [if_neg n0'] at hF
   refine za (fun n1=>?_) fun n1=>?_
   ·have n1':n=1:=by simpa using n1
    rw [if_pos n1'] at hF
    have h2:=zv xs (p1+1) (n:=2) (by omega)
    obtain ⟨m,hm⟩: ∃m:Nat,1+drawn xs (p1+1) 2=m:=⟨(1+drawn xs (p1+1) 2).toNat,by omega⟩
    have hwm:IntKind.i64.wrap (1+drawn xs (p1+1) 2)=m:=by rw [zJ (by omega) (by omega)];exact hm
    rw [hm] at hF
    have hcl:=c_qlist hx s types hql 1 (by omega) m (by omega) (p1+1+1)
    refine zd [[],[]] [(1000,1000)] (c13 (n:=2) (p:=p1+1) hx (by omega) (by omega)) ?_
    simp -implicitDefEqProofs only [hwm,↓zb,push_cast,simprocAttr,tte]
    refine zd [[0,6],[0],[1],[0]] [(1000,1000),(501,700)] (hcl) ?_
    have hll:=xU xs types (1+1) (p1+1+1) m
    simp only [Int.toNat_natCast] at hF
    generalize y6 xs types (1+1) m (p1+1+1)=L at hF hll ⊢
    obtain ⟨⟨es,own⟩,p2⟩:=L
    simp only at hF hll ⊢
    simp -implicitDefEqProofs only [↓zb,push_cast,simprocAttr,tte]
    refine ⟨zg (by kernel_rfl),?_⟩
    obtain ⟨hl1,hl2⟩:=hll
    subst hF
    rw [zY]
    refine zm [[0,0,0,0,0,0,0,0,0,6,6,7,1,1,15],[1]] rfl (by simp) (by simp [zc]<;>omega) ?_ (by first | rfl | simp [ends] | (subst_vars;simp [ends])) (by simp [ends]) (by simp [ends])
    have hka:ze rQ (projQ es a).kids=[rQ a]:=rfl
    simp only [hka,yJ a]
    rfl
   have n1': ¬n=1:=by simpa using n1
   rw [if_neg n1'] at hF
   refine za (fun n2=>?_) fun n2=>?_
   ·have n2':n=2:=by simpa using n2
    rw [if_pos n2'] at hF
    have hb:=c_qquery0 hx s hs h0 (p1+1)
    unfold aQP at hb
    rw [zY] at hb
    refine zd [[0,6],[0]] [(1000,1000)] (hb) ?_
    have hbl:=leaf_len (xs:=xs) hs h0 (p1+1)
    simp only at hF
    generalize vi xs s (p1+1)=B at hF hbl ⊢
    obtain ⟨⟨b,more⟩,p2⟩:=B
    simp only at hF hbl ⊢
    have hwl:IntKind.i64.wrap ((types.length:Int)+more.length)=(types.length:Int)+more.length:=zJ (by omega) (by omega)
    simp -implicitDefEqProofs only [hwl,↓zb,push_cast,simprocAttr,tte]
    refine za (fun n12=>?_) fun n12=>?_
    ·have n12':types.length+more.length>12:=by have:=of_decide_eq_true n12;omega
     rw [if_pos n12'] at hF
     subst hF
     rw [zY]
     refine zm [[0,0,0,0,0,0,0,0,0,6,6,7,1,1,15],[1]] rfl (by simp) (by simp [zc]<;>omega) ?_ (by first | rfl | simp [ends] | (subst_vars;simp [ends])) (by simp [ends]) (by simp [ends])
     rfl
    have n12': ¬types.length+more.length>12:=by have:=of_decide_eq_false n12;omega
    rw [if_neg n12'] at hF
    refine ⟨by omega,by omega,?_⟩
    have h6:=zv xs p2 (n:=6) (by omega)
    have hw6:IntKind.i64.wrap (1+drawn xs p2 6)=1+drawn xs p2 6:=zJ (by omega) (by omega)
    refine zd [[],[]] [(1000,1000)] (c13 (n:=6) (p:=p2) hx (by omega) (by omega)) ?_
    simp -implicitDefEqProofs only [hw6,↓zb,push_cast,simprocAttr,tte]
    refine ⟨zg (by kernel_rfl),?_⟩
    have hce:=kH hx s (types++more) (by rw [List.length_append];omega) 1 (by omega) 2 (p2+1)
    rw [yb] at hce
    have hra:ze rI (types++more)=ze rI types++ze rI more:=by unfold ze;rw [List.map_append]
    unfold ints at hce
    rw [hra] at hce
    have hadd:p2+1=p2+1:=rfl
    generalize zK xs (types++more) (1+1) 2 (p2+1)=e at hce hF
    obtain ⟨e1,e2⟩:=e
    refine zd [[0,6],[1],[0],[0]] [(1000,1000)] (hce) ?_
    simp -implicitDefEqProofs only [↓zb,push_cast,simprocAttr,tte]
    generalize 1+drawn xs p2 6=k at hF ⊢
    refine za (fun k5=>?_) fun k5=>?_
    ·have k5':k<5:=of_decide_eq_true k5
     simp only [if_pos k5'] at hF
     subst hF
     rw [zY]
     refine zm [[0,0,0,0,0,0,0,0,0,6,6,7,1,1,15],[1]] rfl (by simp) (by simp [zc]<;>omega) ?_ (by first | rfl | simp [ends] | (subst_vars;simp [ends])) (by simp [ends]) (by simp [ends])
     have hka:ze rQ (joinQ k e1 a b).kids=[rQ a,rQ b]:=rfl
     simp only [hka,yJ a,yJ b,zf]
     rfl
    have k5': ¬k<5:=of_decide_eq_false k5
    simp only [if_neg k5'] at hF
    subst hF
    rw [zY]
    refine zm [[0,0,0,0,0,0,0,0,0,6,6,7,1,1,15],[1]] rfl (by simp) (by simp [zc]<;>omega) ?_ (by first | rfl | simp [ends] | (subst_vars;simp [ends])) (by simp [ends]) (by simp [ends])
    have hka:ze rQ (joinQ k e1 a b).kids=[rQ a,rQ b]:=rfl
    simp only [hka,yJ a,yJ b]
    rfl
   have n2': ¬n=2:=by simpa using n2
   rw [if_neg n2'] at hF
   refine za (fun n3=>?_) fun n3=>?_
   ·have n3':n=3:=by simpa using n3
    rw [if_pos n3'] at hF
    have hce:=c_qset hx s hs h0 types hql a (p1+1)
    generalize setR xs s a types (p1+1)=r at hce hF
    obtain ⟨r1,r3⟩:=r
    subst hF
    simp only at hce
    rw [zY r1,zY a] at hce
    refine zd [[0,6],[0,0,0,0,0,0,0,0,0,6,6,7,1,1,15],[1]] [(1000,1000)] (hce) ?_
    simp -implicitDefEqProofs only [↓zb,push_cast,simprocAttr,tte]
    rw [zY]
    refine zm [[0,0,0,0,0,0,0,0,0,6,6,7,1,1,15],[1]] rfl (by simp) (by simp [zc]<;>omega) ?_ (by first | rfl | simp [ends] | (subst_vars;simp [ends])) (by simp [ends]) (by simp [ends])
    rfl
   have n3': ¬n=3:=by simpa using n3
   rw [if_neg n3'] at hF
   refine za (fun n4=>?_) fun n4=>?_
   ·have n4':n=4:=by simpa using n4
    rw [if_pos n4'] at hF
    subst hF
    rw [zY]
    refine zm [[0,0,0,0,0,0,0,0,0,6,6,7,1,1,15],[1]] rfl (by simp) (by simp [zc]<;>omega) ?_ (by first | rfl | simp [ends] | (subst_vars;simp [ends])) (by simp [ends]) (by simp [ends])
    have hka:ze rQ (distQ a).kids=[rQ a]:=rfl
    simp only [hka,yJ a]
    rfl
   have n4': ¬n=4:=by simpa using n4
   rw [if_neg n4'] at hF
   refine za (fun n5=>?_) fun n5=>?_
   ·have n5':n=5:=by simpa using n5
    rw [if_pos n5'] at hF
    have hce:=c_qgroup hx s types hql a (p1+1)
    generalize qg xs types a (p1+1)=r at hce hF
    obtain ⟨⟨r1,r2⟩,r3⟩:=r
    subst hF
    unfold aQP at hce
    rw [zY r1,zY a] at hce
    refine zd [[0,6],[0,0,0,0,0,0,0,0,0,6,6,7,1,1,15],[1]] [(1000,1000)] (hce) ?_
    simp -implicitDefEqProofs only [↓zb,push_cast,simprocAttr,tte]
    rw [zY]
    refine zm [[0,0,0,0,0,0,0,0,0,6,6,7,1,1,15],[1]] rfl (by simp) (by simp [zc]<;>omega) ?_ (by first | rfl | simp [ends] | (subst_vars;simp [ends])) (by simp [ends]) (by simp [ends])
    rfl
   have n5': ¬n=5:=by simpa using n5
   rw [if_neg n5'] at hF
   subst hF
   rw [zY]
   refine zm [[0,0,0,0,0,0,0,0,0,6,6,7,1,1,15],[1]] rfl (by simp) (by simp [zc]<;>omega) ?_ (by first | rfl | simp [ends] | (subst_vars;simp [ends])) (by simp [ends]) (by simp [ends])
   rfl
end
section
open Go.Am
attribute [local simp, local push_cast] num boo str ints aV aTab zA aS aT aC y5 yJ yY zF aAgg zG aQs aQP
theorem kk (op ty n:Int) (b:ByteArray) (c:Int):Ok12 (.mk op ty n b c []):= .mk _ (by simp [Ex.kids]) (by simp [Ex.kids])
theorem ok_const (v:Val) (t:Int):Ok12 (jT v t):=by
 unfold jT
 repeat' split
 all_goals exact kk _ _ _ _ _
theorem ok_leafM (xs types:List Int) (typ:Int) (p:Nat):Ok12 (w9 xs types typ p).1:=by
 unfold w9
 repeat' split
 all_goals first | exact kk _ _ _ _ _ | exact ok_const _ _
theorem ok_sev {f:Int->Nat->Ex×Nat} (hf: ∀t p,Ok12 (f t p).1): ∀(l:List Int) (p:Nat),∀e∈(sevM f l p).1,Ok12 e
 | [],p=>by simp [sevM]
 | t::l,p=>by
   intro e he
   rw [sevM] at he
   rcases List.mem_cons.1 he with h | h
   ·rw [h];exact hf t p
   ·exact ok_sev hf l _ e h
theorem ok_mk {f:Int->Nat->Ex×Nat} (hf: ∀t p,Ok12 (f t p).1) (op:Int) {ts:List Int} (p:Nat) (h:ts.length<=12):Ok12 (mkM f op ts p).1:=by
 refine .mk _ ?_ ?_
 ·simp only [mkM,Ex.kids,ul];exact h
 ·simp only [mkM,Ex.kids];exact ok_sev hf ts p
theorem ok_bool {xs:List Int} {f:Int->Nat->Ex×Nat} (hf: ∀t p,Ok12 (f t p).1) (p:Nat):Ok12 (xD xs f p).1:=by
 unfold xD
 simp only
 repeat' split
 all_goals exact ok_mk hf _ _ (by simp)
theorem ok_op {xs:List Int} {f:Int->Nat->Ex×Nat} (hf: ∀t p,Ok12 (f t p).1) (typ:Int) (p:Nat):Ok12 (opM xs f typ p).1:=by
 unfold opM
 simp only
 repeat' split
 all_goals first | exact ok_mk hf _ _ (by simp) | exact ok_bool hf _
theorem jk (xs types:List Int): ∀(d:Nat) (typ:Int) (p:Nat),Ok12 (zK xs types d typ p).1
 | 0,typ,p=>ok_leafM xs types typ p
 | d+1,typ,p=>by
   rw [zK]
   repeat' split
   ·exact ok_leafM ..
   ·exact ok_leafM ..
   ·exact ok_op (jk xs types d) typ _
theorem okq {op k:Int} {tb:ByteArray} {al:Bool} {c:Ex} {es:List Ex} {gs:List Agg} {ty:List Int} {rs:List (List Val)} {ks:List Qr} (hc:Ok12 c) (he:es.length<=1000) (hE: ∀e∈es,Ok12 e)
 (hg:gs.length<=1000) (hG: ∀a∈gs,Ok12 a.arg) (ht:ty.length<=1000) (hr:rs.length<=1000) (hR: ∀r∈rs,r.length<=1000) (hk:ks.length<=1000) (hK: ∀k∈ks,OkQ k):OkQ (.mk op tb k al c es gs ty rs ks):=
 .mk _ ⟨hc,he,hE,hg,hG,ht,hr,hR,hk⟩ hK
theorem ok_list (xs types:List Int) (d:Nat) (p:Nat): ∀n,∀e∈(y6 xs types d n p).1.1,Ok12 e
 | 0=>by simp [y6]
 | n+1=>by
   intro e he
   simp only [y6] at he
   rcases List.mem_append.1 he with h | h
   ·exact ok_list xs types d p n e h
   ·rw [List.mem_singleton.1 h];exact jk ..
theorem ok_proj (xs cols types:List Int) (p:Nat): ∀n,∀e∈(wH xs cols types p n).1,Ok12 e
 | 0=>by simp [wH]
 | n+1=>by
   intro e he
   simp only [wH] at he
   rcases List.mem_append.1 he with h | h
   ·exact ok_proj xs cols types p n e h
   ·rw [List.mem_singleton.1 h];exact jk ..
theorem ok_oneA (xs types:List Int) (p:Nat):Ok12 (oneA xs types p).1.1.arg:=by
 unfold oneA
 repeat' split
 all_goals first | exact kk _ _ _ _ _ | exact jk ..
theorem ok_aggs (xs types:List Int) (p:Nat): ∀n,∀a∈(xE xs types p n).1.1,Ok12 a.arg
 | 0=>by simp [xE]
 | n+1=>by
   intro e he
   simp only [xE] at he
   rcases List.mem_append.1 he with h | h
   ·exact ok_aggs xs types p n e h
   ·rw [List.mem_singleton.1 h];exact ok_oneA ..
theorem ok_zE:Ok12 zE:=kk _ _ _ _ _
theorem okq_scan (b:ByteArray):OkQ (wq b):=okq ok_zE (by simp) (by simp) (by simp) (by simp) (by simp) (by simp) (by simp) (by simp) (by simp)
theorem rowsR_two (xs:List Int) (u:Int) (p:Nat): ∀n,∀r∈(wt xs u n p).1,r.length=2
 | 0=>by simp [wt]
 | n+1=>by
   intro r hr
   simp only [wt] at hr
   rcases List.mem_append.1 hr with h | h
   ·exact rowsR_two xs u p n r h
   ·rw [List.mem_singleton.1 h];rfl
theorem okq_leaf (xs:List Int) (s:Sch) (p:Nat):OkQ (vi xs s p).1.1:=by
 unfold vi
 split
 ·exact okq_scan _
 ·have h3:=zv xs (p+2) (n:=3) (by omega)
  exact okq ok_zE (by simp) (by simp) (by simp) (by simp) (by simp) (by rw [kg];omega) (fun r hr=>by rw [rowsR_two _ _ _ _ r hr];omega) (by simp) (by simp)
theorem okq_step {xs:List Int} {s:Sch} (hs:SmallS s) (h0:0<s.length) (a:Qr) (ha:OkQ a) (types:List Int) (ht:types.length<=1000) (n:Int) (p:Nat):OkQ (stepQ xs s a types n p).1.1:=by
 have ha1: ∀k∈[a],OkQ k:=fun k hk=>by rw [List.mem_singleton.1 hk];exact ha
 unfold stepQ
 split
 ·exact okq (jk ..) (by simp) (by simp) (by simp) (by simp) (by simp) (by simp) (by simp) (by simp) ha1
 split
 ·have h2:=zv xs p (n:=2) (by omega)
  have hl:=xU xs types (1+1) (p+1) (1+drawn xs p 2).toNat
  exact okq ok_zE (by omega) (ok_list _ _ _ _ _) (by simp) (by simp) (by simp) (by simp) (by simp) (by simp) ha1
 split
 ·simp only
  split
  ·exact ha
  ·refine okq (jk ..) (by simp) (by simp) (by simp) (by simp) (by simp) (by simp) (by simp) (by simp) (fun k hk=>?_)
   rcases List.mem_cons.1 hk with h | h
   ·rw [h];exact ha
   ·rw [List.mem_singleton.1 h];exact okq_leaf ..
 split
 ·refine okq ok_zE (by simp) (by simp) (by simp) (by simp) (by simp) (by simp) (by simp) (by simp) (fun k hk=>?_)
  rcases List.mem_cons.1 hk with h | h
  ·rw [h];exact ha
  ·rw [List.mem_singleton.1 h]
   exact okq ok_zE (by rw [ki];exact ht) (ok_proj _ _ _ _ _) (by simp) (by simp) (by simp) (by simp) (by simp) (by simp) (fun k hk=>by rw [List.mem_singleton.1 hk];exact okq_scan _)
 split
 ·exact okq ok_zE (by simp) (by simp) (by simp) (by simp) (by simp) (by simp) (by simp) (by simp) ha1
 split
 ·have h2:=zv xs p (n:=2) (by omega)
  have h3:=(xU xs types (0+1) (p+1) (drawn xs p 2).toNat).1
  have h4:=zv xs (y6 xs types (0+1) (drawn xs p 2).toNat (p+1)).2 (n:=2) (by omega)
  have h5:=(uW xs types ((y6 xs types (0+1) (drawn xs p 2).toNat (p+1)).2+1) (1+drawn xs (y6 xs types (0+1) (drawn xs p 2).toNat (p+1)).2 2).toNat).1
  exact okq ok_zE (by omega) (ok_list _ _ _ _ _) (by omega) (ok_aggs _ _ _ _) (by simp) (by simp) (by simp) (by simp) ha1
 ·exact ha
theorem okq_query {xs:List Int} {s:Sch} (hs:SmallS s) (h0:0<s.length) (p:Nat): ∀d,OkQ (xy xs s d p).1.1
 | 0=>okq_leaf xs s p
 | d+1=>okq_step hs h0 _ (okq_query hs h0 p d) _ (query_len hs h0 p d) _ _
end
section
open Go.Am
attribute [local simp, local push_cast] num boo str ints aV aTab zA aS aT aC y5 yJ yY zF aAgg zG aQs aQP
def zQ:Qr:= .mk 0 ByteArray.empty 0 false zE [] [] [] [] []
def pairQ (x:Qr×Int):A:= .tup [aQ x.1,num x.2]
def q8 (xs:List Int) (s:Sch) (deep:Int):Qr×Int:=
 if yq s≠0 then (zQ,yq s)
 else if s.length=0\/deep<1\/6<deep then (zQ,1)
 else if (jw s (xy (xs.take 400) s (deep-1).toNat 0).1.1).2≠0 then (wq (s.getD 0 default).name,0)
 else ((xy (xs.take 400) s (deep-1).toNat 0).1.1,0)
theorem c_rquery {xs:List Int} {s:Sch} {deep:Int} (hx: ∀x∈xs,i64 x) (hS:SmallS s):
 ACall Tryz.prog 13 [aS s,num deep,ints xs] [] (pairQ (q8 xs s deep)) []:=by
 obtain ⟨R,hR⟩: ∃R,q8 xs s deep=R:=⟨_,rfl⟩
 rw [hR]
 unfold q8 at hR
 have hsl:=hS.len
 refine zp mixed ttok Tryz.func13 Tryz.ntmps13 Tryz.results13 ?_
 simp -implicitDefEqProofs only [argT,↓zb,push_cast,simprocAttr,tte]
 refine zd [[6]] [] (c_svalid s hS) ?_
 simp -implicitDefEqProofs only [↓zb,push_cast,simprocAttr,tte]
 refine za (fun kv=>?_) fun kv=>?_
 ·have kv':yq s≠0:=by simpa using kv
  rw [if_pos kv'] at hR
  subst hR
  simp only [pairQ,zQ,zE,zY]
  refine zm [[0,0,0,0,0,0,0,0,0,6,6,7,1,1,15],[]] rfl (by simp) (by simp [zc]<;>omega) ?_ (by first | rfl | simp [ends] | (subst_vars;simp [ends])) (by simp [ends]) (by simp [ends])
  rfl
 have kv':yq s=0:=by simpa using kv
 rw [if_neg (by simp [kv'])] at hR
 have hbad:s.length=0\/deep<1\/6<deep->pairQ R= .tup [.agg [num 0,str ByteArray.empty,num 0,boo false,num 0,num 0,num 0,str ByteArray.empty,num 0,.d (.sl 6 []),.d (.sl 6 []),.d (.sl 7 []),.d (.sl 1 []),.d (.sl 1 []),.d (.sl 15 [])],num 1]:=fun h=>by
  rw [if_pos h] at hR
  subst hR
  simp only [pairQ,zQ,zE,zY]
  rfl
 refine za (fun b1=>?_) fun b1=>?_
 ·have b1':s.length=0:=by have:=eq_of_beq b1;omega
  rw [hbad (.inl b1')]
  refine zm [[0,0,0,0,0,0,0,0,0,6,6,7,1,1,15],[]] rfl (by simp) (by simp [zc]<;>omega) ?_ (by first | rfl | simp [ends] | (subst_vars;simp [ends])) (by simp [ends]) (by simp [ends])
  rfl
 refine za (fun b2=>?_) fun b2=>?_
 ·have b2':deep<1:=of_decide_eq_true b2
  rw [hbad (.inr (.inl b2'))]
  refine zm [[0,0,0,0,0,0,0,0,0,6,6,7,1,1,15],[]] rfl (by simp) (by simp [zc]<;>omega) ?_ (by first | rfl | simp [ends] | (subst_vars;simp [ends])) (by simp [ends]) (by simp [ends])
  rfl
 refine za (fun b3=>?_) fun b3=>?_
 ·have b3':6<deep:=of_decide_eq_true b3
  rw [hbad (.inr (.inr b3'))]
  refine zm [[0,0,0,0,0,0,0,0,0,6,6,7,1,1,15],[]] rfl (by simp) (by simp [zc]<;>omega) ?_ (by first | rfl | simp [ends] | (subst_vars;simp [ends])) (by simp [ends]) (by simp [ends])
  rfl
 clear hbad
 have b1':0<s.length:=by have:=beq_eq_false_iff_ne.1 b1;omega
 have b2': ¬deep<1:=of_decide_eq_false b2
 have b3': ¬6<deep:=of_decide_eq_false b3
 rw [if_neg (by omega)] at hR
 obtain ⟨d,hd⟩: ∃d:Nat,deep=(d+1:Nat):=⟨(deep-1).toNat,by omega⟩
 subst hd
 have hdd:(((d+1:Nat):Int)-1).toNat=d:=by omega
 rw [hdd] at hR
 refine zd [[1]] [(9,34)] (c10 (xs:=xs)) ?_
 have hx:=kd hx
 generalize xs.take 400=xs at hx hR ⊢
 simp -implicitDefEqProofs only [↓zb,push_cast,simprocAttr,tte]
 have hq:=c_qquery hx s hS b1' d (by omega) 0
 have hok:=okq_query (xs:=xs) hS b1' 0 d
 generalize xy xs s d 0=r at hq hok hR
 obtain ⟨⟨q,types⟩,p⟩:=r
 simp only at hok hR
 have ht:=c_Type s hS q hok
 unfold aQP at hq
 rw [zY] at hq ht
 refine zd [[0,6],[0]] [(1000,34)] (hq) ?_
 simp -implicitDefEqProofs only [↓zb,push_cast,simprocAttr,tte]
 refine ⟨zg (by kernel_rfl),?_⟩
 obtain ⟨T,hT⟩: ∃T,jw s q=T:=⟨_,rfl⟩
 rw [hT] at ht hR
 unfold zx at ht
 refine zd [[6],[0,0,0,0,0,0,0,0,0,6,6,7,1,1,15]] [] (ht) ?_
 simp -implicitDefEqProofs only [↓zb,push_cast,simprocAttr,tte]
 refine za (fun k1=>?_) fun k1=>?_
 ·have k1':T.2≠0:=by simpa using k1
  rw [if_pos k1'] at hR
  subst hR
  unfold pairQ
  rw [aQ_scan]
  refine ⟨by omega,?_⟩
  refine zm [[0,0,0,0,0,0,0,0,0,6,6,7,1,1,15],[]] rfl (by simp) (by simp [zc]<;>omega) ?_ (by first | rfl | simp [ends] | (subst_vars;simp [ends])) (by simp [ends]) (by simp [ends])
  rfl
 have k1': ¬T.2≠0:=by simpa using k1
 rw [if_neg k1'] at hR
 subst hR
 unfold pairQ
 rw [zY]
 refine zm [[0,0,0,0,0,0,0,0,0,6,6,7,1,1,15],[]] rfl (by simp) (by simp [zc]<;>omega) ?_ (by first | rfl | simp [ends] | (subst_vars;simp [ends])) (by simp [ends]) (by simp [ends])
 rfl
end
end Go.Proofs.YtampbaaiddbacaaGreatDoor
