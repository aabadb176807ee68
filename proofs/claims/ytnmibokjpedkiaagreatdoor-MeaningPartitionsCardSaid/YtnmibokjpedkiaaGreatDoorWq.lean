/- Made queries answer as specified (part Wq) -/
import Derived.Test.YtnmibokjpedkiaaGreatDoorWo
set_option maxRecDepth 100000
set_option maxHeartbeats 4000000
set_option linter.all false
namespace Go.Proofs.YtnmibokjpedkiaaGreatDoor
open Go.Am
section
attribute [local simp, local push_cast] Ta zR yM
def ur (xs:List Int) (q n:Nat):List Int:=(List.range n).map fun i=>1+drawn xs (q+i) 3
theorem typesTo_succ (xs:List Int) (q n:Nat):ur xs q (n+1)=ur xs q n++[1+drawn xs (q+n) 3]:=by simp [ur,U8]
theorem typesTo_len (xs:List Int) (q n:Nat):(ur xs q n).length=n:=by simp [ur]
theorem typesTo_kn (xs:List Int) (q n:Nat): ∀t∈ur xs q n,Kn t:=by
 intro t h;simp only [ur,Yv] at h;obtain ⟨i,_,rfl⟩:=h;have:=zu xs (q+i) (n:=3) Za;omega
def yk (xs:List Int) (m:Int) (p:Nat):List Int×Nat:=(ur xs (p+1) (1+drawn xs p m).toNat,p+1+(1+drawn xs p m).toNat)
theorem ud (xs:List Int) {m:Int} (hm:0<m) (p:Nat):(∀t∈(yk xs m p).1,Kn t)/\(yk xs m p).1.length<=m.toNat/\(yk xs m p).2<=p+1+m.toNat:=by
 have:=zu xs p hm;exact ⟨fun t h=>typesTo_kn _ _ _ t h,by rw [yk,typesTo_len];omega,by simp only [yk];omega⟩
theorem NQ{p:Prop}(h:p:=by
 refine ⟨⟨hl.symm,Za⟩,?_⟩;exact zp hI n rfl h' trivial (by simp [hw,hs,hl,zf,Y6,ends]) (by simp [hw,hs,hl,zf,Y6,ends]) (by simp [hw,hs,hl,zf,Y6,ends]) (by simp [hw,hs,hl,zf,Y6,ends])):p:=h
theorem c_mtypes {xs:List Int} {m:Int} {p:Nat} (hx:ww xs) (hm:0<m) (hm2:m<=100) (hp:p<=1000000000000000000):
 ACall Tryz.prog 30 [.ptr 1000 0,num m] [(1000,zR xs p)] (ints (yk xs m p).1) [(1000,zR xs (yk xs m p).2)]:=by
 refine zn mixed ttok Tryz.func30 Tryz.ntmps30 Tryz.results30 ?_;generalize hr:ints (yk xs m p).1=R;generalize hr2:zR xs (yk xs m p).2=R2;refine Zn ?_;refine zg [[],[]] [(1000,1000)] (zS (n:=m) (p:=p) hx Za Za Za) ?_;have hd:=zu xs p hm;obtain ⟨N,hN⟩: ∃N:Nat,1+drawn xs p m=N:=⟨(1+drawn xs p m).toNat,Za⟩
 have w1:IntKind.i64.wrap (1+drawn xs p m)=N:=by rw [zt (by omega) (by omega)];exact hN
 have hM:yk xs m p=(ur xs (p+1) N,p+1+N):=by rw [yk,hN,YA]
 rw [hM] at hr hr2;refine Zy w1 ?_;refine zq mixed ttok 7 [0,5] [] Zv Zw N (fun _=>True) (fun n=>[(6,.vec 500 n)]) (fun n=>[(500,.vec 3 1 (zd rI (ur xs (p+1) n)) 0),(1000,zR xs (p+1+n))]) trivial ?_ ?_
 ·exact (YU 6 500 3 1 rfl rfl).trans (Ya Zh (by simp [cst,ur,zd,ends]) Zh)
 intro I hI n hn hi;have hl:=typesTo_len xs (p+1) n;have hs:=typesTo_succ xs (p+1) n;refine Zx ?_;refine za (fun h=>?_) fun h=>?_
 ·have h':n<N:=Zq h;have hw:=zh h' Za;refine zg [[],[]] [(1000,1000)] (zS (n:=3) (p:=p+1+n) hx Za Za Za) ?_;have hd3:=zu xs (p+1+n) (n:=3) Za;have w3:IntKind.i64.wrap (1+drawn xs (p+1+n) 3)=1+drawn xs (p+1+n) 3:=zt Za Za;refine Zy w3 ?_;exact NQ
 ·obtain rfl:n=N:=Zp h;refine zv [1] rfl ZN (by simp [zc,hl]) ?_ ZO ?_ Zb
  ·rw [<-hr];rfl
  ·rw [<-hr2];simp [ends]
def rowTo (xs types:List Int) (p n:Nat):List Val:=(List.range n).map fun i=>u9 xs (types.getD i default) true (p+i)
theorem rowTo_succ (xs types:List Int) (p n:Nat):rowTo xs types p (n+1)=rowTo xs types p n++[u9 xs (types.getD n default) true (p+n)]:=by simp [rowTo,U8]
theorem rowTo_len (xs types:List Int) (p n:Nat):(rowTo xs types p n).length=n:=by simp [rowTo]
def rowM (xs types:List Int) (p:Nat):List Val:=rowTo xs types p types.length
theorem c_mrow {xs types:List Int} {p:Nat} (hx:ww xs) (ht:types.length<=1000) (hk: ∀t∈types,Kn t) (hp:p<=1000000000000000000):
 ACall Tryz.prog 31 [.ptr 1000 0,ints types] [(1000,zR xs p)] (.d (.sl 3 (zd rV (rowM xs types p)))) [(1000,zR xs (p+types.length))]:=by
 refine zn mixed ttok Tryz.func31 Tryz.ntmps31 Tryz.results31 ?_;generalize hr:A.d (.sl 3 (zd rV (rowM xs types p)))=R;generalize hr2:zR xs (p+types.length)=R2;refine Zn ?_;refine zq mixed ttok 6 [0,1] [] Zv Zw types.length (fun _=>True) (fun n=>[(5,.vec 500 n)]) (fun n=>[(500,.vec 71 3 (zd rV (rowTo xs types p n)) 0),(1000,zR xs (p+n))]) trivial ?_ ?_
 ·exact (YU 5 500 71 3 rfl rfl).trans (Ya Zh (by simp [cst,rowTo,zd,ends]) Zh)
 intro I hI n hn hi;have hl:=rowTo_len xs types p n;have hs:=rowTo_succ xs types p n;refine Zx ?_;refine za (fun h=>?_) fun h=>?_
 ·have h':n<types.length:=Zq h;have hw:=zh h' Za;refine ⟨Zs,?_⟩;refine zg [[],[],[]] [(1000,1000)] (c_mvalue (k:=types.getD n default) (nl:=true) (p:=p+n) hx (hk _ (zk h')) Za) ?_;refine Zf ?_;exact NQ
 ·obtain rfl:n=types.length:=Zp h;refine zv [3] rfl ZN (by simp [zc,hl]) ?_ ZO ?_ Zb
  ·rw [<-hr];rfl
  ·rw [<-hr2];simp [ends]
end
section
attribute [local simp, local push_cast] Ta zR yx yA yM
def eZ:Ex:= .mk 0 0 0 ByteArray.empty 0 []
def aQT (x:Qr×List Int):A:= .tup [aQ x.1,ints x.2]
theorem c_ex2 {xs types:List Int} (hx:ww xs) (ht:types.length<=1000) {k:Int} {p:Nat} (hk:Kn k) (hp:p<=100000000000000000):
 ACall Tryz.prog 19 [.ptr 1000 0,ints types,num k,num 2] [(1000,zR xs p)] (aE (ye xs types 2 k p).1) [(1000,zR xs (ye xs types 2 k p).2)]:=
 qJ hx ht 1 Za k p hk (by have:wE (1+1)=20:=rfl;omega)
theorem c_ex3 {xs types:List Int} (hx:ww xs) (ht:types.length<=1000) {k:Int} {p:Nat} (hk:Kn k) (hp:p<=100000000000000000):
 ACall Tryz.prog 19 [.ptr 1000 0,ints types,num k,num 3] [(1000,zR xs p)] (aE (ye xs types 3 k p).1) [(1000,zR xs (ye xs types 3 k p).2)]:=
 qJ hx ht 2 Za k p hk (by have:wE (2+1)=110:=rfl;omega)
theorem ex2_q (xs types:List Int) (k:Int) (p:Nat):(ye xs types 2 k p).2<=p+20:=jX xs types 2 k p
theorem ex3_q (xs types:List Int) (k:Int) (p:Nat):(ye xs types 3 k p).2<=p+110:=jX xs types 3 k p
def yJ (xs types:List Int) (p:Nat):Nat->(List Ex×List Int)×Nat
 | 0=>(([],[]),p)
 | n+1=>(((yJ xs types p n).1.1++[(ye xs types 2 (1+drawn xs (yJ xs types p n).2 3) ((yJ xs types p n).2+1)).1],
    (yJ xs types p n).1.2++[1+drawn xs (yJ xs types p n).2 3]),(ye xs types 2 (1+drawn xs (yJ xs types p n).2 3) ((yJ xs types p n).2+1)).2)
theorem uW (xs types:List Int) (p:Nat): ∀n,((yJ xs types p n).1.1.length=n/\(yJ xs types p n).1.2.length=n)/\(yJ xs types p n).2<=p+21 * n
 | 0=>⟨⟨rfl,rfl⟩,Ys _⟩
 | n+1=>by
   have:=uW xs types p n;have:=ex2_q xs types (1+drawn xs (yJ xs types p n).2 3) ((yJ xs types p n).2+1);simp only [yJ,Yb,Y5,Ui];omega
def magg (xs types:List Int) (p:Nat):(Agg×Int)×Nat:=
 if 1+drawn xs p 6=1 then ((⟨1,eZ⟩,1),p+2)
 else if 1+drawn xs p 6=4 then ((⟨4,(ye xs types 2 1 (p+2)).1⟩,1),(ye xs types 2 1 (p+2)).2)
 else ((⟨1+drawn xs p 6,(ye xs types 2 (1+drawn xs (p+1) 3) (p+2)).1⟩,if 1+drawn xs p 6=5\/1+drawn xs p 6=6 then 1+drawn xs (p+1) 3 else 1),(ye xs types 2 (1+drawn xs (p+1) 3) (p+2)).2)
theorem magg_q (xs types:List Int) (p:Nat):(magg xs types p).2<=p+22:=by
 have h1:=ex2_q xs types 1 (p+2);have h2:=ex2_q xs types (1+drawn xs (p+1) 3) (p+2);unfold magg
 split
 ·simp
 split<;>simp only<;>omega
def xN (xs types:List Int) (p:Nat):Nat->(List Agg×List Int)×Nat
 | 0=>(([],[]),p)
 | n+1=>(((xN xs types p n).1.1++[(magg xs types (xN xs types p n).2).1.1],(xN xs types p n).1.2++[(magg xs types (xN xs types p n).2).1.2]),(magg xs types (xN xs types p n).2).2)
theorem uU (xs types:List Int) (p:Nat): ∀n,((xN xs types p n).1.1.length=n/\(xN xs types p n).1.2.length=n)/\(xN xs types p n).2<=p+22 * n
 | 0=>⟨⟨rfl,rfl⟩,Ys _⟩
 | n+1=>by
   have:=uU xs types p n;have:=magg_q xs types (xN xs types p n).2;simp only [xN,Yb,Y5,Ui];omega
def qGrp (es:List Ex) (gs:List Agg) (a:Qr):Qr:= .mk 10 ByteArray.empty 0 false eZ es gs [] [] [a]
def jh (xs types:List Int) (a:Qr) (p:Nat):(Qr×List Int)×Nat:=
 let l:=yJ xs types (p+1) (drawn xs p 3).toNat
 let g:=xN xs types (l.2+1) (1+drawn xs l.2 2).toNat
 ((qGrp l.1.1 g.1.1 a,l.1.2++g.1.2),g.2)
theorem mgroup_q (xs types:List Int) (a:Qr) (p:Nat):(jh xs types a p).2<=p+100:=by
 have h3:=zu xs p (n:=3) Za;have h1:=uW xs types (p+1) (drawn xs p 3).toNat;simp only [jh];generalize yJ xs types (p+1) (drawn xs p 3).toNat=l at h1 ⊢;have h2:=zu xs l.2 (n:=2) Za;have h4:=uU xs types (l.2+1) (1+drawn xs l.2 2).toNat;omega
theorem rowsAg0 (gs:List Agg) (fn:Int):zd rAgg gs++[[D.lit (.int .i64 fn),D.lit (.int .i64 0),D.lit (.int .i64 0),D.lit (.int .i64 0),D.lit (.string ByteArray.empty),D.lit (.int .i64 0),D.sl 6 []]]=zd rAgg (gs++[⟨fn,eZ⟩]):=by
 rw [<-zf];rfl
theorem rowsAg1 (gs:List Agg) (fn:Int) (e:Ex):zd rAgg gs++[[D.lit (.int .i64 fn),D.lit (.int .i64 e.op),D.lit (.int .i64 e.type),D.lit (.int .i64 e.num),D.lit (.string e.text),D.lit (.int .i64 e.col),D.sl 6 (zd rE e.kids)]]=zd rAgg (gs++[⟨fn,e⟩]):=by
 rw [<-zf,z6,yx];rfl
def xC (op:Int) (c:List A):List A:=num op::str ByteArray.empty::num 0::boo false::num 0::num 0::num 0::str ByteArray.empty::num 0:: .snil::c
def T2 (types:List Int) (a:Qr):List (Nat×A):=[(8,.ptr 8 0),(6,.ptr 6 0),(2,.d (.sl 15 [rQ a])),(1,ints types),(0,.ptr 1000 0)]
def O2 (xs:List Int) (a:Qr) (ex ag:A) (q:Nat):List (Nat×Ob):=[(8,.var (xC 10 [ex,ag,.snil,.snil,.d (.sl 15 [rQ a])])),(6,.var (xC 0 [.snil,.snil,.snil,.snil,.snil])),(1000,zR xs q)]
def S2a (xs types:List Int) (a:Qr) (N k:Nat) (x:(List Ex×List Int)×Nat):SL:=
 ⟨(10,num ((N:Int)-k))::(9,.vec 700 k)::T2 types a,(600,.vec 36 6 (zd rE x.1.1) 0)::(700,.vec 3 1 (zd rI x.1.2) 0)::O2 xs a (.vec 600 k) .snil x.2⟩
def S2b (xs types:List Int) (a:Qr) (es:List Ex) (own:List Int) (N k:Nat) (x:(List Agg×List Int)×Nat):SL:=
 ⟨(12,num ((N:Int)-k))::(9,.vec 700 (own.length+k))::T2 types a,(601,.vec 68 7 (zd rAgg x.1.1) 0)::(700,.vec 3 1 (zd rI (own++x.1.2)) 0)::O2 xs a (.d (.sl 6 (zd rE es))) (.vec 601 k) x.2⟩
theorem dec_wrap {N k:Nat} (hN:N<=100) (h:k<N):IntKind.i64.wrap ((N:Int)-(k:Int)-1)=(N:Int)-((k+1:Nat):Int):=Z9
theorem XJ {p:Prop} (h:p:=by simp [S2b,O2,xC,ends]):p:=h
theorem Mo{p:Prop}(h:p:=by
 generalize 1+drawn xs (p2+1) 3=u at hone hkn ⊢;have hce:=c_ex2 hx ht hkn (p:=p2+2) Za;rw [yt] at hce;refine zg [[],[1],[],[]] [(1000,1000)] (hce) ?_;generalize ye xs types 2 u (p2+2)=e at hone ⊢;subst hone;refine Zf ?_;refine ⟨⟨hg1.symm,Za⟩,⟨ZC,ZC⟩,?_⟩;refine zi hI (j+1) h' Zl (Ya (by simp [S2b,T2,O2,hw,hg1,hg2,hl2,Y6,ends]) ?_ XJ);simp [S2b,T2,O2,xC,hst,hg1,hg2,rowsAg1,Y6,zf,z6,zC,ends]):p:=h
theorem c_mgroup {xs types:List Int} (hx:ww xs) (ht:types.length<=1000) (a:Qr) {p:Nat} (hp:p<=10000000000000000):
 ACall Tryz.prog 32 [.ptr 1000 0,ints types,.d (.sl 15 [rQ a])] [(1000,zR xs p)] (aQT (jh xs types a p).1) [(1000,zR xs (jh xs types a p).2)]:=by
 have h3:=zu xs p (n:=3) Za;obtain ⟨N,hN⟩: ∃m:Nat,drawn xs p 3=m:=⟨(drawn xs p 3).toNat,Za⟩
 have hN3:N<=3:=Za;obtain ⟨F,hF⟩: ∃F,jh xs types a p=F:=⟨_,rfl⟩
 rw [hF];simp only [jh,hN,YA] at hF;refine zn mixed ttok Tryz.func32 Tryz.ntmps32 Tryz.results32 ?_;refine Zn ?_;refine zg [[],[]] [(1000,1000)] (zS (n:=3) (p:=p) hx Za Za Za) ?_;rw [hN];refine Zf ?_;refine zx mixed ttok (fun k:Nat=>S2a xs types a N k (yJ xs types (p+1) k)) (fun k=>N-k) (fun k=>k<=N) 0 (Yj _) ?_ ?_
 ·refine (Us 8 10 600 36 6 rfl rfl rfl).trans ((YU 9 700 3 1 rfl rfl).trans ?_);exact Ya (by simp [S2a,T2,O2,xC,yJ,ends]) (by simp [S2a,T2,O2,xC,yJ,zd,ends]) (by simp [S2a,T2,O2,xC,ends])
 intro I hI k hk;simp -implicitDefEqProofs only [S2a,T2,O2,xC,↓zb,push_cast,simprocAttr,tt];refine za (fun h=>?_) fun h=>?_
 ·have h':k<N:=Zq h;have hw:=dec_wrap Za h';have hst:yJ xs types (p+1) (k+1)=(((yJ xs types (p+1) k).1.1++[(ye xs types 2 (1+drawn xs (yJ xs types (p+1) k).2 3) ((yJ xs types (p+1) k).2+1)).1],
   (yJ xs types (p+1) k).1.2++[1+drawn xs (yJ xs types (p+1) k).2 3]),(ye xs types 2 (1+drawn xs (yJ xs types (p+1) k).2 3) ((yJ xs types (p+1) k).2+1)).2):=rfl
  have hlen:=uW xs types (p+1) k;generalize yJ xs types (p+1) k=L at hst hlen ⊢;obtain ⟨⟨es,own⟩,p1⟩:=L;simp only at hst hlen ⊢;obtain ⟨⟨hl1,hl2⟩,hq⟩:=hlen;have h3:=zu xs p1 (n:=3) Za;have hwd:IntKind.i64.wrap (1+drawn xs p1 3)=1+drawn xs p1 3:=zt Za Za;refine zg [[],[]] [(1000,1000)] (zS (n:=3) (p:=p1) hx Za Za Za) ?_;refine Zy hwd ?_;have hkn:Kn (1+drawn xs p1 3):=Za;generalize 1+drawn xs p1 3=typ at hst hkn ⊢;have hce:=c_ex2 hx ht hkn (p:=p1+1) Za;rw [yt] at hce;refine zg [[],[1],[],[]] [(1000,1000)] (hce) ?_;generalize ye xs types 2 typ (p1+1)=e at hst ⊢;refine Zf ?_;refine ⟨⟨hl1.symm,Za⟩,⟨hl2.symm,Za⟩,ze Zg,?_⟩;refine zi hI (k+1) h' Zl (Ya (by simp [S2a,T2,O2,hw,hl1,hl2,ends]) ?_ (by simp [S2a,O2,xC,ends]));simp [S2a,T2,O2,xC,hst,hl1,hl2,y7,zf,z6,zC,ends]
 have h':k=N:=Zp h;subst h';have hlen:=uW xs types (p+1) k;generalize yJ xs types (p+1) k=L at hF hlen ⊢;obtain ⟨⟨es,own⟩,p1⟩:=L;simp only at hF hlen ⊢;obtain ⟨⟨hl1,hl2⟩,hq⟩:=hlen;have h2':=zu xs p1 (n:=2) Za;clear hI;refine zg [[],[]] [(1000,1000)] (zS (n:=2) (p:=p1) hx Za Za Za) ?_;obtain ⟨m,hm⟩: ∃m:Nat,1+drawn xs p1 2=m:=⟨(1+drawn xs p1 2).toNat,Za⟩
 have hwm:IntKind.i64.wrap (1+drawn xs p1 2)=m:=by rw [zt (by omega) (by omega)];exact hm
 rw [hm,YA] at hF;have hm3:m<=3:=Za;refine Zy hwm ?_;refine zx mixed ttok (fun j:Nat=>S2b xs types a es own m j (xN xs types (p1+1) j)) (fun j=>m-j) (fun j=>j<=m) 0 (Yj _) ?_ ?_
 ·refine (Weak.frzCellL 8 10 6 rfl rfl rfl (by simp [zc,hl1]) rfl).trans ((Us 8 11 601 68 7 rfl rfl rfl).trans ?_);exact Ya (by simp [S2b,T2,O2,xC,xN,hl2,ends]) (by simp [S2b,T2,O2,xC,xN,zd,ends]) (by simp [S2b,T2,O2,xC,ends])
 intro I hI j hj;simp -implicitDefEqProofs only [S2b,T2,O2,xC,↓zb,push_cast,simprocAttr,tt];refine za (fun h=>?_) fun h=>?_
 ·have h':j<m:=Zq h;have hw:=dec_wrap Za h';have hst:xN xs types (p1+1) (j+1)=(((xN xs types (p1+1) j).1.1++[(magg xs types (xN xs types (p1+1) j).2).1.1],(xN xs types (p1+1) j).1.2++[(magg xs types (xN xs types (p1+1) j).2).1.2]),(magg xs types (xN xs types (p1+1) j).2).2):=rfl;have hlen:=uU xs types (p1+1) j;generalize xN xs types (p1+1) j=g at hlen hst ⊢;obtain ⟨⟨gs,os⟩,p2⟩:=g;simp only at hlen hst ⊢;obtain ⟨⟨hg1,hg2⟩,hq2⟩:=hlen;have h6:=zu xs p2 (n:=6) Za;have hwf:IntKind.i64.wrap (1+drawn xs p2 6)=1+drawn xs p2 6:=zt Za Za;refine zg [[],[]] [(1000,1000)] (zS (n:=6) (p:=p2) hx Za Za Za) ?_;refine Zy hwf ?_;generalize hone:magg xs types p2=one1 at hst;unfold magg at hone;have h3:=zu xs (p2+1) (n:=3) Za;have hwu:IntKind.i64.wrap (1+drawn xs (p2+1) 3)=1+drawn xs (p2+1) 3:=zt Za Za;have hkn:Kn (1+drawn xs (p2+1) 3):=Za;have hf6:1+drawn xs p2 6=1\/1+drawn xs p2 6=2\/1+drawn xs p2 6=3\/1+drawn xs p2 6=4\/1+drawn xs p2 6=5\/1+drawn xs p2 6=6:=Za;generalize 1+drawn xs p2 6=fn at hone hf6 ⊢;refine zg [[],[]] [(1000,1000)] (zS (n:=3) (p:=p2+1) hx Za Za Za) ?_;rcases hf6 with rfl | hf6
  ·rw [if_pos rfl] at hone;subst hone;refine Zy hwu ?_;refine ⟨⟨hg1.symm,Za⟩,⟨ZC,ZC⟩,?_⟩;refine zi hI (j+1) h' Zl (Ya (by simp [S2b,T2,O2,hw,hg1,hg2,hl2,Y6,ends]) ?_ XJ);simp [S2b,T2,O2,xC,hst,hg1,hg2,rowsAg0,Y6,zf,z6,zC,ends]
  rcases hf6 with rfl | rfl | rfl | rfl | rfl
  all_goals simp -implicitDefEqProofs only [hwu,↓zb,push_cast,simprocAttr,tt]
  ·rw [if_neg Zi,if_neg Zi,if_neg Zi] at hone;exact Mo
  ·rw [if_neg Zi,if_neg Zi,if_neg Zi] at hone;exact Mo
  ·rw [if_neg Zi,if_pos rfl] at hone;have hce:=c_ex2 hx ht (k:=1) (.inl rfl) (p:=p2+2) Za;rw [yt] at hce;refine zg [[],[1],[],[]] [(1000,1000)] (hce) ?_;generalize ye xs types 2 1 (p2+2)=e at hone ⊢;subst hone;refine Zf ?_;refine ⟨⟨hg1.symm,Za⟩,⟨ZC,ZC⟩,?_⟩;refine zi hI (j+1) h' Zl (Ya (by simp [S2b,T2,O2,hw,hg1,hg2,hl2,Y6,ends]) ?_ XJ);simp [S2b,T2,O2,xC,hst,hg1,hg2,rowsAg1,Y6,zf,z6,zC,ends]
  ·rw [if_neg Zi,if_neg Zi,if_pos Zi] at hone;exact Mo
  ·rw [if_neg Zi,if_neg Zi,if_pos Zi] at hone;exact Mo
 ·obtain rfl:j=m:=Zp h;have hlen:=uU xs types (p1+1) j;subst hF;unfold aQT;rw [zW];refine zo [[0,0,0,0,0,0,0,0,0,6,6,7,1,1,15],[1]] rfl Zd Zj ?_ Zk Zb Zb;have hka:zd rQ (qGrp es (xN xs types (p1+1) j).1.1 a).kids=[rQ a]:=rfl;simp only [hka,yA a];rfl
end
section
attribute [local simp, local push_cast] Ta zR yx yA yM vS
def plc (s:Sch) (b:ByteArray):Nat:=(if 0>byT s b then 0 else byT s b).toNat
def kq (s:Sch) (b:Qr):List Int:=if b.op=1 then yd (s.getD (plc s b.table) default) else []
def yF (xs cs types:List Int) (p:Nat):Nat->List Ex×Nat
 | 0=>([],p)
 | n+1=>((yF xs cs types p n).1++[(xg xs cs (types.getD n default) (yF xs cs types p n).2).1],(xg xs cs (types.getD n default) (yF xs cs types p n).2).2)
theorem vz (xs cs types:List Int) (p:Nat): ∀n,(yF xs cs types p n).1.length=n/\(yF xs cs types p n).2<=p+2 * n
 | 0=>⟨rfl,Ys _⟩
 | n+1=>by
   have:=vz xs cs types p n;have:=pickE_le xs cs (types.getD n default) (yF xs cs types p n).2;simp only [yF,Yb,Y5,Ui];omega
def jo (es:List Ex) (b:Qr):Qr:= .mk 4 ByteArray.empty 0 false eZ es [] [] [] [b]
def qSet (op:Int) (all:Bool) (a b:Qr):Qr:= .mk op ByteArray.empty 0 all eZ [] [] [] [] [a,b]
def msets (xs:List Int) (s:Sch) (a b:Qr) (types:List Int) (p:Nat):(Qr×List Int)×Nat:=
 let l:=yF xs (kq s b) types p types.length
 ((qSet (6+drawn xs l.2 3) (drawn xs (l.2+1) 2==1) a (jo l.1 b),types),l.2+2)
theorem msets_q (xs:List Int) (s:Sch) (a b:Qr) (types:List Int) (p:Nat):(msets xs s a b types p).2<=p+2 * types.length+2:=by
 have:=(vz xs (kq s b) types p types.length).2;simp only [msets];omega
theorem X8 {p:Prop} (h:p:=by rw [zW];rfl):p:=h
theorem aQ_set (op:Int) (al:Bool) (es:List Ex) (a b:Qr):aQ (qSet op al a (jo es b))= .agg [num op,str ByteArray.empty,num 0,boo al,num 0,num 0,num 0,str ByteArray.empty,num 0,.d (.sl 6 []),.d (.sl 6 []),.d (.sl 7 []),.d (.sl 1 []),.d (.sl 1 []),.d (.sl 15 [rQ a,rQ (jo es b)])]:=X8
theorem rQ_proj1 (es:List Ex) (b:Qr):rQ (jo es b)=[.lit (.int .i64 4),.lit (.string ByteArray.empty),.lit (.int .i64 0),.lit (.bool false),.lit (.int .i64 0),.lit (.int .i64 0),.lit (.int .i64 0),.lit (.string ByteArray.empty),.lit (.int .i64 0),.sl 6 [],.sl 6 (zd rE es),.sl 7 [],.sl 1 [],.sl 1 [],.sl 15 [rQ b]]:=by rw [yA];rfl
theorem Xj {p P0 P1 P2:Prop} (zf_:P0) (zg_:P1) (zh_:P2) (h:P0->P1->P2->p:=by intro zf_ zg_ zh_;simp [zf_,zg_,zh_,zf,z6,zC,y7,ends]):p:=h zf_ zg_ zh_
theorem Mm{p:Prop}(h:p:=by
 intro I hI k hkN hi;refine Zx ?_;refine za (fun h=>?_) fun h=>?_
 ·have h':k<types.length:=Zq h;have hw:=zh h' Za;have hlen:=vz xs L types p k;have hst:yF xs L types p (k+1)=((yF xs L types p k).1++[(xg xs L (types.getD k default) (yF xs L types p k).2).1],(xg xs L (types.getD k default) (yF xs L types p k).2).2):=rfl;generalize yF xs L types p k=r at hlen hst ⊢;refine ⟨Zs,?_⟩;have hce:=c_mpick hx hL (hk _ (zk h')) (p:=r.2) Za;rw [yt] at hce;refine zg [[],[1],[]] [(1000,1000)] (hce) ?_;generalize xg xs L (types.getD k default) r.2=e at hst ⊢;refine Zf ?_;refine ⟨⟨hlen.1.symm,Za⟩,ze Zg,?_⟩;exact zp hI k rfl h' trivial (Xj hw hst (hlen.1)) (Xj hw hst (hlen.1)) (Xj hw hst (hlen.1)) (Xj hw hst (hlen.1))
 obtain rfl:k=types.length:=Zp h;have hlen:=vz xs L types p types.length;generalize (yF xs L types p types.length)=r at hF hlen ⊢;clear hI;refine zg [[],[]] [(1000,1000)] (zS (n:=3) (p:=r.2) hx Za Za Za) ?_;have hd:=zu xs r.2 (n:=3) Za;have hw6:IntKind.i64.wrap (6+drawn xs r.2 3)=6+drawn xs r.2 3:=zt Za Za;refine Zy hw6 ?_;refine zg [[],[]] [(1000,1000)] (zS (n:=2) (p:=r.2+1) hx Za Za Za) ?_;refine Zf ?_;refine ⟨hlen.1.symm,ze Zg,?_⟩;subst hF;unfold aQT;rw [aQ_set,rQ_proj1,yA a,yA b];refine zo [[0,0,0,0,0,0,0,0,0,6,6,7,1,1,15],[1]] rfl Zd Zj ?_ Zk Zb Zb;rfl):p:=h
theorem c_msets {xs:List Int} (hx:ww xs) {s:Sch} (hS:SmallS s) (h0:0<s.length) (types:List Int) (ht:types.length<=1000) (hk: ∀t∈types,Kn t) (a b:Qr) {p:Nat} (hp:p<=10000000000000000):
 ACall Tryz.prog 33 [.ptr 1000 0,aS s,aQ a,aQ b,ints types] [(1000,zR xs p)] (aQT (msets xs s a b types p).1) [(1000,zR xs (msets xs s a b types p).2)]:=by
 have hsl:=hS.len;obtain ⟨F,hF⟩: ∃F,msets xs s a b types p=F:=⟨_,rfl⟩
 rw [hF,zW a,zW b];simp only [msets] at hF;refine zn mixed ttok Tryz.func33 Tryz.ntmps33 Tryz.results33 ?_;refine Zn ?_;refine za (fun h1=>?_) (fun h1=>?_)
 ·have h1':b.op=1:=Zc h1;have hT:kq s b=yd (s.getD (plc s b.table) default):=if_pos h1';have hL:(kq s b).length<=1000:=by
   rw [hT];unfold yd;rw [Y2];by_cases hn:plc s b.table<s.length
   ·exact (hS.tab _ (zk hn)).cols
   ·exact JW
  have hlt:=xU (fun t:Tbl=>t.name.toList==b.table.toList) s;have hpl:(if 0>byT s b.table then 0 else byT s b.table)=(plc s b.table:Int)/\plc s b.table<s.length:=by
   unfold plc byT
   split<;>omega
  refine zg [[6],[0]] [] (c_rfind s b.table Za) ?_;refine XT (hpl.1) ?_;have hpl2:=hpl.2;refine ⟨Za,?_⟩;have hct:=vr (s.getD (plc s b.table) default) (by
   have:=(hS.tab _ (zk hpl2)).cols;omega)
  simp only [aT] at hct;refine zg [[0,3,1,1,2,6]] [] (hct) ?_;rw [<-hT];generalize kq s b=L at hF hL ⊢;refine Zf ?_;refine zq mixed ttok 16 [0,4,7,10,15] [7,10,34] Zv Zw types.length (fun _=>True) (fun _=>[(12,ints L)]) (fun k=>[(1000,zR xs (yF xs L types p k).2),(15,.var [num 4,str ByteArray.empty,num 0,boo false,num 0,num 0,num 0,str ByteArray.empty,num 0,.snil,.vec 600 k,.snil,.snil,.snil,.vec 34 1]),(600,.vec 36 6 (zd rE (yF xs L types p k).1) 0)]) trivial ?_ ?_
  ·exact (Weak.nilCellL 15 10 600 36 6 rfl rfl rfl).trans (Weak.keepL (by simp [cst,ends]) (by simp [cst,yF,zd,ends]) (by simp [cst,ends]))
  exact Mm
 ·have h1': ¬b.op=1:=Zc h1;have hT:kq s b=[]:=if_neg h1';rw [hT] at hF;have hL:([]:List Int).length<=1000:=Yj _;obtain ⟨L,hLL⟩: ∃L:List Int,[]=L:=⟨_,rfl⟩
  rw [hLL] at hF hL;refine zq mixed ttok 16 [0,4,7,10,15] [7,10,34] Zv Zw types.length (fun _=>True) (fun _=>[(12,ints L)]) (fun k=>[(1000,zR xs (yF xs L types p k).2),(15,.var [num 4,str ByteArray.empty,num 0,boo false,num 0,num 0,num 0,str ByteArray.empty,num 0,.snil,.vec 600 k,.snil,.snil,.snil,.vec 34 1]),(600,.vec 36 6 (zd rE (yF xs L types p k).1) 0)]) trivial ?_ ?_
  ·refine (Weak.frzSlotL 12 1 rfl trivial).trans ?_
   rw [<-hLL]
   exact (Weak.nilCellL 15 10 600 36 6 rfl rfl rfl).trans (Weak.keepL (by simp [cst,ends]) (by simp [cst,yF,zd,ends]) (by simp [cst,ends]))
  exact Mm
def vW (xs types:List Int) (q n:Nat):List (List Val):=(List.range n).map fun i=>rowM xs types (q+i * types.length)
theorem rowsTo_succ (xs types:List Int) (q n:Nat):vW xs types q (n+1)=vW xs types q n++[rowM xs types (q+n * types.length)]:=by simp [vW,U8]
theorem rowsTo_len (xs types:List Int) (q n:Nat):(vW xs types q n).length=n:=by simp [vW]
def qVals (types:List Int) (rows:List (List Val)):Qr:= .mk 2 ByteArray.empty 0 false eZ [] [] types rows []
def qScan (b:ByteArray):Qr:= .mk 1 b 0 false eZ [] [] [] [] []
def qSel (c:Ex) (a:Qr):Qr:= .mk 3 ByteArray.empty 0 false c [] [] [] [] [a]
def qDist (a:Qr):Qr:= .mk 9 ByteArray.empty 0 false eZ [] [] [] [] [a]
def qJoin (k:Int) (c:Ex) (a b:Qr):Qr:= .mk 5 ByteArray.empty k false c [] [] [] [] [a,b]
def jT (xs:List Int) (s:Sch) (p:Nat):(Qr×List Int)×Nat:=
 if drawn xs p 6=0 then
  ((qVals (yk xs 2 (p+1)).1 (vW xs (yk xs 2 (p+1)).1 ((yk xs 2 (p+1)).2+1) (drawn xs (yk xs 2 (p+1)).2 3).toNat),(yk xs 2 (p+1)).1),
    (yk xs 2 (p+1)).2+1+(drawn xs (yk xs 2 (p+1)).2 3).toNat * (yk xs 2 (p+1)).1.length)
 else ((qScan (s.getD (drawn xs (p+1) s.length).toNat default).name,yd (s.getD (drawn xs (p+1) s.length).toNat default)),p+2)
def vJ (xs types out:List Int) (p:Nat):Nat->List Ex×Nat
 | 0=>([],p)
 | n+1=>((vJ xs types out p n).1++[(ye xs types 2 (out.getD n default) (vJ xs types out p n).2).1],(ye xs types 2 (out.getD n default) (vJ xs types out p n).2).2)
theorem jS (xs types out:List Int) (p:Nat): ∀n,(vJ xs types out p n).1.length=n/\(vJ xs types out p n).2<=p+20 * n
 | 0=>⟨rfl,Ys _⟩
 | n+1=>by
   have:=jS xs types out p n;have:=ex2_q xs types (out.getD n default) (vJ xs types out p n).2;simp only [vJ,Yb,Y5,Ui];omega
def gb (xs:List Int) (s:Sch) (f:Nat->(Qr×List Int)×Nat) (a:Qr) (types:List Int) (n:Int) (p:Nat):(Qr×List Int)×Nat:=
 if n=0 then ((qSel (ye xs types 3 2 p).1 a,types),(ye xs types 3 2 p).2)
 else if n=1 then ((jo (vJ xs types (yk xs 3 p).1 (yk xs 3 p).2 (yk xs 3 p).1.length).1 a,(yk xs 3 p).1),(vJ xs types (yk xs 3 p).1 (yk xs 3 p).2 (yk xs 3 p).1.length).2)
 else if n=2 then ((qDist a,types),p)
 else if n=3 then jh xs types a p
 else if n=4 then msets xs s a (f p).1.1 types (f p).2
 else if types.length+(f p).1.2.length>8 then ((a,types),(f p).2)
 else ((qJoin (1+drawn xs (f p).2 6) (ye xs (types++(f p).1.2) 3 2 ((f p).2+1)).1 a (f p).1.1,if 1+drawn xs (f p).2 6<5 then types++(f p).1.2 else types),(ye xs (types++(f p).1.2) 3 2 ((f p).2+1)).2)
def yp (xs:List Int) (s:Sch):Nat->Nat->(Qr×List Int)×Nat
 | 0,p=>jT xs s p
 | d+1,p=>if drawn xs p 5=0 then jT xs s (p+1) else gb xs s (yp xs s d) (yp xs s d (p+1)).1.1 (yp xs s d (p+1)).1.2 (drawn xs (yp xs s d (p+1)).2 7) ((yp xs s d (p+1)).2+1)
structure QT (x:(Qr×List Int)×Nat) (p w:Nat):Prop where
 kn: ∀t∈x.1.2,Kn t
 len:x.1.2.length<=1000
 q:x.2<=p+w
def wQ:Nat->Nat
 | 0=>20
 | d+1=>3000+2 * wQ d
theorem listP_kn (xs types:List Int) (p:Nat): ∀n,∀t∈(yJ xs types p n).1.2,Kn t
 | 0,t,h=>by simp [yJ] at h
 | n+1,t,h=>by
   simp only [yJ] at h;rcases Yr.1 h with h | h
   ·exact listP_kn xs types p n t h
   ·have:=zu xs (yJ xs types p n).2 (n:=3) Za;rw [YK.1 h];omega
theorem magg_kn (xs types:List Int) (p:Nat):Kn (magg xs types p).1.2:=by
 have:=zu xs (p+1) (n:=3) Za;unfold magg
 split
 ·exact .inl rfl
 split
 ·exact .inl rfl
 ·simp only;split
  ·omega
  ·exact .inl rfl
theorem maggs_kn (xs types:List Int) (p:Nat): ∀n,∀t∈(xN xs types p n).1.2,Kn t
 | 0,t,h=>by simp [xN] at h
 | n+1,t,h=>by
   simp only [xN] at h;rcases Yr.1 h with h | h
   ·exact maggs_kn xs types p n t h
   ·rw [YK.1 h];exact magg_kn ..
theorem mgroup_T (xs types:List Int) (a:Qr) (p:Nat):QT (jh xs types a p) p 100:=by
 refine ⟨fun t h=>?_,?_,mgroup_q ..⟩
 ·rcases Yr.1 h with h | h
  ·exact listP_kn _ _ _ _ t h
  ·exact maggs_kn _ _ _ _ t h
 ·have h1:=(uW xs types (p+1) (drawn xs p 3).toNat).1.2;have h3:=zu xs p (n:=3) Za;have h4:=zu xs (yJ xs types (p+1) (drawn xs p 3).toNat).2 (n:=2) Za;simp only [jh,Yb,h1,uU];omega
theorem mleaf_T (xs:List Int) {s:Sch} (hS:SmallS s) (h0:0<s.length) (hT: ∀T∈s,1<=T.columns.length/\ ∀c∈T.columns,c.type=1\/c.type=2\/c.type=3) (p:Nat):QT (jT xs s p) p 20:=by
 unfold jT
 split
 ·obtain ⟨h1,h2,h3⟩:=ud xs (m:=2) Za (p+1);have h4:=zu xs (yk xs 2 (p+1)).2 (n:=3) Za;have h5:(drawn xs (yk xs 2 (p+1)).2 3).toNat * (yk xs 2 (p+1)).1.length<=2 * 2:=U3 Za h2;exact ⟨h1,Xn,Xn⟩
 ·have hd:=zu xs (p+1) (n:=(s.length:Int)) Za;have hm:=zk (l:=s) (n:=(drawn xs (p+1) s.length).toNat) Za;refine ⟨fun t h=>?_,?_,Xn⟩
  ·simp only [yd] at h;obtain ⟨c,hc,rfl⟩:=Yv.1 h;exact (hT _ hm).2 c hc
  ·simp only [yd,Y2];exact (hS.tab _ hm).cols
theorem mstep_T {xs:List Int} {s:Sch} {f:Nat→(Qr×List Int)×Nat} {w:Nat} (hf: ∀p,QT (f p) p w) (a:Qr) {types:List Int} (ht: ∀t∈types,Kn t) (hl:types.length≤1000) (n:Int) (p:Nat):QT (gb xs s f a types n p) p (2900+w):=by
 have hfp:=hf p;unfold gb
 split
 ·exact ⟨ht,hl,by have:=ex3_q xs types 2 p;simp only;omega⟩
 split
 ·obtain ⟨h1,h2,h3⟩:=ud xs (m:=3) Za p;have:=(jS xs types (yk xs 3 p).1 (yk xs 3 p).2 (yk xs 3 p).1.length).2;exact ⟨h1,Xn,Xn⟩
 split
 ·exact ⟨ht,hl,Xn⟩
 split
 ·have h:=mgroup_T xs types a p;exact ⟨h.kn,h.len,by have:=h.q;omega⟩
 split
 ·exact ⟨ht,hl,by have:=hfp.q;have:=msets_q xs s a (f p).1.1 types (f p).2;omega⟩
 split
 ·exact ⟨ht,hl,by have:=hfp.q;simp only;omega⟩
 ·rename_i h8;have:=hfp.q;have:=ex3_q xs (types++(f p).1.2) 2 ((f p).2+1);refine ⟨fun t h=>?_,?_,Xn⟩
  ·simp only at h
   split at h
   ·rcases Yr.1 h with h | h
    ·exact ht t h
    ·exact hfp.kn t h
   ·exact ht t h
  ·simp only
   split
   ·rw [Yb];omega
   ·exact hl
theorem mquery_T (xs:List Int) {s:Sch} (hS:SmallS s) (h0:0<s.length) (hT: ∀T∈s,1<=T.columns.length/\ ∀c∈T.columns,c.type=1\/c.type=2\/c.type=3): ∀d p,QT (yp xs s d p) p (wQ d)
 | 0,p=>mleaf_T xs hS h0 hT p
 | d+1,p=>by
   have ih: ∀p,QT (yp xs s d p) p (wQ d):=mquery_T xs hS h0 hT d;rw [yp]
   split
   ·have h:=mleaf_T xs hS h0 hT (p+1);exact ⟨h.kn,h.len,by have:=h.q;simp only [wQ];omega⟩
   ·have h1:=ih (p+1);have h:QT (gb xs s (yp xs s d) (yp xs s d (p+1)).1.1 (yp xs s d (p+1)).1.2 (drawn xs (yp xs s d (p+1)).2 7) ((yp xs s d (p+1)).2+1)) ((yp xs s d (p+1)).2+1) (2900+wQ d):=mstep_T (s:=s) (f:=yp xs s d) ih (yp xs s d (p+1)).1.1 h1.kn h1.len (drawn xs (yp xs s d (p+1)).2 7) ((yp xs s d (p+1)).2+1);exact ⟨h.kn,h.len,by have:=h.q;have:=h1.q;simp only [wQ];omega⟩
theorem aQ_vals (types:List Int) (rows:List (List Val)):aQ (qVals types rows)= .agg [num 2,str ByteArray.empty,num 0,boo false,num 0,num 0,num 0,str ByteArray.empty,num 0,.d (.sl 6 []),.d (.sl 6 []),.d (.sl 7 []),.d (.sl 1 (zd rI types)),.d (.sl 1 (zd yM rows)),.d (.sl 15 [])]:=X8
theorem aQ_scn (b:ByteArray):aQ (qScan b)= .agg [num 1,str b,num 0,boo false,num 0,num 0,num 0,str ByteArray.empty,num 0,.d (.sl 6 []),.d (.sl 6 []),.d (.sl 7 []),.d (.sl 1 []),.d (.sl 1 []),.d (.sl 15 [])]:=X8
theorem aQ_sel (c:Ex) (a:Qr):aQ (qSel c a)= .agg [num 3,str ByteArray.empty,num 0,boo false,num c.op,num c.type,num c.num,str c.text,num c.col,.d (.sl 6 (zd rE c.kids)),.d (.sl 6 []),.d (.sl 7 []),.d (.sl 1 []),.d (.sl 1 []),.d (.sl 15 [rQ a])]:=X8
theorem aQ_prj (es:List Ex) (a:Qr):aQ (jo es a)= .agg [num 4,str ByteArray.empty,num 0,boo false,num 0,num 0,num 0,str ByteArray.empty,num 0,.d (.sl 6 []),.d (.sl 6 (zd rE es)),.d (.sl 7 []),.d (.sl 1 []),.d (.sl 1 []),.d (.sl 15 [rQ a])]:=X8
theorem aQ_dst (a:Qr):aQ (qDist a)= .agg [num 9,str ByteArray.empty,num 0,boo false,num 0,num 0,num 0,str ByteArray.empty,num 0,.d (.sl 6 []),.d (.sl 6 []),.d (.sl 7 []),.d (.sl 1 []),.d (.sl 1 []),.d (.sl 15 [rQ a])]:=X8
theorem aQ_jn (k:Int) (c:Ex) (a b:Qr):aQ (qJoin k c a b)= .agg [num 5,str ByteArray.empty,num k,boo false,num c.op,num c.type,num c.num,str c.text,num c.col,.d (.sl 6 (zd rE c.kids)),.d (.sl 6 []),.d (.sl 7 []),.d (.sl 1 []),.d (.sl 1 []),.d (.sl 15 [rQ a,rQ b])]:=X8
theorem rows_snoc (l:List (List Val)) (r:List Val):zd yM (l++[r])=zd yM l++[[D.sl 3 (zd rV r)]]:=by rw [<-zf];rfl
def CQ (xs:List Int) (s:Sch) (n:Int) (f:Nat->(Qr×List Int)×Nat) (w:Nat):Prop:= ∀p:Nat,p+w<=1000000000000->ACall Tryz.prog 11 [.ptr 1000 0,aS s,num n] [(1000,zR xs p)] (aQT (f p).1) [(1000,zR xs (f p).2)]
theorem Mk{p:Prop}(h:p:=by
 refine zx mixed ttok (fun k:Nat=>(⟨[(10,num ((N:Int)-k)),(9,.ptr 9 0),(8,ints types),(6,.ptr 6 0),(0,.ptr 1000 0)],[(9,.var [num 2,str ByteArray.empty,num 0,boo false,num 0,num 0,num 0,str ByteArray.empty,num 0,.snil,.snil,.snil,ints types,.vec 600 k,.snil]),(600,.vec 53 1 (zd yM (vW xs types (q+1) k)) 0),(6,.var [num 0,str ByteArray.empty,num 0,boo false,num 0,num 0,num 0,str ByteArray.empty,num 0,.snil,.snil,.snil,.snil,.snil,.snil]),(1000,zR xs (q+1+k * types.length))]⟩:SL)) (fun k=>N-k) (fun k=>k<=N) 0 (Yj _) ?_ ?_
 ·exact (Us 9 13 600 53 1 rfl rfl rfl).trans (Ya Zb (by simp [vW,zd,ends]) Zb)
 intro I hI k hk;refine Zf ?_;have hkm:k * types.length<=3 * 2:=U3 Za t2;have hlen:=rowsTo_len xs types (q+1) k;refine za (fun h=>?_) fun h=>?_
 ·have h':k<N:=Zq h;have hw:=dec_wrap Za h';have hst:=rowsTo_succ xs types (q+1) k;have hkl:q+1+(k+1) * types.length=q+1+k * types.length+types.length:=by rw [Nat.succ_mul];omega
  refine zg [[],[1]] [(1000,1000)] (c_mrow (types:=types) (p:=q+1+k * types.length) hx Za t1 Za) ?_;refine Zf ?_;refine ⟨⟨hlen.symm,Za⟩,ze Zg,?_⟩;refine zi hI (k+1) h' Zl (Ya (Z0 hw hlen) ?_ Zb);simp [hst,hlen,hkl,rows_snoc,ends]
 have h':k=N:=Zp h;subst h';subst hF;unfold aQT;rw [aQ_vals];refine zo [[0,0,0,0,0,0,0,0,0,6,6,7,1,1,15],[1]] rfl Zd Zj ?_ Zk Zb Zb;rfl):p:=h
theorem Mq{p:Prop}(h:p:=by
 refine zo [[0,0,0,0,0,0,0,0,0,6,6,7,1,1,15],[1]] rfl Zd Zj ?_ Zk Zb Zb;rfl):p:=h
theorem G9{p:Prop}(h:p:=by
 refine zg [[0,3,1,1,2,6]] [] (hct) ?_;refine Zf ?_;refine ⟨ze Zg,?_⟩;subst hF;unfold aQT;rw [aQ_scn];exact Mq):p:=h
theorem c_mquery0 {xs:List Int} (hx:ww xs) {s:Sch} (hS:SmallS s) (h0:0<s.length) (hT: ∀T∈s,1≤T.columns.length∧ ∀c∈T.columns,c.type=1∨c.type=2∨c.type=3):CQ xs s 1 (yp xs s 0) 20:=by
 intro p hp;have hsl:=hS.len;refine zn mixed ttok Tryz.func11 Tryz.ntmps11 Tryz.results11 ?_;rw [yp];refine Zn ?_;refine zg [[],[]] [(1000,1000)] (zS (n:=6) (p:=p) hx Za Za Za) ?_;refine Zf ?_;obtain ⟨F,hF⟩: ∃F,jT xs s (p)=F:=⟨_,rfl⟩
 rw [hF];refine za (fun k0=>?_) fun k0=>?_
 ·have k0':drawn xs (p) 6=0:=Zc k0;rw [jT,if_pos k0'] at hF;obtain ⟨t1,t2,t3⟩:=ud xs (m:=2) Za (p+1);refine zg [[],[]] [(1000,1000)] (c_mtypes (m:=2) (p:=p+1) hx Za Za Za) ?_;generalize yk xs 2 (p+1)=T at hF t1 t2 t3 ⊢;obtain ⟨types,q⟩:=T;simp only at hF t1 t2 t3 ⊢;refine Zf ?_;refine zg [[],[]] [(1000,1000)] (zS (n:=3) (p:=q) hx Za Za Za) ?_;have h3:=zu xs q (n:=3) Za;obtain ⟨N,hN⟩: ∃m:Nat,drawn xs q 3=m:=⟨(drawn xs q 3).toNat,Za⟩
  rw [hN,YA] at hF;have hN3:N<=3:=Za;rw [hN];refine Zf ?_;have hq:q<=p+4:=Za;exact Mk
 ·have k0': ¬drawn xs (p) 6=0:=Zc k0;rw [jT,if_neg k0'] at hF;have hd:=zu xs (p+1) (n:=(s.length:Int)) Za;have hm:=zk (l:=s) (n:=(drawn xs (p+1) s.length).toNat) Za;have hct:=vr (s.getD (drawn xs (p+1) s.length).toNat default) (by have:=(hS.tab _ hm).cols;omega);refine zg [[],[]] [(1000,1000)] (zS (n:=(s.length:Int)) (p:=p+1) hx Za Za Za) ?_;refine Zf ?_;refine ⟨Za,ze Zg,?_⟩;simp only [aT] at hct;generalize s.getD (drawn xs (p+1) s.length).toNat default=t at hct hF ⊢;exact G9
theorem GI{p:Prop}(h:p:=by
 subst hF;unfold aQT;rw [aQ_jn,yA a,yA b];exact Mq):p:=h
theorem c_mquery {xs:List Int} (hx:ww xs) {s:Sch} (hS:SmallS s) (h0:0<s.length) (hT: ∀T∈s,1≤T.columns.length∧ ∀c∈T.columns,c.type=1∨c.type=2∨c.type=3): ∀d:Nat,d≤5→CQ xs s (d+1:Nat) (yp xs s d) (wQ d)
 | 0,_=>c_mquery0 hx hS h0 hT
 | d+1,hd=>by
   intro p hp;have hsl:=hS.len;have ih:CQ xs s (d+1:Nat) (yp xs s d) (wQ d):=c_mquery hx hS h0 hT d Za;have hQT:=mquery_T xs hS h0 hT d;have hp:p+(3000+2 * wQ d)<=1000000000000:=hp;refine zn mixed ttok Tryz.func11 Tryz.ntmps11 Tryz.results11 ?_;rw [yp];refine Zn ?_;refine za (fun h=>absurd (Yd h) Za) (fun _=>?_);refine zg [[],[]] [(1000,1000)] (zS (n:=5) (p:=p) hx Za Za Za) ?_;refine Zf ?_;refine za (fun j0=>?_) fun j0=>?_
   ·rw [if_pos (Zc j0)];refine zg [[],[]] [(1000,1000)] (zS (n:=6) (p:=p+1) hx Za Za Za) ?_;refine Zf ?_;obtain ⟨F,hF⟩: ∃F,jT xs s (p+1)=F:=⟨_,rfl⟩
    rw [hF];refine za (fun k0=>?_) fun k0=>?_
    ·have k0':drawn xs (p+1) 6=0:=Zc k0;rw [jT,if_pos k0'] at hF;obtain ⟨t1,t2,t3⟩:=ud xs (m:=2) Za (p+1+1);refine zg [[],[]] [(1000,1000)] (c_mtypes (m:=2) (p:=p+1+1) hx Za Za Za) ?_;generalize yk xs 2 (p+1+1)=T at hF t1 t2 t3 ⊢;obtain ⟨types,q⟩:=T;simp only at hF t1 t2 t3 ⊢;refine Zf ?_;refine zg [[],[]] [(1000,1000)] (zS (n:=3) (p:=q) hx Za Za Za) ?_;have h3:=zu xs q (n:=3) Za;obtain ⟨N,hN⟩: ∃m:Nat,drawn xs q 3=m:=⟨(drawn xs q 3).toNat,Za⟩
     rw [hN,YA] at hF;have hN3:N<=3:=Za;rw [hN];refine Zf ?_;have hq:q<=p+1+4:=Za;exact Mk
    ·have k0': ¬drawn xs (p+1) 6=0:=Zc k0;rw [jT,if_neg k0'] at hF;have hd:=zu xs (p+1+1) (n:=(s.length:Int)) Za;have hm:=zk (l:=s) (n:=(drawn xs (p+1+1) s.length).toNat) Za;have hct:=vr (s.getD (drawn xs (p+1+1) s.length).toNat default) (by have:=(hS.tab _ hm).cols;omega);refine zg [[],[]] [(1000,1000)] (zS (n:=(s.length:Int)) (p:=p+1+1) hx Za Za Za) ?_;refine Zf ?_;refine ⟨Za,ze Zg,?_⟩;simp only [aT] at hct;generalize s.getD (drawn xs (p+1+1) s.length).toNat default=t at hct hF ⊢;exact G9
   rw [if_neg (Zc j0)];have hwd:IntKind.i64.wrap ((d:Int)+1+1-1)=((d+1:Nat):Int):=Z9;have hcq:=ih (p+1) Za;unfold aQT at hcq;rw [zW] at hcq;simp only [hwd];refine zg [[],[6],[]] [(1000,1000)] (hcq) ?_;have hqt:=hQT (p+1);generalize yp xs s d (p+1)=r at hqt ⊢;obtain ⟨⟨a,types⟩,p1⟩:=r;obtain ⟨hkn,hlen,hq⟩:=hqt;simp only at hkn hlen hq ⊢;obtain ⟨F,hF⟩: ∃F,gb xs s (yp xs s d) a types (drawn xs p1 7) (p1+1)=F:=⟨_,rfl⟩
   rw [hF];refine Zf ?_;refine zg [[],[]] [(1000,1000)] (zS (n:=7) (p:=p1) hx Za Za Za) ?_;have h7:=zu xs p1 (n:=7) Za;generalize drawn xs p1 7=n at hF h7 ⊢;unfold gb at hF;refine Zf ?_;refine za (fun n0=>?_) fun n0=>?_
   ·have n0':n=0:=Zc n0;rw [if_pos n0'] at hF;have hce:=c_ex3 hx hlen (k:=2) (.inr (.inl rfl)) (p:=p1+1) Za;rw [yt] at hce;refine zg [[],[1],[],[]] [(1000,1000)] (hce) ?_;generalize ye xs types 3 2 (p1+1)=e at hF ⊢;refine Zf ?_;subst hF;unfold aQT;rw [aQ_sel,yA a];exact Mq
   have n0': ¬n=0:=Zc n0;rw [if_neg n0'] at hF;refine za (fun n1=>?_) fun n1=>?_
   ·have n1':n=1:=Zc n1;rw [if_pos n1'] at hF;obtain ⟨t1,t2,t3⟩:=ud xs (m:=3) Za (p1+1);refine zg [[],[]] [(1000,1000)] (c_mtypes (m:=3) (p:=p1+1) hx Za Za Za) ?_;generalize yk xs 3 (p1+1)=T at hF t1 t2 t3 ⊢;obtain ⟨out,q⟩:=T;simp only at hF t1 t2 t3 ⊢;refine Zf ?_;refine zq mixed ttok 17 [0,6,13,15,16] [6,77] Zv Zw out.length (fun _=>True) (fun _=>[]) (fun k=>[(1000,zR xs (vJ xs types out q k).2),(15,.var [num 4,str ByteArray.empty,num 0,boo false,num 0,num 0,num 0,str ByteArray.empty,num 0,.snil,.vec 600 k,.snil,.snil,.snil,.vec 77 1]),(600,.vec 36 6 (zd rE (vJ xs types out q k).1) 0)]) trivial ?_ ?_
    ·exact (Us 15 10 600 36 6 rfl rfl rfl).trans (Ya Zh (by simp [cst,vJ,zd,ends]) Zh)
    intro I hI k hkN hi;refine Zx ?_;refine za (fun h=>?_) fun h=>?_
    ·have h':k<out.length:=Zq h;have hw:=zh h' Za;have hl:=jS xs types out q k;have hst:vJ xs types out q (k+1)=((vJ xs types out q k).1++[(ye xs types 2 (out.getD k default) (vJ xs types out q k).2).1],(ye xs types 2 (out.getD k default) (vJ xs types out q k).2).2):=rfl;generalize vJ xs types out q k=r at hl hst ⊢;refine ⟨Zs,?_⟩;have hce:=c_ex2 hx hlen (k:=out.getD k default) (t1 _ (zk h')) (p:=r.2) Za;rw [yt] at hce;refine zg [[],[1],[],[]] [(1000,1000)] (hce) ?_;generalize ye xs types 2 (out.getD k default) r.2=e at hst ⊢;refine Zf ?_;refine ⟨⟨hl.1.symm,Za⟩,ze Zg,?_⟩;exact zp hI k rfl h' trivial (Xj hw hst (hl.1)) (Xj hw hst (hl.1)) (Xj hw hst (hl.1)) (Xj hw hst (hl.1))
    obtain rfl:k=out.length:=Zp h;have hl:=jS xs types out q out.length;generalize vJ xs types out q out.length=r at hF hl ⊢;subst hF;unfold aQT;rw [aQ_prj,yA a];exact Mq
   have n1': ¬n=1:=Zc n1;rw [if_neg n1'] at hF;refine za (fun n2=>?_) fun n2=>?_
   ·have n2':n=2:=Zc n2;rw [if_pos n2'] at hF;subst hF;unfold aQT;rw [aQ_dst,yA a];exact Mq
   have n2': ¬n=2:=Zc n2;rw [if_neg n2'] at hF;refine za (fun n3=>?_) fun n3=>?_
   ·have n3':n=3:=Zc n3;rw [if_pos n3'] at hF;have hce:=c_mgroup hx hlen a (p:=p1+1) Za;rw [hF,yA a] at hce;unfold aQT at hce ⊢;rw [zW] at hce ⊢;refine zg [[],[1],[15]] [(1000,1000)] (hce) ?_;refine Zf ?_;exact Mq
   have n3': ¬n=3:=Zc n3;rw [if_neg n3'] at hF;have hcb:=ih (p1+1) Za;unfold aQT at hcb;rw [zW] at hcb;have hqt:=hQT (p1+1);generalize yp xs s d (p1+1)=B at hF hcb hqt;obtain ⟨⟨b,more⟩,p2⟩:=B;obtain ⟨hkn2,hlen2,hq2⟩:=hqt;simp only at hF hcb hkn2 hlen2 hq2;refine za (fun n4=>?_) fun n4=>?_
   ·have n4':n=4:=Zc n4;rw [if_pos n4'] at hF;simp only [hwd];refine zg [[],[6],[]] [(1000,1000)] (hcb) ?_;refine Zf ?_;have hce:=c_msets hx hS h0 types hlen hkn a b (p:=p2) Za;rw [hF] at hce;unfold aQT at hce ⊢;rw [zW F.1.1,zW a,zW b] at hce;rw [zW];refine zg [[],[6],[0,0,0,0,0,0,0,0,0,6,6,7,1,1,15],[0,0,0,0,0,0,0,0,0,6,6,7,1,1,15],[1]] [(1000,1000)] (hce) ?_;refine Zf ?_;exact Mq
   have n4': ¬n=4:=Zc n4;rw [if_neg n4'] at hF;simp only [hwd];refine zg [[],[6],[]] [(1000,1000)] (hcb) ?_;refine Zf ?_;refine ⟨Za,Za,by rw [Yb,zc,zc],?_⟩;refine za (fun n8=>?_) fun n8=>?_
   ·have n8':types.length+more.length>8:=Zq n8;rw [if_pos n8'] at hF;subst hF;unfold aQT;rw [zW];exact Mq
   have n8': ¬types.length+more.length>8:=Zp n8;rw [if_neg n8'] at hF;refine zg [[],[]] [(1000,1000)] (zS (n:=6) (p:=p2) hx Za Za Za) ?_;have h6:1<=1+drawn xs p2 6/\1+drawn xs p2 6<=6:=by
    have:=zu xs p2 (n:=6) Za;omega
   have hw6:IntKind.i64.wrap (1+drawn xs p2 6)=1+drawn xs p2 6:=zt Za Za;refine Zy hw6 ?_;have hce:=c_ex3 hx (types:=types++more) ZC (k:=2) (.inr (.inl rfl)) (p:=p2+1) Za;rw [yt] at hce;rw [zf rI];refine zg [[],[1],[],[]] [(1000,1000)] (hce) ?_;generalize ye xs (types++more) 3 2 (p2+1)=e at hF ⊢;refine Zf ?_;refine ⟨ze Zg,?_⟩;generalize 1+drawn xs p2 6=k at hF h6 ⊢;have hk6:k=1\/k=2\/k=3\/k=4\/k=5\/k=6:=Za;refine za (fun k5=>?_) fun k5=>?_
   ·have k5': ¬k<5:=by have:k=5:=by simpa using k5
                       omega
    rw [if_neg k5'] at hF;exact GI
   have k5': ¬k=5:=Zc k5;refine za (fun k6=>?_) fun k6=>?_
   ·have k6': ¬k<5:=by have:k=6:=by simpa using k6
                       omega
    rw [if_neg k6'] at hF;exact GI
   have k6': ¬k=6:=Zc k6;rw [if_pos Za] at hF;exact GI
end
section
attribute [local simp, local push_cast] num boo str
theorem step_ind {P Q:Ex->Prop} {xs types:List Int} {f:Int->Nat->Ex×Nat} (hp: ∀k p,Q (xg xs types k p).1) (hb: ∀op l,l.length<=4->(∀e∈l,P e)->Q (bin op l)) (hf: ∀k q,P (f k q).1) (k:Int) (p:Nat):Q (yn xs types f k p).1:=by
 have h1: ∀op x q,Q (mkE op (oneM f x q)).1:=fun op x q=>hb _ _ (by simp [oneM]) (by simp [oneM,hf]);have h2: ∀op x q,Q (mkE op (twoM f x q)).1:=fun op x q=>hb _ _ (by simp [twoM]) (by simp [twoM,hf]);have h3: ∀op x q,Q (mkE op (yl f x q)).1:=fun op x q=>hb _ _ (by simp [yl]) (by simp [yl,hf]);have hm: ∀x q m,∀e∈(yD f x q m).1,P e:=fun x q m=>by
  induction m with
  | zero=>intro e he;simp [yD] at he
  | succ m ih=>
    intro e he;simp only [yD,Yr,YK] at he;rcases he with he | rfl
    ·exact ih e he
    ·exact hf _ _
 have h4: ∀op x q,Q (mkE op (inE xs f x q)).1:=fun op x q=>by
  have a3:=zu xs (twoM f x q).2 (n:=3) Za;refine hb _ _ ?_ fun e he=>?_
  ·simp only [inE,Yb,gQ];have:(twoM f x q).1.length=2:=rfl;omega
  ·simp only [inE,Yr] at he;rcases he with he | he
   ·exact Kf
   ·exact hm _ _ _ e he
 unfold yn qo
 repeat' split
 all_goals first | exact hp _ _ | exact h1 _ _ _ | exact h2 _ _ _ | exact h3 _ _ _ | exact h4 _ _ _
theorem exprM_ind {P:Nat->Ex->Prop} {xs types:List Int} (hp: ∀d k p,P d (xg xs types k p).1) (hb: ∀d op l,l.length<=4->(∀e∈l,P d e)->P (d+1) (bin op l)): ∀d k p,P d (ye xs types d k p).1
 | 0,k,p=>hp 0 k p
 | 1,k,p=>hp 1 k p
 | d+2,k,p=>step_ind (hp (d+2)) (hb (d+1)) (exprM_ind hp hb (d+1)) k p
theorem sum_le {α:Type} (f:α->Nat) (B:Nat): ∀l:List α,(∀x∈l,f x<=B)->(l.map f).sum<=l.length * B
 | [],_=>Yj _
 | x::l,h=>by
   have:=sum_le f B l fun y hy=>h y (Zu hy);have:=h x Zd;rw [Y0,Uz,Y5,Nat.succ_mul];omega
theorem tsz_pick (xs types:List Int) (k:Int) (p:Nat):tszE (xg xs types k p).1=1:=by
 have:(xg xs types k p).1.kids=[]:=by
  unfold xg
  split
  ·rfl
  ·simp only [kj]
   repeat' split
   all_goals rfl
 rw [tszE_eq,this];rfl
theorem tsz_expr (xs types:List Int): ∀d k p,tszE (ye xs types d k p).1<=5 ^ d:=
 exprM_ind (P:=fun d e=>tszE e<=5 ^ d) (fun d k p=>by rw [tsz_pick];exact Nat.pos_of_ne_zero (by simp)) fun d op l hl h=>by
  have h1:=sum_le tszE (5 ^ d) l h;have h2:l.length * 5 ^ d<=4 * 5 ^ d:=YJ _ hl;have h3:0<5 ^ d:=Nat.pow_pos Za;rw [tszE_eq,Nat.pow_succ];show 1+(l.map tszE).sum<=_;omega
structure GE (e:Ex):Prop where
 ok:Ok12 e
 okx:OkX e
 tsz:tszE e<=125
theorem gY (xs types:List Int) {d:Nat} (hd:d<=3) (k:Int) (p:Nat):GE (ye xs types d k p).1:=
 ⟨exprM_ok ..,exprM_okx ..,Y3 (tsz_expr ..) (Nat.pow_le_pow_right (n:=5) Za hd)⟩
theorem ge_Z:GE eZ:=⟨ok_nil rfl,⟨_,gh,Yj _,fun k hk=>by cases hk⟩,Zi⟩
theorem ge_pick (xs types:List Int) (k:Int) (p:Nat):GE (xg xs types k p).1:=gY xs types (d:=1) Za k p
structure QG (q:Qr) (n:Nat):Prop where
 ok:OkQ q
 okx:OkXQ q
 tsz:tszQ q<=n
theorem QG.mono {q:Qr} {n m:Nat} (h:QG q n) (hn:n<=m):QG q m:=⟨h.ok,h.okx,Y3 h.tsz hn⟩
theorem qg_mk {q:Qr} {n:Nat} (hc:GE q.cond) (he: ∀e∈q.exprs,GE e) (hel:q.exprs.length<=1000) (hg: ∀a∈q.aggs,GE a.arg) (hgl:q.aggs.length<=1000) (ht:q.types.length<=1000) (hrl:q.rows.length<=1000)
 (hr: ∀r∈q.rows,r.length<=1000/\ ∀v∈r,okV v) (hkl:q.kids.length<=2) (hk: ∀k∈q.kids,QG k n):QG q (2000000+2 * n):=by
 refine ⟨⟨_,⟨hc.ok,hel,fun e h=>(he e h).ok,hgl,fun a h=>(hg a h).ok,ht,hrl,fun r h=>(hr r h).1,Za⟩,fun k h=>(hk k h).ok⟩,⟨_,⟨hc.okx,fun e h=>(he e h).okx,fun a h=>(hg a h).okx,fun r h=>(hr r h).2⟩,fun k h=>(hk k h).okx⟩,?_⟩;have h1:=sum_le tszE 125 q.exprs fun e h=>(he e h).tsz;have h2:=sum_le (fun a:Agg=>tszE a.arg) 125 q.aggs fun a h=>(hg a h).tsz;have h3:=sum_le List.length 1000 q.rows fun r h=>(hr r h).1;have h4:=sum_le tszQ n q.kids fun k h=>(hk k h).tsz;have h5:q.kids.length * n<=2 * n:=YJ _ hkl;have h6:q.rows.length * 1000<=1000 * 1000:=YJ _ hrl;have h7:=hc.tsz;rw [tszQ_eq,allT];omega
theorem yr {α:Type} {P:α->Prop}: ∀x∈([]:List α),P x:=fun x h=>by cases h
theorem ky {α:Type} {P:α->Prop} {a:α} (h:P a): ∀x∈[a],P x:=fun x hx=>by rw [YK.1 hx];exact h
theorem two_all {α:Type} {P:α->Prop} {a b:α} (h:P a) (h2:P b): ∀x∈[a,b],P x:=fun x hx=>by
 rcases YB.1 hx with rfl | hx
 ·exact h
 ·exact ky h2 x hx
theorem snoc_all {α:Type} {P:α->Prop} {l:List α} {a:α} (h: ∀x∈l,P x) (h2:P a): ∀x∈l++[a],P x:=fun x hx=>(Yr.1 hx).elim (h x) (ky h2 x)
theorem projP_G (xs types out:List Int) (p:Nat): ∀n,∀e∈(vJ xs types out p n).1,GE e
 | 0=>yr
 | n+1=>snoc_all (projP_G xs types out p n) (gY xs types (d:=2) Za _ _)
theorem pickTo_G (xs cs types:List Int) (p:Nat): ∀n,∀e∈(yF xs cs types p n).1,GE e
 | 0=>yr
 | n+1=>snoc_all (pickTo_G xs cs types p n) (ge_pick _ _ _ _)
theorem listP_G (xs types:List Int) (p:Nat): ∀n,∀e∈(yJ xs types p n).1.1,GE e
 | 0=>yr
 | n+1=>snoc_all (listP_G xs types p n) (gY xs types (d:=2) Za _ _)
theorem magg_G (xs types:List Int) (p:Nat):GE (magg xs types p).1.1.arg:=by
 unfold magg
 split
 ·exact ge_Z
 split<;>exact gY xs types (d:=2) Za _ _
theorem maggs_G (xs types:List Int) (p:Nat): ∀n,∀a∈(xN xs types p n).1.1,GE a.arg
 | 0=>yr
 | n+1=>snoc_all (maggs_G xs types p n) (magg_G ..)
theorem proj_G {es:List Ex} (he: ∀e∈es,GE e) (hl:es.length<=1000) {a:Qr} {n:Nat} (ha:QG a n):QG (jo es a) (2000000+2 * n):=
 qg_mk (q:=jo es a) ge_Z he hl yr (Yj _) (Yj _) (Yj _) yr (by simp [jo,Qr.kids]) (ky ha)
theorem mgroup_G (xs types:List Int) {a:Qr} {n:Nat} (ha:QG a n) (p:Nat):QG (jh xs types a p).1.1 (2000000+2 * n):=by
 have h3:=zu xs p (n:=3) Za;have h4:=zu xs (yJ xs types (p+1) (drawn xs p 3).toNat).2 (n:=2) Za;exact qg_mk (q:=(jh xs types a p).1.1) ge_Z (listP_G _ _ _ _) (by show (yJ xs types (p+1) (drawn xs p 3).toNat).1.1.length<=1000;rw [(uW ..).1.1];omega) (maggs_G _ _ _ _)
  (by show (xN xs types _ (1+drawn xs (yJ xs types (p+1) (drawn xs p 3).toNat).2 2).toNat).1.1.length<=1000;rw [(uU ..).1.1];omega) (Yj _) (Yj _) yr (by simp [jh,qGrp,Qr.kids]) (ky ha)
theorem mleaf_G (xs:List Int) (s:Sch) (p:Nat):QG (jT xs s p).1.1 2000000:=by
 unfold jT
 split
 ·obtain ⟨h1,h2,h3⟩:=ud xs (m:=2) (by omega) (p+1)
  have h4:=zu xs (yk xs 2 (p+1)).2 (n:=3) (by omega)
  refine qg_mk (n:=0) (q:=qVals _ _) ge_Z yr (Nat.zero_le _) yr (Nat.zero_le _) (by show (yk xs 2 (p+1)).1.length<=1000;omega) ?_ (fun r hr=>?_) (Nat.zero_le _) yr
  ·show (vW xs _ _ _).length≤1000;rw [rowsTo_len];omega
  ·have hr:r∈vW xs (yk xs 2 (p+1)).1 ((yk xs 2 (p+1)).2+1) (drawn xs (yk xs 2 (p+1)).2 3).toNat:=hr;simp only [vW] at hr;obtain ⟨i,_,rfl⟩:=Yv.1 hr;refine ⟨by unfold rowM;rw [rowTo_len];omega,fun v hv=>?_⟩;simp only [rowM,rowTo] at hv;obtain ⟨j,_,rfl⟩:=Yv.1 hv;unfold u9;rw [if_pos rfl];exact okV_at (okV_made _) _
 ·exact qg_mk (n:=0) (q:=qScan _) ge_Z yr (Yj _) yr (Yj _) (Yj _) (Yj _) yr (Yj _) yr
theorem mstep_G {xs:List Int} {s:Sch} {f:Nat->(Qr×List Int)×Nat} {w:Nat} (hf: ∀p,QG (f p).1.1 w) {a:Qr} (ha:QG a w) {types:List Int} (hl:types.length<=1000) (n:Int) (p:Nat):QG (gb xs s f a types n p).1.1 (6000000+4 * w):=by
 have hfp:=hf p;unfold gb
 split
 ·exact (qg_mk (q:=qSel _ _) (gY xs types Za 2 p) yr (Yj _) yr (Yj _) (Yj _) (Yj _) yr (by simp [qSel,Qr.kids]) (ky ha)).mono Za
 split
 ·obtain ⟨h1,h2,h3⟩:=ud xs (m:=3) Za p;exact (proj_G (projP_G _ _ _ _ _) (by rw [(jS ..).1];omega) ha).mono Za
 split
 ·exact (qg_mk (q:=qDist _) ge_Z yr (Yj _) yr (Yj _) (Yj _) (Yj _) yr (by simp [qDist,Qr.kids]) (ky ha)).mono Za
 split
 ·exact (mgroup_G _ _ ha _).mono Za
 split
 ·exact (qg_mk (q:=(msets xs s a (f p).1.1 types (f p).2).1.1) ge_Z yr (Yj _) yr (Yj _) (Yj _) (Yj _) yr (by simp [msets,qSet,Qr.kids])
   (two_all (ha.mono Za) (proj_G (pickTo_G _ _ _ _ _) (by rw [(vz ..).1];exact hl) hfp))).mono (m:=6000000+4 * w) Za
 split
 ·exact ha.mono Za
 ·exact (qg_mk (q:=qJoin _ _ _ _) (gY xs _ Za 2 _) yr (Yj _) yr (Yj _) (Yj _) (Yj _) yr (by simp [qJoin,Qr.kids]) (two_all ha hfp)).mono Za
def wG:Nat->Nat
 | 0=>2000000
 | d+1=>6000000+4 * wG d
theorem mquery_G (xs:List Int) {s:Sch} (hS:SmallS s) (h0:0<s.length) (hT: ∀T∈s,1<=T.columns.length/\ ∀c∈T.columns,c.type=1\/c.type=2\/c.type=3): ∀d p,QG (yp xs s d p).1.1 (wG d)
 | 0,p=>mleaf_G xs s p
 | d+1,p=>by
   have ih: ∀p,QG (yp xs s d p).1.1 (wG d):=mquery_G xs hS h0 hT d;rw [yp]
   split
   ·exact (mleaf_G xs s (p+1)).mono (by simp only [wG];omega)
   ·exact mstep_G ih (ih (p+1)) (mquery_T xs hS h0 hT d (p+1)).len _ _
end
section
attribute [local simp, local push_cast] Ta aRow rRow rTab yx yA yM z7 zQ aAgg vQ mEval zR
def vI (i:Inst):Ob:= .var [.d (.sl 1 (zd rTab i))]
theorem made_all (l:List Int) {most:Int} (hm:0<=most) (hm2:most<=100): ∃(s:Sch) (q:Nat) (i:Inst) (q2:Nat),s=(xe l 0).1/\q=(xe l 0).2/\i=(ge l most s q).1/\q2=(ge l most s q).2/\SmallS s/\1<=s.length/\(∀T∈s,1<=T.columns.length/\ ∀c∈T.columns,c.type=1\/c.type=2\/c.type=3)/\SmallI i/\q<=1000000/\q2<=300000000:=by
 obtain ⟨hS,hl1⟩:=schemaM_ok l 0;have hT:=schemaM_typed l 0;have hq:=schemaM_q l;have hI:=instM_small l hm hm2 hS (xe l 0).2;have hq2:(ge l most (xe l 0).1 (xe l 0).2).2<=300000000:=by
  have:=instTo_q l hm hm2 (fun T h=>(hS.tab T h).cols) (xe l 0).2 (xe l 0).1.length (Ys _);have:=hS.len;unfold ge;omega
 exact ⟨_,_,_,_,rfl,rfl,rfl,rfl,hS,hl1,hT,hI,hq,hq2⟩
theorem instTo_at (xs:List Int) (most:Int) (s:Sch) (p:Nat): ∀i n,n<i-> ∃q m,(ym xs most s p i).1.getD n default=tabI xs (s.getD n default).columns q m
 | 0,n,h=>absurd h Za
 | i+1,n,h=>by
   have hl:=jW xs most s p i;rw [ym,Yf];by_cases hn:n<i
   ·rw [List.getElem?_append_left Za,←Yf];exact instTo_at xs most s p i n hn
   ·obtain rfl:n=i:=Za;rw [List.getElem?_append_right Za,hl,Nat.sub_self];exact ⟨_,_,rfl⟩
end
end Go.Proofs.YtnmibokjpedkiaaGreatDoor
