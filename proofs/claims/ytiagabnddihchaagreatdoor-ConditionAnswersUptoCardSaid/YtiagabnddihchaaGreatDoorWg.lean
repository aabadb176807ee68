/- Conditions over finite domains (part Wg) -/
import Derived.Test.YtiagabnddihchaaGreatDoorWf
set_option maxRecDepth 100000
set_option maxHeartbeats 4000000
set_option linter.all false
namespace Go.Proofs.YtiagabnddihchaaGreatDoor
section
open Go.Am
attribute [local simp, local push_cast] num boo str ints aV
def ve (xs:List Int):Prop:=xs.length<=2000/\ ∀x∈xs,i64 x
def zU (xs:List Int) (p:Nat):Ob:= .var [.d (.sl 1 (zg rI xs)),.d (.lit (.int .i64 (min p xs.length:Nat)))]
attribute [local simp, local push_cast] zU
def drawn (xs:List Int) (p:Nat) (n:Int):Int:=xs.getD p 0 % n
theorem zB (xs:List Int) (p:Nat) {n:Int} (hn:0<n):0<=drawn xs p n/\drawn xs p n<n:=
 ⟨Int.emod_nonneg _ (by omega),Int.emod_lt_of_pos _ hn⟩
theorem tmod_fix (a n:Int) (hn:0<n):(if a.tmod n<0 then a.tmod n+n else a.tmod n)=a % n:=by
 have h1:=Int.emod_nonneg a (show n≠0 by omega)
 have h2:=Int.emod_lt_of_pos a hn
 have h3:=Int.tmod_eq_emod (a:=a) (b:=n)
 by_cases h:0<=a\/n ∣ a
 ·rw [if_pos h] at h3
  rw [if_neg (by omega)];omega
 ·rw [if_neg h] at h3
  have h4:a % n≠0:=fun h5=>h (.inr (Int.dvd_of_emod_eq_zero h5))
  rw [if_pos (by omega)];omega
theorem c_mod {x n:Int} (hx:i64 x) (hn:1<=n) (hn2:n<=1000000):ACall Tryz.prog 73 [num x,num n] [] (num (x % n)) []:=by
 refine zm mixed ttok Tryz.func73 Tryz.ntmps73 Tryz.results73 ?_
 generalize hr:num (x % n)=R
 simp -implicitDefEqProofs only [argT,↓zb,push_cast,simprocAttr,tte]
 obtain ⟨hx1,hx2⟩:=hx
 have h0:decide (n<1)=false:=decide_eq_false (by omega)
 simp -implicitDefEqProofs only [h0,↓zb,push_cast,simprocAttr,tte]
 have hz:(n==0)=false:=beq_eq_false_iff_ne.2 (by omega)
 have hfix:=tmod_fix x n (by omega)
 have hb:=Int.emod_lt_of_pos x (show 0<n by omega)
 have hnn:=Int.emod_nonneg x (show n≠0 by omega)
 refine ⟨by omega,?_⟩
 refine za (fun h=>?_) fun h=>?_
 ·rw [if_pos (of_decide_eq_true h)] at hfix
  have hw:IntKind.i64.wrap (x.tmod n+n)=x % n:=by rw [hfix];exact z7 (by omega) (by omega)
  rw [hw]
  exact zk trivial hr (by simp [ends])
 ·rw [if_neg (of_decide_eq_false h)] at hfix
  rw [hfix]
  exact zk trivial hr (by simp [ends])
theorem c_raw {xs:List Int} {p:Nat} (hx:ve xs):ACall Tryz.prog 74 [.ptr 1000 0] [(1000,zU xs p)] (num (xs.getD p 0)) [(1000,zU xs (p+1))]:=by
 refine zm mixed ttok Tryz.func74 Tryz.ntmps74 Tryz.results74 ?_
 simp -implicitDefEqProofs only [zU,argT,rI,↓zb,push_cast,simprocAttr,tte]
 obtain ⟨hx1,hx2⟩:=hx
 have hd:(default:Int)=0:=rfl
 by_cases hp:p<xs.length
 ·have hm:min p xs.length=p:=by omega
  have hm2:min (p+1) xs.length=p+1:=by omega
  have hw2:IntKind.i64.wrap ((p:Int)+1-1)=(p:Int):=by rw [z7 (by omega) (by omega)];omega
  rw [hm,hm2,hd,z7 (n:=(p:Int)+1) (by omega) (by omega)]
  simp only [hw2]
  refine ⟨zh (by kernel_rfl),za (fun h=>?_) (fun h=>⟨⟨by omega,by omega⟩,zh (by kernel_rfl),?_⟩)⟩
  ·simp at h;omega
  ·refine zf [0] rfl trivial trivial ?_ rfl ?_ ?_
   ·rfl
   ·simp only [ends,ite_true,ite_false,reduceIte,Nat.reduceEqDiff,Nat.reduceLeDiff,Nat.reduceLT,Nat.reduceAdd,reduceCtorEq,num,boo,str,ints,aV,zU]<;>rfl
   ·simp only [ends,ite_true,ite_false,reduceIte,Nat.reduceEqDiff,Nat.reduceLeDiff,Nat.reduceLT,Nat.reduceAdd,reduceCtorEq,num,boo,str,ints,aV,zU]
 ·have hm:min p xs.length=xs.length:=by omega
  have hm2:min (p+1) xs.length=xs.length:=by omega
  rw [hm,hm2]
  refine ⟨zh (by kernel_rfl),za (fun h=>?_) (fun h=>?_)⟩
  ·refine zf [0] rfl trivial trivial ?_ rfl ?_ ?_
   ·simp [num,List.getD_eq_getElem?_getD,List.getElem?_eq_none (show xs.length<=p by omega)]
   ·simp only [ends,ite_true,ite_false,reduceIte,Nat.reduceEqDiff,Nat.reduceLeDiff,Nat.reduceLT,Nat.reduceAdd,reduceCtorEq,num,boo,str,ints,aV,zU]
   ·simp only [ends,ite_true,ite_false,reduceIte,Nat.reduceEqDiff,Nat.reduceLeDiff,Nat.reduceLT,Nat.reduceAdd,reduceCtorEq,num,boo,str,ints,aV,zU]
  ·simp at h
theorem tape_i64 {xs:List Int} (hx:ve xs) (p:Nat):i64 (xs.getD p 0):=by
 by_cases hp:p<xs.length
 ·rw [List.getD_eq_getElem?_getD,List.getElem?_eq_getElem hp];exact hx.2 _ (List.getElem_mem hp)
 ·rw [List.getD_eq_getElem?_getD,List.getElem?_eq_none (by omega)];exact ⟨by decide,by decide⟩
theorem c_N {xs:List Int} {n:Int} {p:Nat} (hx:ve xs) (hn:1<=n) (hn2:n<=1000000):ACall Tryz.prog 26 [.ptr 1000 0,num n] [(1000,zU xs p)] (num (drawn xs p n)) [(1000,zU xs (p+1))]:=by
 refine zm mixed ttok Tryz.func26 Tryz.ntmps26 Tryz.results26 ?_
 simp -implicitDefEqProofs only [argT,↓zb,push_cast,simprocAttr,tte]
 refine zd [[]] [(1000,1000)] (c_raw (p:=p) hx) ?_
 simp -implicitDefEqProofs only [↓zb,push_cast,simprocAttr,tte]
 refine zd [[],[]] [] (c_mod (x:=xs.getD p 0) (n:=n) (tape_i64 hx p) hn hn2) ?_
 simp -implicitDefEqProofs only [↓zb,push_cast,simprocAttr,tte]
 refine zf [0] rfl trivial trivial rfl rfl ?_ ?_
 ·simp only [ends,ite_true,ite_false,reduceIte,Nat.reduceEqDiff,Nat.reduceLeDiff,Nat.reduceLT,Nat.reduceAdd,reduceCtorEq,num,boo,str,ints,aV,zU]
 ·simp only [ends,ite_true,ite_false,reduceIte,Nat.reduceEqDiff,Nat.reduceLeDiff,Nat.reduceLT,Nat.reduceAdd,reduceCtorEq,num,boo,str,ints,aV,zU]
theorem kR {xs:List Int} {lo hi:Int} {p:Nat} (hx:ve xs) (h0: -1000<=lo) (h1:lo<=hi) (h2:hi<=1000):ACall Tryz.prog 45 [.ptr 1000 0,num lo,num hi] [(1000,zU xs p)] (num (lo+drawn xs p (hi-lo+1))) [(1000,zU xs (p+1))]:=by
 refine zm mixed ttok Tryz.func45 Tryz.ntmps45 Tryz.results45 ?_
 have hr:=zB xs p (n:=hi-lo+1) (by omega)
 have w1:IntKind.i64.wrap (hi-lo)=hi-lo:=z7 (by omega) (by omega)
 have w2:IntKind.i64.wrap (hi-lo+1)=hi-lo+1:=z7 (by omega) (by omega)
 have w3:IntKind.i64.wrap (lo+drawn xs p (hi-lo+1))=lo+drawn xs p (hi-lo+1):=z7 (by omega) (by omega)
 simp -implicitDefEqProofs only [argT,w1,w2,↓zb,push_cast,simprocAttr,tte]
 refine zd [[],[]] [(1000,1000)] (c_N (n:=hi-lo+1) (p:=p) hx (by omega) (by omega)) ?_
 simp -implicitDefEqProofs only [w3,↓zb,push_cast,simprocAttr,tte]
 refine zf [0] rfl trivial trivial rfl rfl ?_ ?_
 ·simp only [ends,ite_true,ite_false,reduceIte,Nat.reduceEqDiff,Nat.reduceLeDiff,Nat.reduceLT,Nat.reduceAdd,reduceCtorEq,num,boo,str,ints,aV,zU]
 ·simp only [ends,ite_true,ite_false,reduceIte,Nat.reduceEqDiff,Nat.reduceLeDiff,Nat.reduceLT,Nat.reduceAdd,reduceCtorEq,num,boo,str,ints,aV,zU]
theorem vG {xs:List Int} {p:Nat} (hx:ve xs) (l:List Int) (h1:1<=l.length) (h2:l.length<=1000):ACall Tryz.prog 28 [.ptr 1000 0,ints l] [(1000,zU xs p)] (num (l.getD (drawn xs p l.length).toNat default)) [(1000,zU xs (p+1))]:=by
 refine zm mixed ttok Tryz.func28 Tryz.ntmps28 Tryz.results28 ?_
 have hr:=zB xs p (n:=(l.length:Int)) (by omega)
 simp -implicitDefEqProofs only [argT,rI,↓zb,push_cast,simprocAttr,tte]
 refine zd [[],[]] [(1000,1000)] (c_N (n:=(l.length:Int)) (p:=p) hx (by omega) (by omega)) ?_
 simp -implicitDefEqProofs only [↓zb,push_cast,simprocAttr,tte]
 refine ⟨by omega,?_⟩
 refine zf [0] rfl trivial trivial rfl rfl ?_ ?_
 ·simp only [ends,ite_true,ite_false,reduceIte,Nat.reduceEqDiff,Nat.reduceLeDiff,Nat.reduceLT,Nat.reduceAdd,reduceCtorEq,num,boo,str,ints,aV,zU]
 ·simp only [ends,ite_true,ite_false,reduceIte,Nat.reduceEqDiff,Nat.reduceLeDiff,Nat.reduceLT,Nat.reduceAdd,reduceCtorEq,num,boo,str,ints,aV,zU]
theorem uJ (n:Int):ACall Tryz.prog 59 [num n] [] (aV ⟨1,n,ByteArray.empty⟩) []:=by
 refine zm mixed ttok Tryz.func59 Tryz.ntmps59 Tryz.results59 ?_
 generalize hr:aV ⟨1,n,ByteArray.empty⟩=R
 simp -implicitDefEqProofs only [argT,↓zb,push_cast,simprocAttr,tte]
 exact zr trivial hr (by simp [ends])
theorem c_fbool (b:Bool):ACall Tryz.prog 76 [boo b] [] (aV (ofV b)) []:=by
 refine zm mixed ttok Tryz.func76 Tryz.ntmps76 Tryz.results76 ?_
 generalize hr:aV (ofV b)=R
 simp -implicitDefEqProofs only [argT,↓zb,push_cast,simprocAttr,tte]
 refine za (fun h=>?_) fun h=>?_
 ·exact zr trivial (by rw [<-hr,ofV,if_pos h]) (by simp [ends])
 ·exact zr trivial (by rw [<-hr,ofV,if_neg (by rw [h];decide)]) (by simp [ends])
theorem vU (s:ByteArray):ACall Tryz.prog 77 [str s] [] (aV ⟨3,0,s⟩) []:=by
 refine zm mixed ttok Tryz.func77 Tryz.ntmps77 Tryz.results77 ?_
 generalize hr:aV ⟨3,0,s⟩=R
 simp -implicitDefEqProofs only [argT,↓zb,push_cast,simprocAttr,tte]
 exact zr trivial hr (by simp [ends])
end
section
open Go.Am
attribute [local simp, local push_cast] num boo str ints aV zU
def intsF:List Int:=[0,1,2,3, -1,5]
def textsF:List ByteArray:=[⟨#[97]⟩,⟨#[98]⟩,⟨#[]⟩,⟨#[97,98]⟩]
def valF (xs:List Int) (typ:Int) (p:Nat):Val:=
 if typ=1 then ⟨1,intsF.getD (drawn xs p 6).toNat default,ByteArray.empty⟩ else if typ=2 then ofV (drawn xs p 2==1) else ⟨3,0,textsF.getD (drawn xs p 4).toNat default⟩
def yi (xs:List Int) (typ:Int) (nl:Bool) (p:Nat):Val×Nat:=
 if nl=true then (if drawn xs p 4=3 then (zi,p+1) else (valF xs typ (p+1),p+2)) else (valF xs typ p,p+1)
theorem x7 {p:Prop} {k n:Int} {x:ByteArray} {t:List (Nat×A)} {o os':List (Nat×Ob)} {R:A} (hp:p) (hr:aV ⟨k,n,x⟩=R) (hc:R.closed (inO os')=true) (ho:keepO (lookO o) (inO os') os') (hin:keepIn (inO os') o):
 retx (some (p,.agg [.d (.lit (.int .i64 k)),.d (.lit (.int .i64 n)),.d (.lit (.string x))])) ⟨t,o⟩ R os':=by
 subst hr
 exact zf [0,0,0] rfl hp (by simp) rfl hc ho hin
theorem wc {xs:List Int} {typ:Int} {nl:Bool} {p:Nat} (hx:ve xs):ACall Tryz.prog 29 [.ptr 1000 0,num typ,boo nl] [(1000,zU xs p)] (aV (yi xs typ nl p).1) [(1000,zU xs (yi xs typ nl p).2)]:=by
 refine zm mixed ttok Tryz.func29 Tryz.ntmps29 Tryz.results29 ?_
 have h6:=fun p=>zB xs p (n:=6) (by omega)
 have h4:=fun p=>zB xs p (n:=4) (by omega)
 cases nl
 ·simp -implicitDefEqProofs only [argT,↓zb,push_cast,simprocAttr,tte]
  refine za (fun g1=>?_) fun g1=>?_
  ·have e1:typ=1:=by simpa using g1
   refine zd [[],[1]] [(1000,1000)] (vG (p:=p) hx intsF (by decide) (by decide)) ?_ (hargs:=by simp [ends,bs,intsF,zo,zv,rI])
   simp -implicitDefEqProofs only [↓zb,push_cast,simprocAttr,tte]
   refine zd [[]] [] (uJ (intsF.getD (drawn xs (p) (intsF.length:Int)).toNat default)) ?_
   simp -implicitDefEqProofs only [↓zb,push_cast,simprocAttr,tte]
   exact x7 trivial (by simp [yi,valF,e1,intsF]) (by simp [ends]) (by simp [yi,e1,ends]) (by simp [ends])
  refine za (fun g2=>?_) fun g2=>?_
  ·have e1: ¬typ=1:=by simpa using g1
   have e2:typ=2:=by simpa using g2
   refine zd [[],[]] [(1000,1000)] (c_N (n:=2) (p:=p) hx (by omega) (by omega)) ?_
   simp -implicitDefEqProofs only [↓zb,push_cast,simprocAttr,tte]
   refine zd [[]] [] (c_fbool (drawn xs (p) 2==1)) ?_
   simp -implicitDefEqProofs only [↓zb,push_cast,simprocAttr,tte]
   exact x7 trivial (by simp [yi,valF,e2,ofV]) (by simp [ends]) (by simp [yi,e2,ends]) (by simp [ends])
  have e1: ¬typ=1:=by simpa using g1
  have e2: ¬typ=2:=by simpa using g2
  refine zd [[],[]] [(1000,1000)] (c_N (n:=4) (p:=p) hx (by omega) (by omega)) ?_
  simp -implicitDefEqProofs only [↓zb,push_cast,simprocAttr,tte]
  have hd:=h4 (p)
  have hv:yi xs typ false p=(⟨3,0,textsF.getD (drawn xs (p) 4).toNat default⟩,p+1):=by simp [yi,valF,e1,e2]
  rw [hv]
  refine ⟨hd,?_⟩
  clear hv h4 h6
  generalize drawn xs (p) 4=d at hd ⊢
  have hd4:d=0\/d=1\/d=2\/d=3:=by omega
  rcases hd4 with rfl | rfl | rfl | rfl
  ·simp -implicitDefEqProofs only [Int.reduceToNat,↓zb,push_cast,simprocAttr,tte]
   refine zd [[]] [] (vU ⟨#[97]⟩) ?_
   simp -implicitDefEqProofs only [↓zb,push_cast,simprocAttr,tte]
   exact x7 trivial (by simp [textsF]) (by simp [ends]) (by simp [ends]) (by simp [ends])
  ·simp -implicitDefEqProofs only [Int.reduceToNat,↓zb,push_cast,simprocAttr,tte]
   refine zd [[]] [] (vU ⟨#[98]⟩) ?_
   simp -implicitDefEqProofs only [↓zb,push_cast,simprocAttr,tte]
   exact x7 trivial (by simp [textsF]) (by simp [ends]) (by simp [ends]) (by simp [ends])
  ·simp -implicitDefEqProofs only [Int.reduceToNat,↓zb,push_cast,simprocAttr,tte]
   refine zd [[]] [] (vU ⟨#[]⟩) ?_
   simp -implicitDefEqProofs only [↓zb,push_cast,simprocAttr,tte]
   exact x7 trivial (by simp [textsF]) (by simp [ends]) (by simp [ends]) (by simp [ends])
  ·simp -implicitDefEqProofs only [Int.reduceToNat,↓zb,push_cast,simprocAttr,tte]
   refine zd [[]] [] (vU ⟨#[97,98]⟩) ?_
   simp -implicitDefEqProofs only [↓zb,push_cast,simprocAttr,tte]
   exact x7 trivial (by simp [textsF]) (by simp [ends]) (by simp [ends]) (by simp [ends])
 ·simp -implicitDefEqProofs only [argT,↓zb,push_cast,simprocAttr,tte]
  refine zd [[],[]] [(1000,1000)] (c_N (n:=4) (p:=p) hx (by omega) (by omega)) ?_
  simp -implicitDefEqProofs only [↓zb,push_cast,simprocAttr,tte]
  refine za (fun g0=>?_) fun g0=>?_
  ·have e0:drawn xs p 4=3:=by simpa using g0
   exact x7 trivial (by simp [yi,e0,zi]) (by simp [ends]) (by simp [yi,e0,ends]) (by simp [ends])
  have e0: ¬drawn xs p 4=3:=by simpa using g0
  refine za (fun g1=>?_) fun g1=>?_
  ·have e1:typ=1:=by simpa using g1
   refine zd [[],[1]] [(1000,1000)] (vG (p:=p+1) hx intsF (by decide) (by decide)) ?_ (hargs:=by simp [ends,bs,intsF,zo,zv,rI])
   simp -implicitDefEqProofs only [↓zb,push_cast,simprocAttr,tte]
   refine zd [[]] [] (uJ (intsF.getD (drawn xs (p+1) (intsF.length:Int)).toNat default)) ?_
   simp -implicitDefEqProofs only [↓zb,push_cast,simprocAttr,tte]
   exact x7 trivial (by simp [yi,valF,e1,e0,intsF]) (by simp [ends]) (by simp [yi,e0,e1,ends]) (by simp [ends])
  refine za (fun g2=>?_) fun g2=>?_
  ·have e1: ¬typ=1:=by simpa using g1
   have e2:typ=2:=by simpa using g2
   refine zd [[],[]] [(1000,1000)] (c_N (n:=2) (p:=p+1) hx (by omega) (by omega)) ?_
   simp -implicitDefEqProofs only [↓zb,push_cast,simprocAttr,tte]
   refine zd [[]] [] (c_fbool (drawn xs (p+1) 2==1)) ?_
   simp -implicitDefEqProofs only [↓zb,push_cast,simprocAttr,tte]
   exact x7 trivial (by simp [yi,valF,e0,e2,ofV]) (by simp [ends]) (by simp [yi,e0,e2,ends]) (by simp [ends])
  have e1: ¬typ=1:=by simpa using g1
  have e2: ¬typ=2:=by simpa using g2
  refine zd [[],[]] [(1000,1000)] (c_N (n:=4) (p:=p+1) hx (by omega) (by omega)) ?_
  simp -implicitDefEqProofs only [↓zb,push_cast,simprocAttr,tte]
  have hd:=h4 (p+1)
  have hv:yi xs typ true p=(⟨3,0,textsF.getD (drawn xs (p+1) 4).toNat default⟩,p+1+1):=by simp [yi,valF,e0,e1,e2]
  rw [hv]
  refine ⟨hd,?_⟩
  clear hv h4 h6
  generalize drawn xs (p+1) 4=d at hd ⊢
  have hd4:d=0\/d=1\/d=2\/d=3:=by omega
  rcases hd4 with rfl | rfl | rfl | rfl
  ·simp -implicitDefEqProofs only [Int.reduceToNat,↓zb,push_cast,simprocAttr,tte]
   refine zd [[]] [] (vU ⟨#[97]⟩) ?_
   simp -implicitDefEqProofs only [↓zb,push_cast,simprocAttr,tte]
   exact x7 trivial (by simp [textsF]) (by simp [ends]) (by simp [ends]) (by simp [ends])
  ·simp -implicitDefEqProofs only [Int.reduceToNat,↓zb,push_cast,simprocAttr,tte]
   refine zd [[]] [] (vU ⟨#[98]⟩) ?_
   simp -implicitDefEqProofs only [↓zb,push_cast,simprocAttr,tte]
   exact x7 trivial (by simp [textsF]) (by simp [ends]) (by simp [ends]) (by simp [ends])
  ·simp -implicitDefEqProofs only [Int.reduceToNat,↓zb,push_cast,simprocAttr,tte]
   refine zd [[]] [] (vU ⟨#[]⟩) ?_
   simp -implicitDefEqProofs only [↓zb,push_cast,simprocAttr,tte]
   exact x7 trivial (by simp [textsF]) (by simp [ends]) (by simp [ends]) (by simp [ends])
  ·simp -implicitDefEqProofs only [Int.reduceToNat,↓zb,push_cast,simprocAttr,tte]
   refine zd [[]] [] (vU ⟨#[97,98]⟩) ?_
   simp -implicitDefEqProofs only [↓zb,push_cast,simprocAttr,tte]
   exact x7 trivial (by simp [textsF]) (by simp [ends]) (by simp [ends]) (by simp [ends])
theorem c_fcol (k:Int):ACall Tryz.prog 47 [num k] [] (aE (.mk 5 0 0 ByteArray.empty k [])) []:=by
 refine zm mixed ttok Tryz.func47 Tryz.ntmps47 Tryz.results47 ?_
 generalize hr:aE (.mk 5 0 0 ByteArray.empty k [])=R
 simp -implicitDefEqProofs only [argT,↓zb,push_cast,simprocAttr,tte]
 refine zf [0,0,0,0,0,6] rfl (by simp) (by simp [zc]<;>omega) ?_ (by first | rfl | simp [ends] | (subst_vars;simp [ends])) (by simp [ends]) (by simp [ends])
 rw [<-hr];simp [zl,Ex.op,Ex.type,Ex.num,Ex.text,Ex.col,Ex.kids,zg]
def bin (op:Int) (l:List Ex):Ex:= .mk op 0 0 ByteArray.empty 0 l
theorem c_do (op:Int) (l:List Ex) (hl:l.length<=1000):ACall Tryz.prog 19 [num op,.d (.sl 6 (zg rE l))] [] (aE (bin op l)) []:=by
 refine zm mixed ttok Tryz.func19 Tryz.ntmps19 Tryz.results19 ?_
 generalize hr:aE (bin op l)=R
 simp -implicitDefEqProofs only [argT,↓zb,push_cast,simprocAttr,tte]
 refine zf [0,0,0,0,0,6] rfl (by simp) (by simp [zc]<;>omega) ?_ (by first | rfl | simp [ends] | (subst_vars;simp [ends])) (by simp [ends]) (by simp [ends])
 rw [<-hr];simp [bin,zl,Ex.op,Ex.type,Ex.num,Ex.text,Ex.col,Ex.kids]
theorem yN (v:Val) (t:Int):ACall Tryz.prog 48 [aV v,num t] [] (aE (xK v t)) []:=by
 refine zm mixed ttok Tryz.func48 Tryz.ntmps48 Tryz.results48 ?_
 generalize hr:aE (xK v t)=R
 simp -implicitDefEqProofs only [argT,↓zb,push_cast,simprocAttr,tte]
 refine za (fun h=>?_) (fun h=>za (fun h2=>?_) (fun h2=>za (fun h3=>?_) (fun h3=>?_)))
 all_goals
  refine zf [0,0,0,0,0,6] rfl (by simp) (by simp [zc]<;>omega) ?_ (by first | rfl | simp [ends] | (subst_vars;simp [ends])) (by simp [ends]) (by simp [ends])
  rw [<-hr]
  simp only [beq_iff_eq,beq_eq_false_iff_ne] at *
  simp [xK, *,zl,Ex.op,Ex.type,Ex.num,Ex.text,Ex.col,Ex.kids,zg]
theorem ux (v:Val) (t:Int):ACall Tryz.prog 80 [aV v,num t] [] (aE (xK v t)) []:=by
 refine zm mixed ttok Tryz.func80 Tryz.ntmps80 Tryz.results80 ?_
 generalize hr:aE (xK v t)=R
 simp -implicitDefEqProofs only [argT,↓zb,push_cast,simprocAttr,tte]
 refine za (fun h=>?_) (fun h=>za (fun h2=>?_) (fun h2=>za (fun h3=>?_) (fun h3=>?_)))
 all_goals
  refine zf [0,0,0,0,0,6] rfl (by simp) (by simp [zc]<;>omega) ?_ (by first | rfl | simp [ends] | (subst_vars;simp [ends])) (by simp [ends]) (by simp [ends])
  rw [<-hr]
  simp only [beq_iff_eq,beq_eq_false_iff_ne] at *
  simp [xK, *,zl,Ex.op,Ex.type,Ex.num,Ex.text,Ex.col,Ex.kids,zg]
def vc (types:List Int) (typ:Int) (n:Nat):List Int:=((List.range n).filter fun c=>types.getD c 0=typ).map fun (c:Nat)=>(c:Int)
def cols (types:List Int) (typ:Int):List Int:=vc types typ types.length
theorem colsU_succ (types:List Int) (typ:Int) (n:Nat):vc types typ (n+1)=if types.getD n 0=typ then vc types typ n++[(n:Int)] else vc types typ n:=by
 simp only [vc,List.range_succ,List.filter_append,List.map_append]
 split<;>rename_i h
 ·rw [List.filter_cons_of_pos (by simpa using h)];simp
 ·rw [List.filter_cons_of_neg (by simpa using h)];simp
theorem wa (types:List Int) (typ:Int) (n:Nat):(vc types typ n).length<=n:=by
 induction n with
 | zero=>simp [vc]
 | succ n ih=>rw [colsU_succ];split<;>(try simp only [List.length_append,List.length_cons,List.length_nil])<;>omega
theorem c_of2 (types:List Int) (typ:Int) (ht:types.length<=1000):ACall Tryz.prog 46 [ints types,num typ] [] (ints (cols types typ)) []:=by
 refine zm mixed ttok Tryz.func46 Tryz.ntmps46 Tryz.results46 ?_
 generalize hr:ints (cols types typ)=R
 simp -implicitDefEqProofs only [argT,rI,↓zb,push_cast,simprocAttr,tte]
 refine yl mixed ttok 10 [1,8,9] [] (by simp only [wH,ends,push_cast,simprocAttr];rfl) (by simp only [wI,ym,ends,push_cast,simprocAttr];rfl) types.length (fun _=>True) (fun n=>[(5,.vec 500 (vc types typ n).length)]) (fun n=>[(500,.vec 3 1 (zg rI (vc types typ n)) 0)]) trivial ?_ ?_
 ·exact (Weak.nilL 5 500 3 1 rfl rfl).trans (Weak.keepL (by simp [cst,vc,ends]) (by simp [cst,vc,zg,ends]) (by simp [cst,ends]))
 intro I hI n hn hi
 have hl:=wa types typ n
 have hs:=colsU_succ types typ n
 simp -implicitDefEqProofs only [cst,rI,↓zb,push_cast,simprocAttr,tte]
 refine za (fun h=>?_) fun h=>?_
 ·have h':n<types.length:=by simpa using h
  have hw:=zw h' (by omega)
  have hd:(default:Int)=0:=rfl
  refine ⟨(by first | omega | trivial | (refine ⟨?_,?_⟩<;>first | omega | trivial | (refine ⟨?_,?_⟩<;>first | omega | trivial | (refine ⟨?_,?_⟩<;>first | omega | trivial | rfl)))),?_⟩
  refine za (fun h2=>?_) fun h2=>?_
  ·rw [hd] at h2
   rw [if_pos (by simpa using h2)] at hs
   refine ⟨by omega,?_⟩
   exact yt hI n rfl h' trivial (by simp [hw,hs,zy,rI,ends]) (by simp [hw,hs,zy,rI,ends]) (by simp [hw,hs,zy,rI,ends]) (by simp [hw,hs,zy,rI,ends])
  ·rw [hd] at h2
   rw [if_neg (by simpa using h2)] at hs
   exact yt hI n rfl h' trivial (by simp [hw,hs,ends]) (by simp [hw,hs,ends]) (by simp [hw,hs,ends]) (by simp [hw,hs,ends])
 have hn':n=types.length:=by simp at h;omega
 subst hn'
 refine zf [1] rfl (by simp) (by simp [zc]<;>omega) ?_ (by first | rfl | simp [ends] | (subst_vars;simp [ends])) (by simp [ends]) (by simp [ends])
 rw [<-hr];rfl
end
section
open Go.Am
attribute [local simp, local push_cast] num boo str ints aV aRow zj
theorem zE (e:Ex) (ks:List Ex):(zD e ks).op=e.op:=rfl
theorem zt (e:Ex) (ks:List Ex):(zD e ks).type=e.type:=rfl
theorem zz (e:Ex) (ks:List Ex):(zD e ks).num=e.num:=rfl
theorem zu (e:Ex) (ks:List Ex):(zD e ks).text=e.text:=rfl
theorem z1 (e:Ex) (ks:List Ex):(zD e ks).col=e.col:=rfl
attribute [local simp, local push_cast] zE zt zz zu z1
def yS (e:Ex) (n:Nat):List Ex:=(e.kids.take n).map xB
theorem jd (e:Ex) (n:Nat) (h:n<e.kids.length):yS e (n+1)=yS e n++[xB (e.kids.getD n default)]:=by
 rw [yS,yr _ _ h,List.map_append];rfl
theorem jM (e:Ex) (n:Nat) (h:n<=e.kids.length):(yS e n).length=n:=by simp [yS];omega
def jq (e:Ex) (n:Nat):Bool:=decide ((e.kids.length:Int)>0)&&(yS e n).all yh
theorem allTo_succ (e:Ex) (n:Nat) (h:n<e.kids.length):jq e (n+1)=(jq e n&&yh (xB (e.kids.getD n default))):=by
 rw [jq,jd e n h,List.all_append,List.all_cons,List.all_nil,Bool.and_true,<-Bool.and_assoc];rfl
theorem allTo_zero (e:Ex):jq e 0=decide ((e.kids.length:Int)>0):=by simp [jq,yS]
theorem isConst_eq (e:Ex):yh e=(kO e&&((e.kids.length:Int)==0)):=by
 rw [Bool.eq_iff_iff,wq]
 simp only [kO,Bool.and_eq_true,decide_eq_true_eq,beq_iff_eq]
 omega
def foldK (e:Ex) (K:List Ex):Ex:=
 if K≠[]/\K.all yh=true/\xF (zD e K)=true then xK (zN [] (zD e K)) (y7 (zD e K))
 else if e.op=22/\xZ (zD e K) 0=true then xT 0
 else if e.op=23/\xZ (zD e K) 1=true then xT 1
 else if K=[] then zD e K
 else if e.op=24/\K.length=1/\(K.getD 0 default).op=24/\(K.getD 0 default).kids.length=1/\wJ ((K.getD 0 default).kids.getD 0 default)=true then (K.getD 0 default).kids.getD 0 default
 else if e.op=25/\K.length=1/\jX (K.getD 0 default)=true then K.getD 0 default
 else if e.op=26/\K.length=3/\(K.getD 0 default).op=3/\(K.getD 0 default).kids.length=0 then (if (K.getD 0 default).num=1 then K.getD 1 default else K.getD 2 default)
 else zD e K
theorem foldO_eq (e:Ex) (K:List Ex):foldO (zD e K)=foldK e K:=rfl
def vE (e:Ex):List A:=[.d (.lit (.int .i64 e.op)),.d (.lit (.int .i64 e.type)),.d (.lit (.int .i64 e.num)),.d (.lit (.string e.text)),.d (.lit (.int .i64 e.col)),.d (.sl 6 (zg rE e.kids))]
def zE0:List A:=[.d (.lit (.int .i64 0)),.d (.lit (.int .i64 0)),.d (.lit (.int .i64 0)),.d (.lit (.string ByteArray.empty)),.d (.lit (.int .i64 0)),.snil]
def SF (e:Ex) (n:Nat):SL:=
 ⟨[(20,.d (.lit (.int .i64 n))),(19,.d (.lit (.int .i64 e.kids.length))),(18,.d (.sl 6 (zg rE e.kids))),(4,boo (jq e n)),(1,.ptr 1 0),(2,.ptr 2 0),(3,.ptr 3 0)],
  [(1,.var (vE e)),(2,.var zE0),(3,.var [.d (.lit (.int .i64 e.op)),.d (.lit (.int .i64 e.type)),.d (.lit (.int .i64 e.num)),.d (.lit (.string e.text)),.d (.lit (.int .i64 e.col)),.vec 500 n]),
   (500,.vec 29 6 (zg rE (yS e n)) 0)]⟩
theorem c_fold: ∀e:Ex,Ok12 e→ACall Tryz.prog 30 [aE e] [] (aE (xB e)) []:=
 xj (p:=fun e=>Ok12 e->ACall Tryz.prog 30 [aE e] [] (aE (xB e)) []) fun e ih ho=>by
 refine zm mixed ttok Tryz.func30 Tryz.ntmps30 Tryz.results30 ?_
 generalize hr:aE (xB e)=R
 have hl:=ho.kids
 simp -implicitDefEqProofs only [argT,↓zb,push_cast,simprocAttr,tte]
 refine loopx_weak ?_
 refine z8 mixed ttok (fun n:Nat=>SF e n) (fun n=>e.kids.length-n) (fun n=>n<=e.kids.length) 0 (Nat.zero_le _) ?_ ?_
 ·exact (Weak.nilCellL 3 5 500 29 6 rfl rfl rfl).trans (Weak.keepL (by simp [SF,allTo_zero,vE,ends]) (by simp [SF,yS,zg,vE,zE0,ends]) (by simp [SF,ends]))
 intro I hI n hn
 have hl2:=jM e n hn
 simp -implicitDefEqProofs only [SF,vE,zE0,↓zb,push_cast,simprocAttr,tte]
 refine za (fun h=>?_) fun h=>?_
 ·have h':n<e.kids.length:=by simpa using h
  have hw:=zw h' (by omega)
  have hs:=jd e n h'
  have ha:=allTo_succ e n h'
  refine ⟨(by first | omega | trivial | (refine ⟨?_,?_⟩<;>first | omega | trivial | (refine ⟨?_,?_⟩<;>first | omega | trivial | (refine ⟨?_,?_⟩<;>first | omega | trivial | rfl)))),?_⟩
  refine zd [[0,0,0,0,0,6]] [] (ih _ (zx h') (ho.kid (zx h'))) ?_
  simp -implicitDefEqProofs only [↓zb,push_cast,simprocAttr,tte]
  generalize xB (e.kids.getD n default)=x at hs ha ⊢
  refine zd [[0,0,0,0,0,6]] [] (kp x) ?_
  simp -implicitDefEqProofs only [↓zb,push_cast,simprocAttr,tte]
  refine za (fun h2=>?_) fun h2=>?_
  ·refine ⟨⟨hl2.symm,by rw [hl2];omega⟩,?_⟩
   exact zp hI (n+1) h' (by show e.kids.length-(n+1)<e.kids.length-n;omega) (Weak.keepL (by simp [SF,hw,ha,h2,ends]) (by simp [SF,hs,hl2,vE,zE0,zy,ends]) (by simp [SF,ends]))
  ·refine ⟨⟨hl2.symm,by rw [hl2];omega⟩,?_⟩
   exact zp hI (n+1) h' (by show e.kids.length-(n+1)<e.kids.length-n;omega) (Weak.keepL (by simp [SF,hw,ha,h2,ends]) (by simp [SF,hs,hl2,vE,zE0,zy,ends]) (by simp [SF,ends]))
 have hn2:n=e.kids.length:=by have:=of_decide_eq_false h;omega
 subst hn2
 clear hI
 have hT:yS e e.kids.length=e.kids.map xB:=by rw [yS,List.take_length]
 have hk: ∀k∈yS e e.kids.length,Ok12 k:=fun k hk=>by
  rw [hT] at hk
  obtain ⟨x,hx,rfl⟩:=List.mem_map.1 hk
  exact ok12_fold x (ho.kid hx)
 have hA:jq e e.kids.length=(decide ((e.kids.length:Int)>0)&&(yS e e.kids.length).all yh):=rfl
 rw [foldM_eq,<-hT] at hr
 generalize jq e e.kids.length=al at hA ⊢
 generalize hK:yS e e.kids.length=K at hk hr hA hl2 ⊢
 have oO:Ok12 (zD e K):=⟨_,by show K.length<=_;omega,hk⟩
 rw [show decide ((e.kids.length:Int)>0)=decide ((K.length:Int)>0) from by rw [hl2]] at hA
 refine ⟨⟨[(1,.ptr 1 0),(2,.ptr 2 0),(3,.ptr 3 0),(4,boo al)],[(1,.var (vE e)),(2,.var zE0),(3,.var (vE (zD e K)))]⟩,?_,?_⟩
 ·rw [←hl2]
  exact (Weak.frzCellL 3 5 6 rfl rfl rfl (by simp [zc]) rfl).trans (Weak.keepL (by simp [ends]) (by simp [vE,zE0,zj,zE,ends]) (by simp [ends]))
 clear hT ih h hK
 rw [<-hl2] at hl
 clear hl2
 rw [foldO_eq] at hr
 unfold foldK at hr
 have hop:e.op=22\/e.op=23\/e.op=24\/e.op=25\/e.op=26\/(e.op≠22/\e.op≠23/\e.op≠24/\e.op≠25/\e.op≠26):=by omega
 have hcst:al=true->xF (zD e K)=true->K≠[]/\K.all yh=true/\xF (zD e K)=true:=fun h1 h2=>by
  rw [hA,Bool.and_eq_true,decide_eq_true_eq] at h1
  exact ⟨fun e=>by rw [e] at h1;simp at h1,h1.2,h2⟩
 have hncst:(al=false\/xF (zD e K)=false)-> ¬(K≠[]/\K.all yh=true/\xF (zD e K)=true):=fun h1 h2=>by
  rcases h1 with h1 | h1
  ·rw [hA,h2.2.1,Bool.and_true,decide_eq_false_iff_not] at h1
   have:K.length≠0:=fun e=>h2.1 (List.length_eq_zero_iff.1 e)
   omega
  ·rw [h1] at h2;exact absurd h2.2.2 (by decide)
 clear hA
 rcases hop with e22 | e23 | e24 | e25 | e26 | eo
 ·skip
  have q22:(e.op==22)=true:=by rw [e22];rfl
  have n23: ¬e.op=23:=by omega
  have q23:(e.op==23)=false:=beq_false_of_ne n23
  have n24: ¬e.op=24:=by omega
  have q24:(e.op==24)=false:=beq_false_of_ne n24
  have n25: ¬e.op=25:=by omega
  have q25:(e.op==25)=false:=beq_false_of_ne n25
  have n26: ¬e.op=26:=by omega
  have q26:(e.op==26)=false:=beq_false_of_ne n26
  simp -implicitDefEqProofs only [vE,zE0,q22,q23,q24,q25,q26,↓zb,push_cast,simprocAttr,tte]
  refine za (fun a0=>?_) fun a0=>?_
  ·refine zd [[0,0,0,0,0,6]] [] (jn (zD e K)) ?_
   simp -implicitDefEqProofs only [q22,q23,q24,q25,q26,↓zb,push_cast,simprocAttr,tte]
   refine za (fun a2=>?_) fun a2=>?_
   ·have a1:=hcst a0 a2
    rw [if_pos a1] at hr
    refine zd [[0,0,0,0,0,6],[3]] [] (uK [] (zD e K) oO) ?_
    simp -implicitDefEqProofs only [↓zb,push_cast,simprocAttr,tte]
    refine zd [[0,0,0,0,0,6]] [] (wv (zD e K) a2 (fun k hk=>List.all_eq_true.1 a1.2.1 k hk)) ?_
    simp -implicitDefEqProofs only [↓zb,push_cast,simprocAttr,tte]
    refine zd [[0,0,0],[]] [] (ux (zN [] (zD e K)) (y7 (zD e K))) ?_
    simp -implicitDefEqProofs only [↓zb,push_cast,simprocAttr,tte]
    refine ⟨zh (by kernel_rfl),?_⟩
    refine zf [0,0,0,0,0,6] rfl (by simp) (by simp [zc]<;>omega) ?_ (by first | rfl | simp [ends] | (subst_vars;simp [ends])) (by simp [ends]) (by simp [ends])
    rw [<-hr];simp [zl]
   have a1:=hncst (.inr a2)
   rw [if_neg a1] at hr
   refine zd [[0,0,0,0,0,6],[]] [] (kS (zD e K) 0) ?_
   simp -implicitDefEqProofs only [q22,q23,q24,q25,q26,↓zb,push_cast,simprocAttr,tte]
   refine za (fun g=>?_) fun g=>?_
   ·rw [if_pos ⟨e22,g⟩] at hr
    refine zf [0,0,0,0,0,6] rfl (by simp) (by simp [zc]<;>omega) ?_ (by first | rfl | simp [ends] | (subst_vars;simp [ends])) (by simp [ends]) (by simp [ends])
    rw [<-hr];simp [zl,xT,Ex.op,Ex.type,Ex.num,Ex.text,Ex.col,Ex.kids,zg]
   rw [if_neg (fun h=>by rw [g] at h;exact absurd h.2 (by decide))] at hr
   rw [if_neg (fun h=>n23 h.1)] at hr
   refine za (fun z=>?_) fun z=>?_
   ·have hz:K=[]:=List.length_eq_zero_iff.1 (by simp only [beq_iff_eq] at z;omega)
    rw [if_pos hz] at hr
    refine zf [0,0,0,0,0,6] rfl (by simp) (by simp [zc]<;>omega) ?_ (by first | rfl | simp [ends] | (subst_vars;simp [ends])) (by simp [ends]) (by simp [ends])
    rw [<-hr];simp [zl,zE,zt,zz,zu,z1,zj]
   have hz: ¬K=[]:=fun h=>by rw [h] at z;exact absurd z (by decide)
   rw [if_neg hz] at hr
   have hz0:0<K.length:=Nat.pos_of_ne_zero fun h=>hz (List.length_eq_zero_iff.1 h)
   refine ⟨by omega,?_⟩
   rw [if_neg (fun h=>n24 h.1),if_neg (fun h=>n25 h.1),if_neg (fun h=>n26 h.1)] at hr
   refine zf [0,0,0,0,0,6] rfl (by simp) (by simp [zc]<;>omega) ?_ (by first | rfl | simp [ends] | (subst_vars;simp [ends])) (by simp [ends]) (by simp [ends])
   rw [<-hr];simp [zl,zE,zt,zz,zu,z1,zj]
  have a1:=hncst (.inl a0)
  rw [if_neg a1] at hr
  refine zd [[0,0,0,0,0,6],[]] [] (kS (zD e K) 0) ?_
  simp -implicitDefEqProofs only [q22,q23,q24,q25,q26,↓zb,push_cast,simprocAttr,tte]
  refine za (fun g=>?_) fun g=>?_
  ·rw [if_pos ⟨e22,g⟩] at hr
   refine zf [0,0,0,0,0,6] rfl (by simp) (by simp [zc]<;>omega) ?_ (by first | rfl | simp [ends] | (subst_vars;simp [ends])) (by simp [ends]) (by simp [ends])
   rw [<-hr];simp [zl,xT,Ex.op,Ex.type,Ex.num,Ex.text,Ex.col,Ex.kids,zg]
  rw [if_neg (fun h=>by rw [g] at h;exact absurd h.2 (by decide))] at hr
  rw [if_neg (fun h=>n23 h.1)] at hr
  refine za (fun z=>?_) fun z=>?_
  ·have hz:K=[]:=List.length_eq_zero_iff.1 (by simp only [beq_iff_eq] at z;omega)
   rw [if_pos hz] at hr
   refine zf [0,0,0,0,0,6] rfl (by simp) (by simp [zc]<;>omega) ?_ (by first | rfl | simp [ends] | (subst_vars;simp [ends])) (by simp [ends]) (by simp [ends])
   rw [<-hr];simp [zl,zE,zt,zz,zu,z1,zj]
  have hz: ¬K=[]:=fun h=>by rw [h] at z;exact absurd z (by decide)
  rw [if_neg hz] at hr
  have hz0:0<K.length:=Nat.pos_of_ne_zero fun h=>hz (List.length_eq_zero_iff.1 h)
  refine ⟨by omega,?_⟩
  rw [if_neg (fun h=>n24 h.1),if_neg (fun h=>n25 h.1),if_neg (fun h=>n26 h.1)] at hr
  refine zf [0,0,0,0,0,6] rfl (by simp) (by simp [zc]<;>omega) ?_ (by first | rfl | simp [ends] | (subst_vars;simp [ends])) (by simp [ends]) (by simp [ends])
  rw [<-hr];simp [zl,zE,zt,zz,zu,z1,zj]
 ·skip
  have n22: ¬e.op=22:=by omega
  have q22:(e.op==22)=false:=beq_false_of_ne n22
  have q23:(e.op==23)=true:=by rw [e23];rfl
  have n24: ¬e.op=24:=by omega
  have q24:(e.op==24)=false:=beq_false_of_ne n24
  have n25: ¬e.op=25:=by omega
  have q25:(e.op==25)=false:=beq_false_of_ne n25
  have n26: ¬e.op=26:=by omega
  have q26:(e.op==26)=false:=beq_false_of_ne n26
  simp -implicitDefEqProofs only [vE,zE0,q22,q23,q24,q25,q26,↓zb,push_cast,simprocAttr,tte]
  refine za (fun a0=>?_) fun a0=>?_
  ·refine zd [[0,0,0,0,0,6]] [] (jn (zD e K)) ?_
   simp -implicitDefEqProofs only [q22,q23,q24,q25,q26,↓zb,push_cast,simprocAttr,tte]
   refine za (fun a2=>?_) fun a2=>?_
   ·have a1:=hcst a0 a2
    rw [if_pos a1] at hr
    refine zd [[0,0,0,0,0,6],[3]] [] (uK [] (zD e K) oO) ?_
    simp -implicitDefEqProofs only [↓zb,push_cast,simprocAttr,tte]
    refine zd [[0,0,0,0,0,6]] [] (wv (zD e K) a2 (fun k hk=>List.all_eq_true.1 a1.2.1 k hk)) ?_
    simp -implicitDefEqProofs only [↓zb,push_cast,simprocAttr,tte]
    refine zd [[0,0,0],[]] [] (ux (zN [] (zD e K)) (y7 (zD e K))) ?_
    simp -implicitDefEqProofs only [↓zb,push_cast,simprocAttr,tte]
    refine ⟨zh (by kernel_rfl),?_⟩
    refine zf [0,0,0,0,0,6] rfl (by simp) (by simp [zc]<;>omega) ?_ (by first | rfl | simp [ends] | (subst_vars;simp [ends])) (by simp [ends]) (by simp [ends])
    rw [<-hr];simp [zl]
   have a1:=hncst (.inr a2)
   rw [if_neg a1] at hr
   rw [if_neg (fun h=>n22 h.1)] at hr
   refine zd [[0,0,0,0,0,6],[]] [] (kS (zD e K) 1) ?_
   simp -implicitDefEqProofs only [q22,q23,q24,q25,q26,↓zb,push_cast,simprocAttr,tte]
   refine za (fun g=>?_) fun g=>?_
   ·rw [if_pos ⟨e23,g⟩] at hr
    refine zf [0,0,0,0,0,6] rfl (by simp) (by simp [zc]<;>omega) ?_ (by first | rfl | simp [ends] | (subst_vars;simp [ends])) (by simp [ends]) (by simp [ends])
    rw [<-hr];simp [zl,xT,Ex.op,Ex.type,Ex.num,Ex.text,Ex.col,Ex.kids,zg]
   rw [if_neg (fun h=>by rw [g] at h;exact absurd h.2 (by decide))] at hr
   refine za (fun z=>?_) fun z=>?_
   ·have hz:K=[]:=List.length_eq_zero_iff.1 (by simp only [beq_iff_eq] at z;omega)
    rw [if_pos hz] at hr
    refine zf [0,0,0,0,0,6] rfl (by simp) (by simp [zc]<;>omega) ?_ (by first | rfl | simp [ends] | (subst_vars;simp [ends])) (by simp [ends]) (by simp [ends])
    rw [<-hr];simp [zl,zE,zt,zz,zu,z1,zj]
   have hz: ¬K=[]:=fun h=>by rw [h] at z;exact absurd z (by decide)
   rw [if_neg hz] at hr
   have hz0:0<K.length:=Nat.pos_of_ne_zero fun h=>hz (List.length_eq_zero_iff.1 h)
   refine ⟨by omega,?_⟩
   rw [if_neg (fun h=>n24 h.1),if_neg (fun h=>n25 h.1),if_neg (fun h=>n26 h.1)] at hr
   refine zf [0,0,0,0,0,6] rfl (by simp) (by simp [zc]<;>omega) ?_ (by first | rfl | simp [ends] | (subst_vars;simp [ends])) (by simp [ends]) (by simp [ends])
   rw [<-hr];simp [zl,zE,zt,zz,zu,z1,zj]
  have a1:=hncst (.inl a0)
  rw [if_neg a1] at hr
  rw [if_neg (fun h=>n22 h.1)] at hr
  refine zd [[0,0,0,0,0,6],[]] [] (kS (zD e K) 1) ?_
  simp -implicitDefEqProofs only [q22,q23,q24,q25,q26,↓zb,push_cast,simprocAttr,tte]
  refine za (fun g=>?_) fun g=>?_
  ·rw [if_pos ⟨e23,g⟩] at hr
   refine zf [0,0,0,0,0,6] rfl (by simp) (by simp [zc]<;>omega) ?_ (by first | rfl | simp [ends] | (subst_vars;simp [ends])) (by simp [ends]) (by simp [ends])
   rw [<-hr];simp [zl,xT,Ex.op,Ex.type,Ex.num,Ex.text,Ex.col,Ex.kids,zg]
  rw [if_neg (fun h=>by rw [g] at h;exact absurd h.2 (by decide))] at hr
  refine za (fun z=>?_) fun z=>?_
  ·have hz:K=[]:=List.length_eq_zero_iff.1 (by simp only [beq_iff_eq] at z;omega)
   rw [if_pos hz] at hr
   refine zf [0,0,0,0,0,6] rfl (by simp) (by simp [zc]<;>omega) ?_ (by first | rfl | simp [ends] | (subst_vars;simp [ends])) (by simp [ends]) (by simp [ends])
   rw [<-hr];simp [zl,zE,zt,zz,zu,z1,zj]
  have hz: ¬K=[]:=fun h=>by rw [h] at z;exact absurd z (by decide)
  rw [if_neg hz] at hr
  have hz0:0<K.length:=Nat.pos_of_ne_zero fun h=>hz (List.length_eq_zero_iff.1 h)
  refine ⟨by omega,?_⟩
  rw [if_neg (fun h=>n24 h.1),if_neg (fun h=>n25 h.1),if_neg (fun h=>n26 h.1)] at hr
  refine zf [0,0,0,0,0,6] rfl (by simp) (by simp [zc]<;>omega) ?_ (by first | rfl | simp [ends] | (subst_vars;simp [ends])) (by simp [ends]) (by simp [ends])
  rw [<-hr];simp [zl,zE,zt,zz,zu,z1,zj]
 ·skip
  have n22: ¬e.op=22:=by omega
  have q22:(e.op==22)=false:=beq_false_of_ne n22
  have n23: ¬e.op=23:=by omega
  have q23:(e.op==23)=false:=beq_false_of_ne n23
  have q24:(e.op==24)=true:=by rw [e24];rfl
  have n25: ¬e.op=25:=by omega
  have q25:(e.op==25)=false:=beq_false_of_ne n25
  have n26: ¬e.op=26:=by omega
  have q26:(e.op==26)=false:=beq_false_of_ne n26
  simp -implicitDefEqProofs only [vE,zE0,q22,q23,q24,q25,q26,↓zb,push_cast,simprocAttr,tte]
  refine za (fun a0=>?_) fun a0=>?_
  ·refine zd [[0,0,0,0,0,6]] [] (jn (zD e K)) ?_
   simp -implicitDefEqProofs only [q22,q23,q24,q25,q26,↓zb,push_cast,simprocAttr,tte]
   refine za (fun a2=>?_) fun a2=>?_
   ·have a1:=hcst a0 a2
    rw [if_pos a1] at hr
    refine zd [[0,0,0,0,0,6],[3]] [] (uK [] (zD e K) oO) ?_
    simp -implicitDefEqProofs only [↓zb,push_cast,simprocAttr,tte]
    refine zd [[0,0,0,0,0,6]] [] (wv (zD e K) a2 (fun k hk=>List.all_eq_true.1 a1.2.1 k hk)) ?_
    simp -implicitDefEqProofs only [↓zb,push_cast,simprocAttr,tte]
    refine zd [[0,0,0],[]] [] (ux (zN [] (zD e K)) (y7 (zD e K))) ?_
    simp -implicitDefEqProofs only [↓zb,push_cast,simprocAttr,tte]
    refine ⟨zh (by kernel_rfl),?_⟩
    refine zf [0,0,0,0,0,6] rfl (by simp) (by simp [zc]<;>omega) ?_ (by first | rfl | simp [ends] | (subst_vars;simp [ends])) (by simp [ends]) (by simp [ends])
    rw [<-hr];simp [zl]
   have a1:=hncst (.inr a2)
   rw [if_neg a1] at hr
   rw [if_neg (fun h=>n22 h.1),if_neg (fun h=>n23 h.1)] at hr
   refine za (fun z=>?_) fun z=>?_
   ·have hz:K=[]:=List.length_eq_zero_iff.1 (by simp only [beq_iff_eq] at z;omega)
    rw [if_pos hz] at hr
    refine zf [0,0,0,0,0,6] rfl (by simp) (by simp [zc]<;>omega) ?_ (by first | rfl | simp [ends] | (subst_vars;simp [ends])) (by simp [ends]) (by simp [ends])
    rw [<-hr];simp [zl,zE,zt,zz,zu,z1,zj]
   have hz: ¬K=[]:=fun h=>by rw [h] at z;exact absurd z (by decide)
   rw [if_neg hz] at hr
   have hz0:0<K.length:=Nat.pos_of_ne_zero fun h=>hz (List.length_eq_zero_iff.1 h)
   refine ⟨by omega,?_⟩
   refine za (fun g0=>?_) fun g0=>?_
   ·skip
    have hl1:K.length=1:=by simp only [beq_iff_eq] at g0;omega
    refine za (fun g1=>?_) fun g1=>?_
    ·skip
     refine za (fun g2=>?_) fun g2=>?_
     ·have gl:(K.getD 0 default).kids.length=1:=by simp only [beq_iff_eq] at g2;omega
      refine ⟨by omega,?_⟩
      refine zd [[0,0,0,0,0,6]] [] (c_logical ((K.getD 0 default).kids.getD 0 default)) ?_
      simp -implicitDefEqProofs only [q22,q23,q24,q25,q26,↓zb,push_cast,simprocAttr,tte]
      refine za (fun g3=>?_) fun g3=>?_
      ·rw [if_pos ⟨e24,hl1,by simpa using g1,gl,g3⟩] at hr
       refine ⟨by omega,?_⟩
       refine zf [0,0,0,0,0,6] rfl (by simp) (by simp [zc]<;>omega) ?_ (by first | rfl | simp [ends] | (subst_vars;simp [ends])) (by simp [ends]) (by simp [ends])
       rw [<-hr];simp [zl]
      rw [if_neg (fun h=>by rw [g3] at h;exact absurd h.2.2.2.2 (by decide)),if_neg (fun h=>n25 h.1),if_neg (fun h=>n26 h.1)] at hr
      refine zf [0,0,0,0,0,6] rfl (by simp) (by simp [zc]<;>omega) ?_ (by first | rfl | simp [ends] | (subst_vars;simp [ends])) (by simp [ends]) (by simp [ends])
      rw [<-hr];simp [zl,zE,zt,zz,zu,z1,zj]
     rw [if_neg (fun h=>by rw [h.2.2.2.1] at g2;exact absurd g2 (by decide)),if_neg (fun h=>n25 h.1),if_neg (fun h=>n26 h.1)] at hr
     refine zf [0,0,0,0,0,6] rfl (by simp) (by simp [zc]<;>omega) ?_ (by first | rfl | simp [ends] | (subst_vars;simp [ends])) (by simp [ends]) (by simp [ends])
     rw [<-hr];simp [zl,zE,zt,zz,zu,z1,zj]
    rw [if_neg (fun h=>by rw [h.2.2.1] at g1;exact absurd g1 (by decide)),if_neg (fun h=>n25 h.1),if_neg (fun h=>n26 h.1)] at hr
    refine zf [0,0,0,0,0,6] rfl (by simp) (by simp [zc]<;>omega) ?_ (by first | rfl | simp [ends] | (subst_vars;simp [ends])) (by simp [ends]) (by simp [ends])
    rw [<-hr];simp [zl,zE,zt,zz,zu,z1,zj]
   have hl1: ¬K.length=1:=by simp only [beq_eq_false_iff_ne,ne_eq] at g0;omega
   rw [if_neg (fun h=>hl1 h.2.1),if_neg (fun h=>n25 h.1),if_neg (fun h=>n26 h.1)] at hr
   refine zf [0,0,0,0,0,6] rfl (by simp) (by simp [zc]<;>omega) ?_ (by first | rfl | simp [ends] | (subst_vars;simp [ends])) (by simp [ends]) (by simp [ends])
   rw [<-hr];simp [zl,zE,zt,zz,zu,z1,zj]
  have a1:=hncst (.inl a0)
  rw [if_neg a1] at hr
  rw [if_neg (fun h=>n22 h.1),if_neg (fun h=>n23 h.1)] at hr
  refine za (fun z=>?_) fun z=>?_
  ·have hz:K=[]:=List.length_eq_zero_iff.1 (by simp only [beq_iff_eq] at z;omega)
   rw [if_pos hz] at hr
   refine zf [0,0,0,0,0,6] rfl (by simp) (by simp [zc]<;>omega) ?_ (by first | rfl | simp [ends] | (subst_vars;simp [ends])) (by simp [ends]) (by simp [ends])
   rw [<-hr];simp [zl,zE,zt,zz,zu,z1,zj]
  have hz: ¬K=[]:=fun h=>by rw [h] at z;exact absurd z (by decide)
  rw [if_neg hz] at hr
  have hz0:0<K.length:=Nat.pos_of_ne_zero fun h=>hz (List.length_eq_zero_iff.1 h)
  refine ⟨by omega,?_⟩
  refine za (fun g0=>?_) fun g0=>?_
  ·skip
   have hl1:K.length=1:=by simp only [beq_iff_eq] at g0;omega
   refine za (fun g1=>?_) fun g1=>?_
   ·skip
    refine za (fun g2=>?_) fun g2=>?_
    ·have gl:(K.getD 0 default).kids.length=1:=by simp only [beq_iff_eq] at g2;omega
     refine ⟨by omega,?_⟩
     refine zd [[0,0,0,0,0,6]] [] (c_logical ((K.getD 0 default).kids.getD 0 default)) ?_
     simp -implicitDefEqProofs only [q22,q23,q24,q25,q26,↓zb,push_cast,simprocAttr,tte]
     refine za (fun g3=>?_) fun g3=>?_
     ·rw [if_pos ⟨e24,hl1,by simpa using g1,gl,g3⟩] at hr
      refine ⟨by omega,?_⟩
      refine zf [0,0,0,0,0,6] rfl (by simp) (by simp [zc]<;>omega) ?_ (by first | rfl | simp [ends] | (subst_vars;simp [ends])) (by simp [ends]) (by simp [ends])
      rw [<-hr];simp [zl]
     rw [if_neg (fun h=>by rw [g3] at h;exact absurd h.2.2.2.2 (by decide)),if_neg (fun h=>n25 h.1),if_neg (fun h=>n26 h.1)] at hr
     refine zf [0,0,0,0,0,6] rfl (by simp) (by simp [zc]<;>omega) ?_ (by first | rfl | simp [ends] | (subst_vars;simp [ends])) (by simp [ends]) (by simp [ends])
     rw [<-hr];simp [zl,zE,zt,zz,zu,z1,zj]
    rw [if_neg (fun h=>by rw [h.2.2.2.1] at g2;exact absurd g2 (by decide)),if_neg (fun h=>n25 h.1),if_neg (fun h=>n26 h.1)] at hr
    refine zf [0,0,0,0,0,6] rfl (by simp) (by simp [zc]<;>omega) ?_ (by first | rfl | simp [ends] | (subst_vars;simp [ends])) (by simp [ends]) (by simp [ends])
    rw [<-hr];simp [zl,zE,zt,zz,zu,z1,zj]
   rw [if_neg (fun h=>by rw [h.2.2.1] at g1;exact absurd g1 (by decide)),if_neg (fun h=>n25 h.1),if_neg (fun h=>n26 h.1)] at hr
   refine zf [0,0,0,0,0,6] rfl (by simp) (by simp [zc]<;>omega) ?_ (by first | rfl | simp [ends] | (subst_vars;simp [ends])) (by simp [ends]) (by simp [ends])
   rw [<-hr];simp [zl,zE,zt,zz,zu,z1,zj]
  have hl1: ¬K.length=1:=by simp only [beq_eq_false_iff_ne,ne_eq] at g0;omega
  rw [if_neg (fun h=>hl1 h.2.1),if_neg (fun h=>n25 h.1),if_neg (fun h=>n26 h.1)] at hr
  refine zf [0,0,0,0,0,6] rfl (by simp) (by simp [zc]<;>omega) ?_ (by first | rfl | simp [ends] | (subst_vars;simp [ends])) (by simp [ends]) (by simp [ends])
  rw [<-hr];simp [zl,zE,zt,zz,zu,z1,zj]
 ·skip
  have n22: ¬e.op=22:=by omega
  have q22:(e.op==22)=false:=beq_false_of_ne n22
  have n23: ¬e.op=23:=by omega
  have q23:(e.op==23)=false:=beq_false_of_ne n23
  have n24: ¬e.op=24:=by omega
  have q24:(e.op==24)=false:=beq_false_of_ne n24
  have q25:(e.op==25)=true:=by rw [e25];rfl
  have n26: ¬e.op=26:=by omega
  have q26:(e.op==26)=false:=beq_false_of_ne n26
  simp -implicitDefEqProofs only [vE,zE0,q22,q23,q24,q25,q26,↓zb,push_cast,simprocAttr,tte]
  refine za (fun a0=>?_) fun a0=>?_
  ·refine zd [[0,0,0,0,0,6]] [] (jn (zD e K)) ?_
   simp -implicitDefEqProofs only [q22,q23,q24,q25,q26,↓zb,push_cast,simprocAttr,tte]
   refine za (fun a2=>?_) fun a2=>?_
   ·have a1:=hcst a0 a2
    rw [if_pos a1] at hr
    refine zd [[0,0,0,0,0,6],[3]] [] (uK [] (zD e K) oO) ?_
    simp -implicitDefEqProofs only [↓zb,push_cast,simprocAttr,tte]
    refine zd [[0,0,0,0,0,6]] [] (wv (zD e K) a2 (fun k hk=>List.all_eq_true.1 a1.2.1 k hk)) ?_
    simp -implicitDefEqProofs only [↓zb,push_cast,simprocAttr,tte]
    refine zd [[0,0,0],[]] [] (ux (zN [] (zD e K)) (y7 (zD e K))) ?_
    simp -implicitDefEqProofs only [↓zb,push_cast,simprocAttr,tte]
    refine ⟨zh (by kernel_rfl),?_⟩
    refine zf [0,0,0,0,0,6] rfl (by simp) (by simp [zc]<;>omega) ?_ (by first | rfl | simp [ends] | (subst_vars;simp [ends])) (by simp [ends]) (by simp [ends])
    rw [<-hr];simp [zl]
   have a1:=hncst (.inr a2)
   rw [if_neg a1] at hr
   rw [if_neg (fun h=>n22 h.1),if_neg (fun h=>n23 h.1)] at hr
   refine za (fun z=>?_) fun z=>?_
   ·have hz:K=[]:=List.length_eq_zero_iff.1 (by simp only [beq_iff_eq] at z;omega)
    rw [if_pos hz] at hr
    refine zf [0,0,0,0,0,6] rfl (by simp) (by simp [zc]<;>omega) ?_ (by first | rfl | simp [ends] | (subst_vars;simp [ends])) (by simp [ends]) (by simp [ends])
    rw [<-hr];simp [zl,zE,zt,zz,zu,z1,zj]
   have hz: ¬K=[]:=fun h=>by rw [h] at z;exact absurd z (by decide)
   rw [if_neg hz] at hr
   have hz0:0<K.length:=Nat.pos_of_ne_zero fun h=>hz (List.length_eq_zero_iff.1 h)
   refine ⟨by omega,?_⟩
   rw [if_neg (fun h=>n24 h.1)] at hr
   refine za (fun g0=>?_) fun g0=>?_
   ·skip
    have hl1:K.length=1:=by simp only [beq_iff_eq] at g0;omega
    refine zd [[0,0,0,0,0,6]] [] (jn (K.getD 0 default)) ?_
    simp -implicitDefEqProofs only [q22,q23,q24,q25,q26,↓zb,push_cast,simprocAttr,tte]
    have hkn:jX (K.getD 0 default)=(xF (K.getD 0 default)&&((((K.getD 0 default).op==25) || ((K.getD 0 default).op==21)) || ((K.getD 0 default).op==20))):=rfl
    refine za (fun g1=>?_) fun g1=>?_
    ·refine za (fun g2=>?_) fun g2=>?_
     ·rw [g1,g2] at hkn
      rw [if_pos ⟨e25,hl1,hkn⟩] at hr
      refine zf [0,0,0,0,0,6] rfl (by simp) (by simp [zc]<;>omega) ?_ (by first | rfl | simp [ends] | (subst_vars;simp [ends])) (by simp [ends]) (by simp [ends])
      rw [<-hr];simp [zl]
     refine za (fun g3=>?_) fun g3=>?_
     ·rw [g1,g2,g3] at hkn
      rw [if_pos ⟨e25,hl1,hkn⟩] at hr
      refine zf [0,0,0,0,0,6] rfl (by simp) (by simp [zc]<;>omega) ?_ (by first | rfl | simp [ends] | (subst_vars;simp [ends])) (by simp [ends]) (by simp [ends])
      rw [<-hr];simp [zl]
     refine za (fun g4=>?_) fun g4=>?_
     ·rw [g1,g2,g3,g4] at hkn
      rw [if_pos ⟨e25,hl1,hkn⟩] at hr
      refine zf [0,0,0,0,0,6] rfl (by simp) (by simp [zc]<;>omega) ?_ (by first | rfl | simp [ends] | (subst_vars;simp [ends])) (by simp [ends]) (by simp [ends])
      rw [<-hr];simp [zl]
     rw [g1,g2,g3,g4] at hkn
     rw [if_neg (fun h=>by rw [hkn] at h;exact absurd h.2.2 (by decide)),if_neg (fun h=>n26 h.1)] at hr
     refine zf [0,0,0,0,0,6] rfl (by simp) (by simp [zc]<;>omega) ?_ (by first | rfl | simp [ends] | (subst_vars;simp [ends])) (by simp [ends]) (by simp [ends])
     rw [<-hr];simp [zl,zE,zt,zz,zu,z1,zj]
    rw [g1,Bool.false_and] at hkn
    rw [if_neg (fun h=>by rw [hkn] at h;exact absurd h.2.2 (by decide)),if_neg (fun h=>n26 h.1)] at hr
    refine zf [0,0,0,0,0,6] rfl (by simp) (by simp [zc]<;>omega) ?_ (by first | rfl | simp [ends] | (subst_vars;simp [ends])) (by simp [ends]) (by simp [ends])
    rw [<-hr];simp [zl,zE,zt,zz,zu,z1,zj]
   have hl1: ¬K.length=1:=by simp only [beq_eq_false_iff_ne,ne_eq] at g0;omega
   rw [if_neg (fun h=>hl1 h.2.1),if_neg (fun h=>n26 h.1)] at hr
   refine zf [0,0,0,0,0,6] rfl (by simp) (by simp [zc]<;>omega) ?_ (by first | rfl | simp [ends] | (subst_vars;simp [ends])) (by simp [ends]) (by simp [ends])
   rw [<-hr];simp [zl,zE,zt,zz,zu,z1,zj]
  have a1:=hncst (.inl a0)
  rw [if_neg a1] at hr
  rw [if_neg (fun h=>n22 h.1),if_neg (fun h=>n23 h.1)] at hr
  refine za (fun z=>?_) fun z=>?_
  ·have hz:K=[]:=List.length_eq_zero_iff.1 (by simp only [beq_iff_eq] at z;omega)
   rw [if_pos hz] at hr
   refine zf [0,0,0,0,0,6] rfl (by simp) (by simp [zc]<;>omega) ?_ (by first | rfl | simp [ends] | (subst_vars;simp [ends])) (by simp [ends]) (by simp [ends])
   rw [<-hr];simp [zl,zE,zt,zz,zu,z1,zj]
  have hz: ¬K=[]:=fun h=>by rw [h] at z;exact absurd z (by decide)
  rw [if_neg hz] at hr
  have hz0:0<K.length:=Nat.pos_of_ne_zero fun h=>hz (List.length_eq_zero_iff.1 h)
  refine ⟨by omega,?_⟩
  rw [if_neg (fun h=>n24 h.1)] at hr
  refine za (fun g0=>?_) fun g0=>?_
  ·skip
   have hl1:K.length=1:=by simp only [beq_iff_eq] at g0;omega
   refine zd [[0,0,0,0,0,6]] [] (jn (K.getD 0 default)) ?_
   simp -implicitDefEqProofs only [q22,q23,q24,q25,q26,↓zb,push_cast,simprocAttr,tte]
   have hkn:jX (K.getD 0 default)=(xF (K.getD 0 default)&&((((K.getD 0 default).op==25) || ((K.getD 0 default).op==21)) || ((K.getD 0 default).op==20))):=rfl
   refine za (fun g1=>?_) fun g1=>?_
   ·refine za (fun g2=>?_) fun g2=>?_
    ·rw [g1,g2] at hkn
     rw [if_pos ⟨e25,hl1,hkn⟩] at hr
     refine zf [0,0,0,0,0,6] rfl (by simp) (by simp [zc]<;>omega) ?_ (by first | rfl | simp [ends] | (subst_vars;simp [ends])) (by simp [ends]) (by simp [ends])
     rw [<-hr];simp [zl]
    refine za (fun g3=>?_) fun g3=>?_
    ·rw [g1,g2,g3] at hkn
     rw [if_pos ⟨e25,hl1,hkn⟩] at hr
     refine zf [0,0,0,0,0,6] rfl (by simp) (by simp [zc]<;>omega) ?_ (by first | rfl | simp [ends] | (subst_vars;simp [ends])) (by simp [ends]) (by simp [ends])
     rw [<-hr];simp [zl]
    refine za (fun g4=>?_) fun g4=>?_
    ·rw [g1,g2,g3,g4] at hkn
     rw [if_pos ⟨e25,hl1,hkn⟩] at hr
     refine zf [0,0,0,0,0,6] rfl (by simp) (by simp [zc]<;>omega) ?_ (by first | rfl | simp [ends] | (subst_vars;simp [ends])) (by simp [ends]) (by simp [ends])
     rw [<-hr];simp [zl]
    rw [g1,g2,g3,g4] at hkn
    rw [if_neg (fun h=>by rw [hkn] at h;exact absurd h.2.2 (by decide)),if_neg (fun h=>n26 h.1)] at hr
    refine zf [0,0,0,0,0,6] rfl (by simp) (by simp [zc]<;>omega) ?_ (by first | rfl | simp [ends] | (subst_vars;simp [ends])) (by simp [ends]) (by simp [ends])
    rw [<-hr];simp [zl,zE,zt,zz,zu,z1,zj]
   rw [g1,Bool.false_and] at hkn
   rw [if_neg (fun h=>by rw [hkn] at h;exact absurd h.2.2 (by decide)),if_neg (fun h=>n26 h.1)] at hr
   refine zf [0,0,0,0,0,6] rfl (by simp) (by simp [zc]<;>omega) ?_ (by first | rfl | simp [ends] | (subst_vars;simp [ends])) (by simp [ends]) (by simp [ends])
   rw [<-hr];simp [zl,zE,zt,zz,zu,z1,zj]
  have hl1: ¬K.length=1:=by simp only [beq_eq_false_iff_ne,ne_eq] at g0;omega
  rw [if_neg (fun h=>hl1 h.2.1),if_neg (fun h=>n26 h.1)] at hr
  refine zf [0,0,0,0,0,6] rfl (by simp) (by simp [zc]<;>omega) ?_ (by first | rfl | simp [ends] | (subst_vars;simp [ends])) (by simp [ends]) (by simp [ends])
  rw [<-hr];simp [zl,zE,zt,zz,zu,z1,zj]
 ·skip
  have n22: ¬e.op=22:=by omega
  have q22:(e.op==22)=false:=beq_false_of_ne n22
  have n23: ¬e.op=23:=by omega
  have q23:(e.op==23)=false:=beq_false_of_ne n23
  have n24: ¬e.op=24:=by omega
  have q24:(e.op==24)=false:=beq_false_of_ne n24
  have n25: ¬e.op=25:=by omega
  have q25:(e.op==25)=false:=beq_false_of_ne n25
  have q26:(e.op==26)=true:=by rw [e26];rfl
  simp -implicitDefEqProofs only [vE,zE0,q22,q23,q24,q25,q26,↓zb,push_cast,simprocAttr,tte]
  refine za (fun a0=>?_) fun a0=>?_
  ·refine zd [[0,0,0,0,0,6]] [] (jn (zD e K)) ?_
   simp -implicitDefEqProofs only [q22,q23,q24,q25,q26,↓zb,push_cast,simprocAttr,tte]
   refine za (fun a2=>?_) fun a2=>?_
   ·have a1:=hcst a0 a2
    rw [if_pos a1] at hr
    refine zd [[0,0,0,0,0,6],[3]] [] (uK [] (zD e K) oO) ?_
    simp -implicitDefEqProofs only [↓zb,push_cast,simprocAttr,tte]
    refine zd [[0,0,0,0,0,6]] [] (wv (zD e K) a2 (fun k hk=>List.all_eq_true.1 a1.2.1 k hk)) ?_
    simp -implicitDefEqProofs only [↓zb,push_cast,simprocAttr,tte]
    refine zd [[0,0,0],[]] [] (ux (zN [] (zD e K)) (y7 (zD e K))) ?_
    simp -implicitDefEqProofs only [↓zb,push_cast,simprocAttr,tte]
    refine ⟨zh (by kernel_rfl),?_⟩
    refine zf [0,0,0,0,0,6] rfl (by simp) (by simp [zc]<;>omega) ?_ (by first | rfl | simp [ends] | (subst_vars;simp [ends])) (by simp [ends]) (by simp [ends])
    rw [<-hr];simp [zl]
   have a1:=hncst (.inr a2)
   rw [if_neg a1] at hr
   rw [if_neg (fun h=>n22 h.1),if_neg (fun h=>n23 h.1)] at hr
   refine za (fun z=>?_) fun z=>?_
   ·have hz:K=[]:=List.length_eq_zero_iff.1 (by simp only [beq_iff_eq] at z;omega)
    rw [if_pos hz] at hr
    refine zf [0,0,0,0,0,6] rfl (by simp) (by simp [zc]<;>omega) ?_ (by first | rfl | simp [ends] | (subst_vars;simp [ends])) (by simp [ends]) (by simp [ends])
    rw [<-hr];simp [zl,zE,zt,zz,zu,z1,zj]
   have hz: ¬K=[]:=fun h=>by rw [h] at z;exact absurd z (by decide)
   rw [if_neg hz] at hr
   have hz0:0<K.length:=Nat.pos_of_ne_zero fun h=>hz (List.length_eq_zero_iff.1 h)
   refine ⟨by omega,?_⟩
   rw [if_neg (fun h=>n24 h.1),if_neg (fun h=>n25 h.1)] at hr
   refine za (fun g0=>?_) fun g0=>?_
   ·skip
    have hl1:K.length=3:=by simp only [beq_iff_eq] at g0;omega
    refine za (fun g1=>?_) fun g1=>?_
    ·skip
     refine za (fun g2=>?_) fun g2=>?_
     ·rw [if_pos ⟨e26,hl1,by simpa using g1,by simp only [beq_iff_eq] at g2;omega⟩] at hr
      refine za (fun g3=>?_) fun g3=>?_
      ·rw [if_pos (by simpa using g3)] at hr
       refine ⟨by omega,?_⟩
       refine zf [0,0,0,0,0,6] rfl (by simp) (by simp [zc]<;>omega) ?_ (by first | rfl | simp [ends] | (subst_vars;simp [ends])) (by simp [ends]) (by simp [ends])
       rw [<-hr];simp [zl]
      rw [if_neg (by simpa using g3)] at hr
      refine ⟨by omega,?_⟩
      refine zf [0,0,0,0,0,6] rfl (by simp) (by simp [zc]<;>omega) ?_ (by first | rfl | simp [ends] | (subst_vars;simp [ends])) (by simp [ends]) (by simp [ends])
      rw [<-hr];simp [zl]
     rw [if_neg (fun h=>by rw [h.2.2.2] at g2;exact absurd g2 (by decide))] at hr
     refine zf [0,0,0,0,0,6] rfl (by simp) (by simp [zc]<;>omega) ?_ (by first | rfl | simp [ends] | (subst_vars;simp [ends])) (by simp [ends]) (by simp [ends])
     rw [<-hr];simp [zl,zE,zt,zz,zu,z1,zj]
    rw [if_neg (fun h=>by rw [h.2.2.1] at g1;exact absurd g1 (by decide))] at hr
    refine zf [0,0,0,0,0,6] rfl (by simp) (by simp [zc]<;>omega) ?_ (by first | rfl | simp [ends] | (subst_vars;simp [ends])) (by simp [ends]) (by simp [ends])
    rw [<-hr];simp [zl,zE,zt,zz,zu,z1,zj]
   have hl1: ¬K.length=3:=by simp only [beq_eq_false_iff_ne,ne_eq] at g0;omega
   rw [if_neg (fun h=>hl1 h.2.1)] at hr
   refine zf [0,0,0,0,0,6] rfl (by simp) (by simp [zc]<;>omega) ?_ (by first | rfl | simp [ends] | (subst_vars;simp [ends])) (by simp [ends]) (by simp [ends])
   rw [<-hr];simp [zl,zE,zt,zz,zu,z1,zj]
  have a1:=hncst (.inl a0)
  rw [if_neg a1] at hr
  rw [if_neg (fun h=>n22 h.1),if_neg (fun h=>n23 h.1)] at hr
  refine za (fun z=>?_) fun z=>?_
  ·have hz:K=[]:=List.length_eq_zero_iff.1 (by simp only [beq_iff_eq] at z;omega)
   rw [if_pos hz] at hr
   refine zf [0,0,0,0,0,6] rfl (by simp) (by simp [zc]<;>omega) ?_ (by first | rfl | simp [ends] | (subst_vars;simp [ends])) (by simp [ends]) (by simp [ends])
   rw [<-hr];simp [zl,zE,zt,zz,zu,z1,zj]
  have hz: ¬K=[]:=fun h=>by rw [h] at z;exact absurd z (by decide)
  rw [if_neg hz] at hr
  have hz0:0<K.length:=Nat.pos_of_ne_zero fun h=>hz (List.length_eq_zero_iff.1 h)
  refine ⟨by omega,?_⟩
  rw [if_neg (fun h=>n24 h.1),if_neg (fun h=>n25 h.1)] at hr
  refine za (fun g0=>?_) fun g0=>?_
  ·skip
   have hl1:K.length=3:=by simp only [beq_iff_eq] at g0;omega
   refine za (fun g1=>?_) fun g1=>?_
   ·skip
    refine za (fun g2=>?_) fun g2=>?_
    ·rw [if_pos ⟨e26,hl1,by simpa using g1,by simp only [beq_iff_eq] at g2;omega⟩] at hr
     refine za (fun g3=>?_) fun g3=>?_
     ·rw [if_pos (by simpa using g3)] at hr
      refine ⟨by omega,?_⟩
      refine zf [0,0,0,0,0,6] rfl (by simp) (by simp [zc]<;>omega) ?_ (by first | rfl | simp [ends] | (subst_vars;simp [ends])) (by simp [ends]) (by simp [ends])
      rw [<-hr];simp [zl]
     rw [if_neg (by simpa using g3)] at hr
     refine ⟨by omega,?_⟩
     refine zf [0,0,0,0,0,6] rfl (by simp) (by simp [zc]<;>omega) ?_ (by first | rfl | simp [ends] | (subst_vars;simp [ends])) (by simp [ends]) (by simp [ends])
     rw [<-hr];simp [zl]
    rw [if_neg (fun h=>by rw [h.2.2.2] at g2;exact absurd g2 (by decide))] at hr
    refine zf [0,0,0,0,0,6] rfl (by simp) (by simp [zc]<;>omega) ?_ (by first | rfl | simp [ends] | (subst_vars;simp [ends])) (by simp [ends]) (by simp [ends])
    rw [<-hr];simp [zl,zE,zt,zz,zu,z1,zj]
   rw [if_neg (fun h=>by rw [h.2.2.1] at g1;exact absurd g1 (by decide))] at hr
   refine zf [0,0,0,0,0,6] rfl (by simp) (by simp [zc]<;>omega) ?_ (by first | rfl | simp [ends] | (subst_vars;simp [ends])) (by simp [ends]) (by simp [ends])
   rw [<-hr];simp [zl,zE,zt,zz,zu,z1,zj]
  have hl1: ¬K.length=3:=by simp only [beq_eq_false_iff_ne,ne_eq] at g0;omega
  rw [if_neg (fun h=>hl1 h.2.1)] at hr
  refine zf [0,0,0,0,0,6] rfl (by simp) (by simp [zc]<;>omega) ?_ (by first | rfl | simp [ends] | (subst_vars;simp [ends])) (by simp [ends]) (by simp [ends])
  rw [<-hr];simp [zl,zE,zt,zz,zu,z1,zj]
 ·obtain ⟨n22,n23,n24,n25,n26⟩:=eo
  have q22:(e.op==22)=false:=beq_false_of_ne n22
  have q23:(e.op==23)=false:=beq_false_of_ne n23
  have q24:(e.op==24)=false:=beq_false_of_ne n24
  have q25:(e.op==25)=false:=beq_false_of_ne n25
  have q26:(e.op==26)=false:=beq_false_of_ne n26
  simp -implicitDefEqProofs only [vE,zE0,q22,q23,q24,q25,q26,↓zb,push_cast,simprocAttr,tte]
  refine za (fun a0=>?_) fun a0=>?_
  ·refine zd [[0,0,0,0,0,6]] [] (jn (zD e K)) ?_
   simp -implicitDefEqProofs only [q22,q23,q24,q25,q26,↓zb,push_cast,simprocAttr,tte]
   refine za (fun a2=>?_) fun a2=>?_
   ·have a1:=hcst a0 a2
    rw [if_pos a1] at hr
    refine zd [[0,0,0,0,0,6],[3]] [] (uK [] (zD e K) oO) ?_
    simp -implicitDefEqProofs only [↓zb,push_cast,simprocAttr,tte]
    refine zd [[0,0,0,0,0,6]] [] (wv (zD e K) a2 (fun k hk=>List.all_eq_true.1 a1.2.1 k hk)) ?_
    simp -implicitDefEqProofs only [↓zb,push_cast,simprocAttr,tte]
    refine zd [[0,0,0],[]] [] (ux (zN [] (zD e K)) (y7 (zD e K))) ?_
    simp -implicitDefEqProofs only [↓zb,push_cast,simprocAttr,tte]
    refine ⟨zh (by kernel_rfl),?_⟩
    refine zf [0,0,0,0,0,6] rfl (by simp) (by simp [zc]<;>omega) ?_ (by first | rfl | simp [ends] | (subst_vars;simp [ends])) (by simp [ends]) (by simp [ends])
    rw [<-hr];simp [zl]
   have a1:=hncst (.inr a2)
   rw [if_neg a1] at hr
   rw [if_neg (fun h=>n22 h.1),if_neg (fun h=>n23 h.1)] at hr
   refine za (fun z=>?_) fun z=>?_
   ·have hz:K=[]:=List.length_eq_zero_iff.1 (by simp only [beq_iff_eq] at z;omega)
    rw [if_pos hz] at hr
    refine zf [0,0,0,0,0,6] rfl (by simp) (by simp [zc]<;>omega) ?_ (by first | rfl | simp [ends] | (subst_vars;simp [ends])) (by simp [ends]) (by simp [ends])
    rw [<-hr];simp [zl,zE,zt,zz,zu,z1,zj]
   have hz: ¬K=[]:=fun h=>by rw [h] at z;exact absurd z (by decide)
   rw [if_neg hz] at hr
   have hz0:0<K.length:=Nat.pos_of_ne_zero fun h=>hz (List.length_eq_zero_iff.1 h)
   refine ⟨by omega,?_⟩
   rw [if_neg (fun h=>n24 h.1),if_neg (fun h=>n25 h.1),if_neg (fun h=>n26 h.1)] at hr
   refine zf [0,0,0,0,0,6] rfl (by simp) (by simp [zc]<;>omega) ?_ (by first | rfl | simp [ends] | (subst_vars;simp [ends])) (by simp [ends]) (by simp [ends])
   rw [<-hr];simp [zl,zE,zt,zz,zu,z1,zj]
  have a1:=hncst (.inl a0)
  rw [if_neg a1] at hr
  rw [if_neg (fun h=>n22 h.1),if_neg (fun h=>n23 h.1)] at hr
  refine za (fun z=>?_) fun z=>?_
  ·have hz:K=[]:=List.length_eq_zero_iff.1 (by simp only [beq_iff_eq] at z;omega)
   rw [if_pos hz] at hr
   refine zf [0,0,0,0,0,6] rfl (by simp) (by simp [zc]<;>omega) ?_ (by first | rfl | simp [ends] | (subst_vars;simp [ends])) (by simp [ends]) (by simp [ends])
   rw [<-hr];simp [zl,zE,zt,zz,zu,z1,zj]
  have hz: ¬K=[]:=fun h=>by rw [h] at z;exact absurd z (by decide)
  rw [if_neg hz] at hr
  have hz0:0<K.length:=Nat.pos_of_ne_zero fun h=>hz (List.length_eq_zero_iff.1 h)
  refine ⟨by omega,?_⟩
  rw [if_neg (fun h=>n24 h.1),if_neg (fun h=>n25 h.1),if_neg (fun h=>n26 h.1)] at hr
  refine zf [0,0,0,0,0,6] rfl (by simp) (by simp [zc]<;>omega) ?_ (by first | rfl | simp [ends] | (subst_vars;simp [ends])) (by simp [ends]) (by simp [ends])
  rw [<-hr];simp [zl,zE,zt,zz,zu,z1,zj]
end
section
open Go.Am
attribute [local simp, local push_cast] num boo str ints aV aRow zE zt zz zu z1 zj
def SR (e:Ex) (n:Nat):SL:=
 ⟨[(18,.d (.lit (.int .i64 n))),(17,.d (.lit (.int .i64 e.kids.length))),(16,.d (.sl 6 (zg rE e.kids))),(4,boo (jq e n)),(1,.ptr 1 0),(2,.ptr 2 0),(3,.ptr 3 0)],
  [(1,.var (vE e)),(2,.var zE0),(3,.var [.d (.lit (.int .i64 e.op)),.d (.lit (.int .i64 e.type)),.d (.lit (.int .i64 e.num)),.d (.lit (.string e.text)),.d (.lit (.int .i64 e.col)),.vec 500 n]),
   (500,.vec 29 6 (zg rE (yS e n)) 0)]⟩
theorem c_rfold: ∀e:Ex,Ok12 e→ACall Tryz.prog 43 [aE e] [] (aE (xB e)) []:=
 xj (p:=fun e=>Ok12 e->ACall Tryz.prog 43 [aE e] [] (aE (xB e)) []) fun e ih ho=>by
 refine zm mixed ttok Tryz.func43 Tryz.ntmps43 Tryz.results43 ?_
 generalize hr:aE (xB e)=R
 have hl:=ho.kids
 simp -implicitDefEqProofs only [argT,↓zb,push_cast,simprocAttr,tte]
 refine loopx_weak ?_
 refine z8 mixed ttok (fun n:Nat=>SR e n) (fun n=>e.kids.length-n) (fun n=>n<=e.kids.length) 0 (Nat.zero_le _) ?_ ?_
 ·exact (Weak.nilCellL 3 5 500 29 6 rfl rfl rfl).trans (Weak.keepL (by simp [SR,allTo_zero,vE,ends]) (by simp [SR,yS,zg,vE,zE0,ends]) (by simp [SR,ends]))
 intro I hI n hn
 have hl2:=jM e n hn
 simp -implicitDefEqProofs only [SR,vE,zE0,↓zb,push_cast,simprocAttr,tte]
 refine za (fun h=>?_) fun h=>?_
 ·have h':n<e.kids.length:=by simpa using h
  have hw:=zw h' (by omega)
  have hs:=jd e n h'
  have ha:=allTo_succ e n h'
  refine ⟨(by first | omega | trivial | (refine ⟨?_,?_⟩<;>first | omega | trivial | (refine ⟨?_,?_⟩<;>first | omega | trivial | (refine ⟨?_,?_⟩<;>first | omega | trivial | rfl)))),?_⟩
  refine zd [[0,0,0,0,0,6]] [] (ih _ (zx h') (ho.kid (zx h'))) ?_
  simp -implicitDefEqProofs only [↓zb,push_cast,simprocAttr,tte]
  generalize xB (e.kids.getD n default)=x at hs ha ⊢
  refine ⟨⟨hl2.symm,by rw [hl2];omega⟩,?_⟩
  rw [isConst_eq] at ha
  refine za (fun h2=>?_) fun h2=>?_
  ·refine zd [[0,0,0,0,0,6]] [] (c_rconstant x) ?_
   simp -implicitDefEqProofs only [↓zb,push_cast,simprocAttr,tte]
   refine za (fun h3=>?_) fun h3=>?_
   ·exact zp hI (n+1) h' (by show e.kids.length-(n+1)<e.kids.length-n;omega) (Weak.keepL (by simp [SR,hw,ha,h2,h3,ends]) (by simp [SR,hs,hl2,vE,zE0,zy,ends]) (by simp [SR,ends]))
   ·exact zp hI (n+1) h' (by show e.kids.length-(n+1)<e.kids.length-n;omega) (Weak.keepL (by simp [SR,hw,ha,h2,h3,ends]) (by simp [SR,hs,hl2,vE,zE0,zy,ends]) (by simp [SR,ends]))
  ·exact zp hI (n+1) h' (by show e.kids.length-(n+1)<e.kids.length-n;omega) (Weak.keepL (by simp [SR,hw,ha,h2,ends]) (by simp [SR,hs,hl2,vE,zE0,zy,ends]) (by simp [SR,ends]))
 have hn2:n=e.kids.length:=by have:=of_decide_eq_false h;omega
 subst hn2
 clear hI
 have hT:yS e e.kids.length=e.kids.map xB:=by rw [yS,List.take_length]
 have hk: ∀k∈yS e e.kids.length,Ok12 k:=fun k hk=>by
  rw [hT] at hk
  obtain ⟨x,hx,rfl⟩:=List.mem_map.1 hk
  exact ok12_fold x (ho.kid hx)
 have hA:jq e e.kids.length=(decide ((e.kids.length:Int)>0)&&(yS e e.kids.length).all yh):=rfl
 rw [foldM_eq,<-hT] at hr
 generalize jq e e.kids.length=al at hA ⊢
 generalize hK:yS e e.kids.length=K at hk hr hA hl2 ⊢
 have oO:Ok12 (zD e K):=⟨_,by show K.length<=_;omega,hk⟩
 rw [show decide ((e.kids.length:Int)>0)=decide ((K.length:Int)>0) from by rw [hl2]] at hA
 refine ⟨⟨[(1,.ptr 1 0),(2,.ptr 2 0),(3,.ptr 3 0),(4,boo al)],[(1,.var (vE e)),(2,.var zE0),(3,.var (vE (zD e K)))]⟩,?_,?_⟩
 ·rw [←hl2]
  exact (Weak.frzCellL 3 5 6 rfl rfl rfl (by simp [zc]) rfl).trans (Weak.keepL (by simp [ends]) (by simp [vE,zE0,zj,zE,ends]) (by simp [ends]))
 clear hT ih h hK
 rw [<-hl2] at hl
 clear hl2
 rw [foldO_eq] at hr
 unfold foldK at hr
 have hop:e.op=22\/e.op=23\/e.op=24\/e.op=25\/e.op=26\/(e.op≠22/\e.op≠23/\e.op≠24/\e.op≠25/\e.op≠26):=by omega
 have hcst:al=true->xF (zD e K)=true->K≠[]/\K.all yh=true/\xF (zD e K)=true:=fun h1 h2=>by
  rw [hA,Bool.and_eq_true,decide_eq_true_eq] at h1
  exact ⟨fun e=>by rw [e] at h1;simp at h1,h1.2,h2⟩
 have hncst:(al=false\/xF (zD e K)=false)-> ¬(K≠[]/\K.all yh=true/\xF (zD e K)=true):=fun h1 h2=>by
  rcases h1 with h1 | h1
  ·rw [hA,h2.2.1,Bool.and_true,decide_eq_false_iff_not] at h1
   have:K.length≠0:=fun e=>h2.1 (List.length_eq_zero_iff.1 e)
   omega
  ·rw [h1] at h2;exact absurd h2.2.2 (by decide)
 clear hA
 rcases hop with e22 | e23 | e24 | e25 | e26 | eo
 ·skip
  have q22:(e.op==22)=true:=by rw [e22];rfl
  have n23: ¬e.op=23:=by omega
  have q23:(e.op==23)=false:=beq_false_of_ne n23
  have n24: ¬e.op=24:=by omega
  have q24:(e.op==24)=false:=beq_false_of_ne n24
  have n25: ¬e.op=25:=by omega
  have q25:(e.op==25)=false:=beq_false_of_ne n25
  have n26: ¬e.op=26:=by omega
  have q26:(e.op==26)=false:=beq_false_of_ne n26
  simp -implicitDefEqProofs only [vE,zE0,q22,q23,q24,q25,q26,↓zb,push_cast,simprocAttr,tte]
  refine za (fun a0=>?_) fun a0=>?_
  ·refine zd [[0,0,0,0,0,6]] [] (uL (zD e K)) ?_
   simp -implicitDefEqProofs only [q22,q23,q24,q25,q26,↓zb,push_cast,simprocAttr,tte]
   refine za (fun a2=>?_) fun a2=>?_
   ·have a1:=hcst a0 a2
    rw [if_pos a1] at hr
    refine zd [[0,0,0,0,0,6],[3]] [] (w8 [] (zD e K) oO) ?_
    simp -implicitDefEqProofs only [↓zb,push_cast,simprocAttr,tte]
    refine zd [[0,0,0,0,0,6]] [] (xV (zD e K) a2 (fun k hk=>List.all_eq_true.1 a1.2.1 k hk)) ?_
    simp -implicitDefEqProofs only [↓zb,push_cast,simprocAttr,tte]
    refine zd [[0,0,0],[]] [] (yN (zN [] (zD e K)) (y7 (zD e K))) ?_
    simp -implicitDefEqProofs only [↓zb,push_cast,simprocAttr,tte]
    refine ⟨zh (by kernel_rfl),?_⟩
    refine zf [0,0,0,0,0,6] rfl (by simp) (by simp [zc]<;>omega) ?_ (by first | rfl | simp [ends] | (subst_vars;simp [ends])) (by simp [ends]) (by simp [ends])
    rw [<-hr];simp [zl]
   have a1:=hncst (.inr a2)
   rw [if_neg a1] at hr
   have hei:xZ (zD e K) 0=((K.length==2)&&(isB (K.getD 0 default) 0 || isB (K.getD 1 default) 0)):=rfl
   refine za (fun g0=>?_) fun g0=>?_
   ·have hl2:K.length=2:=by simp only [beq_iff_eq] at g0;omega
    rw [hl2] at hei
    refine ⟨by omega,?_⟩
    refine zd [[0,0,0,0,0,6],[]] [] (c_is (K.getD 0 default) 0) ?_
    simp -implicitDefEqProofs only [q22,q23,q24,q25,q26,↓zb,push_cast,simprocAttr,tte]
    refine za (fun g1=>?_) fun g1=>?_
    ·rw [g1] at hei
     rw [if_pos ⟨e22,hei⟩] at hr
     refine zf [0,0,0,0,0,6] rfl (by simp) (by simp [zc]<;>omega) ?_ (by first | rfl | simp [ends] | (subst_vars;simp [ends])) (by simp [ends]) (by simp [ends])
     rw [<-hr];simp [zl,xT,Ex.op,Ex.type,Ex.num,Ex.text,Ex.col,Ex.kids,zg]
    refine ⟨by omega,?_⟩
    refine zd [[0,0,0,0,0,6],[]] [] (c_is (K.getD 1 default) 0) ?_
    simp -implicitDefEqProofs only [q22,q23,q24,q25,q26,↓zb,push_cast,simprocAttr,tte]
    refine za (fun g2=>?_) fun g2=>?_
    ·rw [g1,g2] at hei
     rw [if_pos ⟨e22,hei⟩] at hr
     refine zf [0,0,0,0,0,6] rfl (by simp) (by simp [zc]<;>omega) ?_ (by first | rfl | simp [ends] | (subst_vars;simp [ends])) (by simp [ends]) (by simp [ends])
     rw [<-hr];simp [zl,xT,Ex.op,Ex.type,Ex.num,Ex.text,Ex.col,Ex.kids,zg]
    rw [g1,g2] at hei
    rw [if_neg (fun h=>by rw [hei] at h;exact absurd h.2 (by decide))] at hr
    rw [if_neg (fun h=>n23 h.1)] at hr
    by_cases hz:K=[]
    ·rw [if_pos hz] at hr
     have hz2:(K.length:Int)=0:=by rw [hz];rfl
     have w1:((K.length:Int)==1)=false:=by rw [hz2];rfl
     have w3:((K.length:Int)==3)=false:=by rw [hz2];rfl
     try simp -implicitDefEqProofs only [w1,w3,↓zb,push_cast,simprocAttr,tte]
     refine zf [0,0,0,0,0,6] rfl (by simp) (by simp [zc]<;>omega) ?_ (by first | rfl | simp [ends] | (subst_vars;simp [ends])) (by simp [ends]) (by simp [ends])
     rw [<-hr];simp [zl,zE,zt,zz,zu,z1,zj]
    rw [if_neg hz] at hr
    have hz0:0<K.length:=Nat.pos_of_ne_zero fun h=>hz (List.length_eq_zero_iff.1 h)
    rw [if_neg (fun h=>n24 h.1),if_neg (fun h=>n25 h.1),if_neg (fun h=>n26 h.1)] at hr
    refine zf [0,0,0,0,0,6] rfl (by simp) (by simp [zc]<;>omega) ?_ (by first | rfl | simp [ends] | (subst_vars;simp [ends])) (by simp [ends]) (by simp [ends])
    rw [<-hr];simp [zl,zE,zt,zz,zu,z1,zj]
   have hl2: ¬K.length=2:=by simp only [beq_eq_false_iff_ne,ne_eq] at g0;omega
   rw [beq_false_of_ne hl2,Bool.false_and] at hei
   rw [if_neg (fun h=>by rw [hei] at h;exact absurd h.2 (by decide))] at hr
   rw [if_neg (fun h=>n23 h.1)] at hr
   by_cases hz:K=[]
   ·rw [if_pos hz] at hr
    have hz2:(K.length:Int)=0:=by rw [hz];rfl
    have w1:((K.length:Int)==1)=false:=by rw [hz2];rfl
    have w3:((K.length:Int)==3)=false:=by rw [hz2];rfl
    try simp -implicitDefEqProofs only [w1,w3,↓zb,push_cast,simprocAttr,tte]
    refine zf [0,0,0,0,0,6] rfl (by simp) (by simp [zc]<;>omega) ?_ (by first | rfl | simp [ends] | (subst_vars;simp [ends])) (by simp [ends]) (by simp [ends])
    rw [<-hr];simp [zl,zE,zt,zz,zu,z1,zj]
   rw [if_neg hz] at hr
   have hz0:0<K.length:=Nat.pos_of_ne_zero fun h=>hz (List.length_eq_zero_iff.1 h)
   rw [if_neg (fun h=>n24 h.1),if_neg (fun h=>n25 h.1),if_neg (fun h=>n26 h.1)] at hr
   refine zf [0,0,0,0,0,6] rfl (by simp) (by simp [zc]<;>omega) ?_ (by first | rfl | simp [ends] | (subst_vars;simp [ends])) (by simp [ends]) (by simp [ends])
   rw [<-hr];simp [zl,zE,zt,zz,zu,z1,zj]
  have a1:=hncst (.inl a0)
  rw [if_neg a1] at hr
  have hei:xZ (zD e K) 0=((K.length==2)&&(isB (K.getD 0 default) 0 || isB (K.getD 1 default) 0)):=rfl
  refine za (fun g0=>?_) fun g0=>?_
  ·have hl2:K.length=2:=by simp only [beq_iff_eq] at g0;omega
   rw [hl2] at hei
   refine ⟨by omega,?_⟩
   refine zd [[0,0,0,0,0,6],[]] [] (c_is (K.getD 0 default) 0) ?_
   simp -implicitDefEqProofs only [q22,q23,q24,q25,q26,↓zb,push_cast,simprocAttr,tte]
   refine za (fun g1=>?_) fun g1=>?_
   ·rw [g1] at hei
    rw [if_pos ⟨e22,hei⟩] at hr
    refine zf [0,0,0,0,0,6] rfl (by simp) (by simp [zc]<;>omega) ?_ (by first | rfl | simp [ends] | (subst_vars;simp [ends])) (by simp [ends]) (by simp [ends])
    rw [<-hr];simp [zl,xT,Ex.op,Ex.type,Ex.num,Ex.text,Ex.col,Ex.kids,zg]
   refine ⟨by omega,?_⟩
   refine zd [[0,0,0,0,0,6],[]] [] (c_is (K.getD 1 default) 0) ?_
   simp -implicitDefEqProofs only [q22,q23,q24,q25,q26,↓zb,push_cast,simprocAttr,tte]
   refine za (fun g2=>?_) fun g2=>?_
   ·rw [g1,g2] at hei
    rw [if_pos ⟨e22,hei⟩] at hr
    refine zf [0,0,0,0,0,6] rfl (by simp) (by simp [zc]<;>omega) ?_ (by first | rfl | simp [ends] | (subst_vars;simp [ends])) (by simp [ends]) (by simp [ends])
    rw [<-hr];simp [zl,xT,Ex.op,Ex.type,Ex.num,Ex.text,Ex.col,Ex.kids,zg]
   rw [g1,g2] at hei
   rw [if_neg (fun h=>by rw [hei] at h;exact absurd h.2 (by decide))] at hr
   rw [if_neg (fun h=>n23 h.1)] at hr
   by_cases hz:K=[]
   ·rw [if_pos hz] at hr
    have hz2:(K.length:Int)=0:=by rw [hz];rfl
    have w1:((K.length:Int)==1)=false:=by rw [hz2];rfl
    have w3:((K.length:Int)==3)=false:=by rw [hz2];rfl
    try simp -implicitDefEqProofs only [w1,w3,↓zb,push_cast,simprocAttr,tte]
    refine zf [0,0,0,0,0,6] rfl (by simp) (by simp [zc]<;>omega) ?_ (by first | rfl | simp [ends] | (subst_vars;simp [ends])) (by simp [ends]) (by simp [ends])
    rw [<-hr];simp [zl,zE,zt,zz,zu,z1,zj]
   rw [if_neg hz] at hr
   have hz0:0<K.length:=Nat.pos_of_ne_zero fun h=>hz (List.length_eq_zero_iff.1 h)
   rw [if_neg (fun h=>n24 h.1),if_neg (fun h=>n25 h.1),if_neg (fun h=>n26 h.1)] at hr
   refine zf [0,0,0,0,0,6] rfl (by simp) (by simp [zc]<;>omega) ?_ (by first | rfl | simp [ends] | (subst_vars;simp [ends])) (by simp [ends]) (by simp [ends])
   rw [<-hr];simp [zl,zE,zt,zz,zu,z1,zj]
  have hl2: ¬K.length=2:=by simp only [beq_eq_false_iff_ne,ne_eq] at g0;omega
  rw [beq_false_of_ne hl2,Bool.false_and] at hei
  rw [if_neg (fun h=>by rw [hei] at h;exact absurd h.2 (by decide))] at hr
  rw [if_neg (fun h=>n23 h.1)] at hr
  by_cases hz:K=[]
  ·rw [if_pos hz] at hr
   have hz2:(K.length:Int)=0:=by rw [hz];rfl
   have w1:((K.length:Int)==1)=false:=by rw [hz2];rfl
   have w3:((K.length:Int)==3)=false:=by rw [hz2];rfl
   try simp -implicitDefEqProofs only [w1,w3,↓zb,push_cast,simprocAttr,tte]
   refine zf [0,0,0,0,0,6] rfl (by simp) (by simp [zc]<;>omega) ?_ (by first | rfl | simp [ends] | (subst_vars;simp [ends])) (by simp [ends]) (by simp [ends])
   rw [<-hr];simp [zl,zE,zt,zz,zu,z1,zj]
  rw [if_neg hz] at hr
  have hz0:0<K.length:=Nat.pos_of_ne_zero fun h=>hz (List.length_eq_zero_iff.1 h)
  rw [if_neg (fun h=>n24 h.1),if_neg (fun h=>n25 h.1),if_neg (fun h=>n26 h.1)] at hr
  refine zf [0,0,0,0,0,6] rfl (by simp) (by simp [zc]<;>omega) ?_ (by first | rfl | simp [ends] | (subst_vars;simp [ends])) (by simp [ends]) (by simp [ends])
  rw [<-hr];simp [zl,zE,zt,zz,zu,z1,zj]
 ·skip
  have n22: ¬e.op=22:=by omega
  have q22:(e.op==22)=false:=beq_false_of_ne n22
  have q23:(e.op==23)=true:=by rw [e23];rfl
  have n24: ¬e.op=24:=by omega
  have q24:(e.op==24)=false:=beq_false_of_ne n24
  have n25: ¬e.op=25:=by omega
  have q25:(e.op==25)=false:=beq_false_of_ne n25
  have n26: ¬e.op=26:=by omega
  have q26:(e.op==26)=false:=beq_false_of_ne n26
  simp -implicitDefEqProofs only [vE,zE0,q22,q23,q24,q25,q26,↓zb,push_cast,simprocAttr,tte]
  refine za (fun a0=>?_) fun a0=>?_
  ·refine zd [[0,0,0,0,0,6]] [] (uL (zD e K)) ?_
   simp -implicitDefEqProofs only [q22,q23,q24,q25,q26,↓zb,push_cast,simprocAttr,tte]
   refine za (fun a2=>?_) fun a2=>?_
   ·have a1:=hcst a0 a2
    rw [if_pos a1] at hr
    refine zd [[0,0,0,0,0,6],[3]] [] (w8 [] (zD e K) oO) ?_
    simp -implicitDefEqProofs only [↓zb,push_cast,simprocAttr,tte]
    refine zd [[0,0,0,0,0,6]] [] (xV (zD e K) a2 (fun k hk=>List.all_eq_true.1 a1.2.1 k hk)) ?_
    simp -implicitDefEqProofs only [↓zb,push_cast,simprocAttr,tte]
    refine zd [[0,0,0],[]] [] (yN (zN [] (zD e K)) (y7 (zD e K))) ?_
    simp -implicitDefEqProofs only [↓zb,push_cast,simprocAttr,tte]
    refine ⟨zh (by kernel_rfl),?_⟩
    refine zf [0,0,0,0,0,6] rfl (by simp) (by simp [zc]<;>omega) ?_ (by first | rfl | simp [ends] | (subst_vars;simp [ends])) (by simp [ends]) (by simp [ends])
    rw [<-hr];simp [zl]
   have a1:=hncst (.inr a2)
   rw [if_neg a1] at hr
   rw [if_neg (fun h=>n22 h.1)] at hr
   have hei:xZ (zD e K) 1=((K.length==2)&&(isB (K.getD 0 default) 1 || isB (K.getD 1 default) 1)):=rfl
   refine za (fun g0=>?_) fun g0=>?_
   ·have hl2:K.length=2:=by simp only [beq_iff_eq] at g0;omega
    rw [hl2] at hei
    refine ⟨by omega,?_⟩
    refine zd [[0,0,0,0,0,6],[]] [] (c_is (K.getD 0 default) 1) ?_
    simp -implicitDefEqProofs only [q22,q23,q24,q25,q26,↓zb,push_cast,simprocAttr,tte]
    refine za (fun g1=>?_) fun g1=>?_
    ·rw [g1] at hei
     rw [if_pos ⟨e23,hei⟩] at hr
     refine zf [0,0,0,0,0,6] rfl (by simp) (by simp [zc]<;>omega) ?_ (by first | rfl | simp [ends] | (subst_vars;simp [ends])) (by simp [ends]) (by simp [ends])
     rw [<-hr];simp [zl,xT,Ex.op,Ex.type,Ex.num,Ex.text,Ex.col,Ex.kids,zg]
    refine ⟨by omega,?_⟩
    refine zd [[0,0,0,0,0,6],[]] [] (c_is (K.getD 1 default) 1) ?_
    simp -implicitDefEqProofs only [q22,q23,q24,q25,q26,↓zb,push_cast,simprocAttr,tte]
    refine za (fun g2=>?_) fun g2=>?_
    ·rw [g1,g2] at hei
     rw [if_pos ⟨e23,hei⟩] at hr
     refine zf [0,0,0,0,0,6] rfl (by simp) (by simp [zc]<;>omega) ?_ (by first | rfl | simp [ends] | (subst_vars;simp [ends])) (by simp [ends]) (by simp [ends])
     rw [<-hr];simp [zl,xT,Ex.op,Ex.type,Ex.num,Ex.text,Ex.col,Ex.kids,zg]
    rw [g1,g2] at hei
    rw [if_neg (fun h=>by rw [hei] at h;exact absurd h.2 (by decide))] at hr
    by_cases hz:K=[]
    ·rw [if_pos hz] at hr
     have hz2:(K.length:Int)=0:=by rw [hz];rfl
     have w1:((K.length:Int)==1)=false:=by rw [hz2];rfl
     have w3:((K.length:Int)==3)=false:=by rw [hz2];rfl
     try simp -implicitDefEqProofs only [w1,w3,↓zb,push_cast,simprocAttr,tte]
     refine zf [0,0,0,0,0,6] rfl (by simp) (by simp [zc]<;>omega) ?_ (by first | rfl | simp [ends] | (subst_vars;simp [ends])) (by simp [ends]) (by simp [ends])
     rw [<-hr];simp [zl,zE,zt,zz,zu,z1,zj]
    rw [if_neg hz] at hr
    have hz0:0<K.length:=Nat.pos_of_ne_zero fun h=>hz (List.length_eq_zero_iff.1 h)
    rw [if_neg (fun h=>n24 h.1),if_neg (fun h=>n25 h.1),if_neg (fun h=>n26 h.1)] at hr
    refine zf [0,0,0,0,0,6] rfl (by simp) (by simp [zc]<;>omega) ?_ (by first | rfl | simp [ends] | (subst_vars;simp [ends])) (by simp [ends]) (by simp [ends])
    rw [<-hr];simp [zl,zE,zt,zz,zu,z1,zj]
   have hl2: ¬K.length=2:=by simp only [beq_eq_false_iff_ne,ne_eq] at g0;omega
   rw [beq_false_of_ne hl2,Bool.false_and] at hei
   rw [if_neg (fun h=>by rw [hei] at h;exact absurd h.2 (by decide))] at hr
   by_cases hz:K=[]
   ·rw [if_pos hz] at hr
    have hz2:(K.length:Int)=0:=by rw [hz];rfl
    have w1:((K.length:Int)==1)=false:=by rw [hz2];rfl
    have w3:((K.length:Int)==3)=false:=by rw [hz2];rfl
    try simp -implicitDefEqProofs only [w1,w3,↓zb,push_cast,simprocAttr,tte]
    refine zf [0,0,0,0,0,6] rfl (by simp) (by simp [zc]<;>omega) ?_ (by first | rfl | simp [ends] | (subst_vars;simp [ends])) (by simp [ends]) (by simp [ends])
    rw [<-hr];simp [zl,zE,zt,zz,zu,z1,zj]
   rw [if_neg hz] at hr
   have hz0:0<K.length:=Nat.pos_of_ne_zero fun h=>hz (List.length_eq_zero_iff.1 h)
   rw [if_neg (fun h=>n24 h.1),if_neg (fun h=>n25 h.1),if_neg (fun h=>n26 h.1)] at hr
   refine zf [0,0,0,0,0,6] rfl (by simp) (by simp [zc]<;>omega) ?_ (by first | rfl | simp [ends] | (subst_vars;simp [ends])) (by simp [ends]) (by simp [ends])
   rw [<-hr];simp [zl,zE,zt,zz,zu,z1,zj]
  have a1:=hncst (.inl a0)
  rw [if_neg a1] at hr
  rw [if_neg (fun h=>n22 h.1)] at hr
  have hei:xZ (zD e K) 1=((K.length==2)&&(isB (K.getD 0 default) 1 || isB (K.getD 1 default) 1)):=rfl
  refine za (fun g0=>?_) fun g0=>?_
  ·have hl2:K.length=2:=by simp only [beq_iff_eq] at g0;omega
   rw [hl2] at hei
   refine ⟨by omega,?_⟩
   refine zd [[0,0,0,0,0,6],[]] [] (c_is (K.getD 0 default) 1) ?_
   simp -implicitDefEqProofs only [q22,q23,q24,q25,q26,↓zb,push_cast,simprocAttr,tte]
   refine za (fun g1=>?_) fun g1=>?_
   ·rw [g1] at hei
    rw [if_pos ⟨e23,hei⟩] at hr
    refine zf [0,0,0,0,0,6] rfl (by simp) (by simp [zc]<;>omega) ?_ (by first | rfl | simp [ends] | (subst_vars;simp [ends])) (by simp [ends]) (by simp [ends])
    rw [<-hr];simp [zl,xT,Ex.op,Ex.type,Ex.num,Ex.text,Ex.col,Ex.kids,zg]
   refine ⟨by omega,?_⟩
   refine zd [[0,0,0,0,0,6],[]] [] (c_is (K.getD 1 default) 1) ?_
   simp -implicitDefEqProofs only [q22,q23,q24,q25,q26,↓zb,push_cast,simprocAttr,tte]
   refine za (fun g2=>?_) fun g2=>?_
   ·rw [g1,g2] at hei
    rw [if_pos ⟨e23,hei⟩] at hr
    refine zf [0,0,0,0,0,6] rfl (by simp) (by simp [zc]<;>omega) ?_ (by first | rfl | simp [ends] | (subst_vars;simp [ends])) (by simp [ends]) (by simp [ends])
    rw [<-hr];simp [zl,xT,Ex.op,Ex.type,Ex.num,Ex.text,Ex.col,Ex.kids,zg]
   rw [g1,g2] at hei
   rw [if_neg (fun h=>by rw [hei] at h;exact absurd h.2 (by decide))] at hr
   by_cases hz:K=[]
   ·rw [if_pos hz] at hr
    have hz2:(K.length:Int)=0:=by rw [hz];rfl
    have w1:((K.length:Int)==1)=false:=by rw [hz2];rfl
    have w3:((K.length:Int)==3)=false:=by rw [hz2];rfl
    try simp -implicitDefEqProofs only [w1,w3,↓zb,push_cast,simprocAttr,tte]
    refine zf [0,0,0,0,0,6] rfl (by simp) (by simp [zc]<;>omega) ?_ (by first | rfl | simp [ends] | (subst_vars;simp [ends])) (by simp [ends]) (by simp [ends])
    rw [<-hr];simp [zl,zE,zt,zz,zu,z1,zj]
   rw [if_neg hz] at hr
   have hz0:0<K.length:=Nat.pos_of_ne_zero fun h=>hz (List.length_eq_zero_iff.1 h)
   rw [if_neg (fun h=>n24 h.1),if_neg (fun h=>n25 h.1),if_neg (fun h=>n26 h.1)] at hr
   refine zf [0,0,0,0,0,6] rfl (by simp) (by simp [zc]<;>omega) ?_ (by first | rfl | simp [ends] | (subst_vars;simp [ends])) (by simp [ends]) (by simp [ends])
   rw [<-hr];simp [zl,zE,zt,zz,zu,z1,zj]
  have hl2: ¬K.length=2:=by simp only [beq_eq_false_iff_ne,ne_eq] at g0;omega
  rw [beq_false_of_ne hl2,Bool.false_and] at hei
  rw [if_neg (fun h=>by rw [hei] at h;exact absurd h.2 (by decide))] at hr
  by_cases hz:K=[]
  ·rw [if_pos hz] at hr
   have hz2:(K.length:Int)=0:=by rw [hz];rfl
   have w1:((K.length:Int)==1)=false:=by rw [hz2];rfl
   have w3:((K.length:Int)==3)=false:=by rw [hz2];rfl
   try simp -implicitDefEqProofs only [w1,w3,↓zb,push_cast,simprocAttr,tte]
   refine zf [0,0,0,0,0,6] rfl (by simp) (by simp [zc]<;>omega) ?_ (by first | rfl | simp [ends] | (subst_vars;simp [ends])) (by simp [ends]) (by simp [ends])
   rw [<-hr];simp [zl,zE,zt,zz,zu,z1,zj]
  rw [if_neg hz] at hr
  have hz0:0<K.length:=Nat.pos_of_ne_zero fun h=>hz (List.length_eq_zero_iff.1 h)
  rw [if_neg (fun h=>n24 h.1),if_neg (fun h=>n25 h.1),if_neg (fun h=>n26 h.1)] at hr
  refine zf [0,0,0,0,0,6] rfl (by simp) (by simp [zc]<;>omega) ?_ (by first | rfl | simp [ends] | (subst_vars;simp [ends])) (by simp [ends]) (by simp [ends])
  rw [<-hr];simp [zl,zE,zt,zz,zu,z1,zj]
 ·skip
  have n22: ¬e.op=22:=by omega
  have q22:(e.op==22)=false:=beq_false_of_ne n22
  have n23: ¬e.op=23:=by omega
  have q23:(e.op==23)=false:=beq_false_of_ne n23
  have q24:(e.op==24)=true:=by rw [e24];rfl
  have n25: ¬e.op=25:=by omega
  have q25:(e.op==25)=false:=beq_false_of_ne n25
  have n26: ¬e.op=26:=by omega
  have q26:(e.op==26)=false:=beq_false_of_ne n26
  simp -implicitDefEqProofs only [vE,zE0,q22,q23,q24,q25,q26,↓zb,push_cast,simprocAttr,tte]
  refine za (fun a0=>?_) fun a0=>?_
  ·refine zd [[0,0,0,0,0,6]] [] (uL (zD e K)) ?_
   simp -implicitDefEqProofs only [q22,q23,q24,q25,q26,↓zb,push_cast,simprocAttr,tte]
   refine za (fun a2=>?_) fun a2=>?_
   ·have a1:=hcst a0 a2
    rw [if_pos a1] at hr
    refine zd [[0,0,0,0,0,6],[3]] [] (w8 [] (zD e K) oO) ?_
    simp -implicitDefEqProofs only [↓zb,push_cast,simprocAttr,tte]
    refine zd [[0,0,0,0,0,6]] [] (xV (zD e K) a2 (fun k hk=>List.all_eq_true.1 a1.2.1 k hk)) ?_
    simp -implicitDefEqProofs only [↓zb,push_cast,simprocAttr,tte]
    refine zd [[0,0,0],[]] [] (yN (zN [] (zD e K)) (y7 (zD e K))) ?_
    simp -implicitDefEqProofs only [↓zb,push_cast,simprocAttr,tte]
    refine ⟨zh (by kernel_rfl),?_⟩
    refine zf [0,0,0,0,0,6] rfl (by simp) (by simp [zc]<;>omega) ?_ (by first | rfl | simp [ends] | (subst_vars;simp [ends])) (by simp [ends]) (by simp [ends])
    rw [<-hr];simp [zl]
   have a1:=hncst (.inr a2)
   rw [if_neg a1] at hr
   rw [if_neg (fun h=>n22 h.1),if_neg (fun h=>n23 h.1)] at hr
   by_cases hz:K=[]
   ·rw [if_pos hz] at hr
    have hz2:(K.length:Int)=0:=by rw [hz];rfl
    have w1:((K.length:Int)==1)=false:=by rw [hz2];rfl
    have w3:((K.length:Int)==3)=false:=by rw [hz2];rfl
    try simp -implicitDefEqProofs only [w1,w3,↓zb,push_cast,simprocAttr,tte]
    refine zf [0,0,0,0,0,6] rfl (by simp) (by simp [zc]<;>omega) ?_ (by first | rfl | simp [ends] | (subst_vars;simp [ends])) (by simp [ends]) (by simp [ends])
    rw [<-hr];simp [zl,zE,zt,zz,zu,z1,zj]
   rw [if_neg hz] at hr
   have hz0:0<K.length:=Nat.pos_of_ne_zero fun h=>hz (List.length_eq_zero_iff.1 h)
   refine za (fun g0=>?_) fun g0=>?_
   ·skip
    have hl1:K.length=1:=by simp only [beq_iff_eq] at g0;omega
    refine ⟨by omega,?_⟩
    refine za (fun g1=>?_) fun g1=>?_
    ·refine ⟨by omega,?_⟩
     refine za (fun g2=>?_) fun g2=>?_
     ·have gl:(K.getD 0 default).kids.length=1:=by simp only [beq_iff_eq] at g2;omega
      refine ⟨by omega,by omega,?_⟩
      refine zd [[0,0,0,0,0,6]] [] (c_rtruth23 ((K.getD 0 default).kids.getD 0 default)) ?_
      simp -implicitDefEqProofs only [q22,q23,q24,q25,q26,↓zb,push_cast,simprocAttr,tte]
      refine za (fun g3=>?_) fun g3=>?_
      ·rw [if_pos ⟨e24,hl1,by simpa using g1,gl,g3⟩] at hr
       refine ⟨by omega,by omega,?_⟩
       refine zf [0,0,0,0,0,6] rfl (by simp) (by simp [zc]<;>omega) ?_ (by first | rfl | simp [ends] | (subst_vars;simp [ends])) (by simp [ends]) (by simp [ends])
       rw [<-hr];simp [zl]
      rw [if_neg (fun h=>by rw [g3] at h;exact absurd h.2.2.2.2 (by decide)),if_neg (fun h=>n25 h.1),if_neg (fun h=>n26 h.1)] at hr
      refine zf [0,0,0,0,0,6] rfl (by simp) (by simp [zc]<;>omega) ?_ (by first | rfl | simp [ends] | (subst_vars;simp [ends])) (by simp [ends]) (by simp [ends])
      rw [<-hr];simp [zl,zE,zt,zz,zu,z1,zj]
     rw [if_neg (fun h=>by rw [h.2.2.2.1] at g2;exact absurd g2 (by decide)),if_neg (fun h=>n25 h.1),if_neg (fun h=>n26 h.1)] at hr
     refine zf [0,0,0,0,0,6] rfl (by simp) (by simp [zc]<;>omega) ?_ (by first | rfl | simp [ends] | (subst_vars;simp [ends])) (by simp [ends]) (by simp [ends])
     rw [<-hr];simp [zl,zE,zt,zz,zu,z1,zj]
    rw [if_neg (fun h=>by rw [h.2.2.1] at g1;exact absurd g1 (by decide)),if_neg (fun h=>n25 h.1),if_neg (fun h=>n26 h.1)] at hr
    refine zf [0,0,0,0,0,6] rfl (by simp) (by simp [zc]<;>omega) ?_ (by first | rfl | simp [ends] | (subst_vars;simp [ends])) (by simp [ends]) (by simp [ends])
    rw [<-hr];simp [zl,zE,zt,zz,zu,z1,zj]
   have hl1: ¬K.length=1:=by simp only [beq_eq_false_iff_ne,ne_eq] at g0;omega
   rw [if_neg (fun h=>hl1 h.2.1),if_neg (fun h=>n25 h.1),if_neg (fun h=>n26 h.1)] at hr
   refine zf [0,0,0,0,0,6] rfl (by simp) (by simp [zc]<;>omega) ?_ (by first | rfl | simp [ends] | (subst_vars;simp [ends])) (by simp [ends]) (by simp [ends])
   rw [<-hr];simp [zl,zE,zt,zz,zu,z1,zj]
  have a1:=hncst (.inl a0)
  rw [if_neg a1] at hr
  rw [if_neg (fun h=>n22 h.1),if_neg (fun h=>n23 h.1)] at hr
  by_cases hz:K=[]
  ·rw [if_pos hz] at hr
   have hz2:(K.length:Int)=0:=by rw [hz];rfl
   have w1:((K.length:Int)==1)=false:=by rw [hz2];rfl
   have w3:((K.length:Int)==3)=false:=by rw [hz2];rfl
   try simp -implicitDefEqProofs only [w1,w3,↓zb,push_cast,simprocAttr,tte]
   refine zf [0,0,0,0,0,6] rfl (by simp) (by simp [zc]<;>omega) ?_ (by first | rfl | simp [ends] | (subst_vars;simp [ends])) (by simp [ends]) (by simp [ends])
   rw [<-hr];simp [zl,zE,zt,zz,zu,z1,zj]
  rw [if_neg hz] at hr
  have hz0:0<K.length:=Nat.pos_of_ne_zero fun h=>hz (List.length_eq_zero_iff.1 h)
  refine za (fun g0=>?_) fun g0=>?_
  ·skip
   have hl1:K.length=1:=by simp only [beq_iff_eq] at g0;omega
   refine ⟨by omega,?_⟩
   refine za (fun g1=>?_) fun g1=>?_
   ·refine ⟨by omega,?_⟩
    refine za (fun g2=>?_) fun g2=>?_
    ·have gl:(K.getD 0 default).kids.length=1:=by simp only [beq_iff_eq] at g2;omega
     refine ⟨by omega,by omega,?_⟩
     refine zd [[0,0,0,0,0,6]] [] (c_rtruth23 ((K.getD 0 default).kids.getD 0 default)) ?_
     simp -implicitDefEqProofs only [q22,q23,q24,q25,q26,↓zb,push_cast,simprocAttr,tte]
     refine za (fun g3=>?_) fun g3=>?_
     ·rw [if_pos ⟨e24,hl1,by simpa using g1,gl,g3⟩] at hr
      refine ⟨by omega,by omega,?_⟩
      refine zf [0,0,0,0,0,6] rfl (by simp) (by simp [zc]<;>omega) ?_ (by first | rfl | simp [ends] | (subst_vars;simp [ends])) (by simp [ends]) (by simp [ends])
      rw [<-hr];simp [zl]
     rw [if_neg (fun h=>by rw [g3] at h;exact absurd h.2.2.2.2 (by decide)),if_neg (fun h=>n25 h.1),if_neg (fun h=>n26 h.1)] at hr
     refine zf [0,0,0,0,0,6] rfl (by simp) (by simp [zc]<;>omega) ?_ (by first | rfl | simp [ends] | (subst_vars;simp [ends])) (by simp [ends]) (by simp [ends])
     rw [<-hr];simp [zl,zE,zt,zz,zu,z1,zj]
    rw [if_neg (fun h=>by rw [h.2.2.2.1] at g2;exact absurd g2 (by decide)),if_neg (fun h=>n25 h.1),if_neg (fun h=>n26 h.1)] at hr
    refine zf [0,0,0,0,0,6] rfl (by simp) (by simp [zc]<;>omega) ?_ (by first | rfl | simp [ends] | (subst_vars;simp [ends])) (by simp [ends]) (by simp [ends])
    rw [<-hr];simp [zl,zE,zt,zz,zu,z1,zj]
   rw [if_neg (fun h=>by rw [h.2.2.1] at g1;exact absurd g1 (by decide)),if_neg (fun h=>n25 h.1),if_neg (fun h=>n26 h.1)] at hr
   refine zf [0,0,0,0,0,6] rfl (by simp) (by simp [zc]<;>omega) ?_ (by first | rfl | simp [ends] | (subst_vars;simp [ends])) (by simp [ends]) (by simp [ends])
   rw [<-hr];simp [zl,zE,zt,zz,zu,z1,zj]
  have hl1: ¬K.length=1:=by simp only [beq_eq_false_iff_ne,ne_eq] at g0;omega
  rw [if_neg (fun h=>hl1 h.2.1),if_neg (fun h=>n25 h.1),if_neg (fun h=>n26 h.1)] at hr
  refine zf [0,0,0,0,0,6] rfl (by simp) (by simp [zc]<;>omega) ?_ (by first | rfl | simp [ends] | (subst_vars;simp [ends])) (by simp [ends]) (by simp [ends])
  rw [<-hr];simp [zl,zE,zt,zz,zu,z1,zj]
 ·skip
  have n22: ¬e.op=22:=by omega
  have q22:(e.op==22)=false:=beq_false_of_ne n22
  have n23: ¬e.op=23:=by omega
  have q23:(e.op==23)=false:=beq_false_of_ne n23
  have n24: ¬e.op=24:=by omega
  have q24:(e.op==24)=false:=beq_false_of_ne n24
  have q25:(e.op==25)=true:=by rw [e25];rfl
  have n26: ¬e.op=26:=by omega
  have q26:(e.op==26)=false:=beq_false_of_ne n26
  simp -implicitDefEqProofs only [vE,zE0,q22,q23,q24,q25,q26,↓zb,push_cast,simprocAttr,tte]
  refine za (fun a0=>?_) fun a0=>?_
  ·refine zd [[0,0,0,0,0,6]] [] (uL (zD e K)) ?_
   simp -implicitDefEqProofs only [q22,q23,q24,q25,q26,↓zb,push_cast,simprocAttr,tte]
   refine za (fun a2=>?_) fun a2=>?_
   ·have a1:=hcst a0 a2
    rw [if_pos a1] at hr
    refine zd [[0,0,0,0,0,6],[3]] [] (w8 [] (zD e K) oO) ?_
    simp -implicitDefEqProofs only [↓zb,push_cast,simprocAttr,tte]
    refine zd [[0,0,0,0,0,6]] [] (xV (zD e K) a2 (fun k hk=>List.all_eq_true.1 a1.2.1 k hk)) ?_
    simp -implicitDefEqProofs only [↓zb,push_cast,simprocAttr,tte]
    refine zd [[0,0,0],[]] [] (yN (zN [] (zD e K)) (y7 (zD e K))) ?_
    simp -implicitDefEqProofs only [↓zb,push_cast,simprocAttr,tte]
    refine ⟨zh (by kernel_rfl),?_⟩
    refine zf [0,0,0,0,0,6] rfl (by simp) (by simp [zc]<;>omega) ?_ (by first | rfl | simp [ends] | (subst_vars;simp [ends])) (by simp [ends]) (by simp [ends])
    rw [<-hr];simp [zl]
   have a1:=hncst (.inr a2)
   rw [if_neg a1] at hr
   rw [if_neg (fun h=>n22 h.1),if_neg (fun h=>n23 h.1)] at hr
   by_cases hz:K=[]
   ·rw [if_pos hz] at hr
    have hz2:(K.length:Int)=0:=by rw [hz];rfl
    have w1:((K.length:Int)==1)=false:=by rw [hz2];rfl
    have w3:((K.length:Int)==3)=false:=by rw [hz2];rfl
    try simp -implicitDefEqProofs only [w1,w3,↓zb,push_cast,simprocAttr,tte]
    refine zf [0,0,0,0,0,6] rfl (by simp) (by simp [zc]<;>omega) ?_ (by first | rfl | simp [ends] | (subst_vars;simp [ends])) (by simp [ends]) (by simp [ends])
    rw [<-hr];simp [zl,zE,zt,zz,zu,z1,zj]
   rw [if_neg hz] at hr
   have hz0:0<K.length:=Nat.pos_of_ne_zero fun h=>hz (List.length_eq_zero_iff.1 h)
   rw [if_neg (fun h=>n24 h.1)] at hr
   refine za (fun g0=>?_) fun g0=>?_
   ·skip
    have hl1:K.length=1:=by simp only [beq_iff_eq] at g0;omega
    refine ⟨by omega,?_⟩
    refine zd [[0,0,0,0,0,6]] [] (c_rknown (K.getD 0 default)) ?_
    simp -implicitDefEqProofs only [q22,q23,q24,q25,q26,↓zb,push_cast,simprocAttr,tte]
    refine za (fun g1=>?_) fun g1=>?_
    ·rw [if_pos ⟨e25,hl1,g1⟩] at hr
     refine ⟨by omega,?_⟩
     refine zf [0,0,0,0,0,6] rfl (by simp) (by simp [zc]<;>omega) ?_ (by first | rfl | simp [ends] | (subst_vars;simp [ends])) (by simp [ends]) (by simp [ends])
     rw [<-hr];simp [zl]
    rw [if_neg (fun h=>by rw [g1] at h;exact absurd h.2.2 (by decide)),if_neg (fun h=>n26 h.1)] at hr
    refine zf [0,0,0,0,0,6] rfl (by simp) (by simp [zc]<;>omega) ?_ (by first | rfl | simp [ends] | (subst_vars;simp [ends])) (by simp [ends]) (by simp [ends])
    rw [<-hr];simp [zl,zE,zt,zz,zu,z1,zj]
   have hl1: ¬K.length=1:=by simp only [beq_eq_false_iff_ne,ne_eq] at g0;omega
   rw [if_neg (fun h=>hl1 h.2.1),if_neg (fun h=>n26 h.1)] at hr
   refine zf [0,0,0,0,0,6] rfl (by simp) (by simp [zc]<;>omega) ?_ (by first | rfl | simp [ends] | (subst_vars;simp [ends])) (by simp [ends]) (by simp [ends])
   rw [<-hr];simp [zl,zE,zt,zz,zu,z1,zj]
  have a1:=hncst (.inl a0)
  rw [if_neg a1] at hr
  rw [if_neg (fun h=>n22 h.1),if_neg (fun h=>n23 h.1)] at hr
  by_cases hz:K=[]
  ·rw [if_pos hz] at hr
   have hz2:(K.length:Int)=0:=by rw [hz];rfl
   have w1:((K.length:Int)==1)=false:=by rw [hz2];rfl
   have w3:((K.length:Int)==3)=false:=by rw [hz2];rfl
   try simp -implicitDefEqProofs only [w1,w3,↓zb,push_cast,simprocAttr,tte]
   refine zf [0,0,0,0,0,6] rfl (by simp) (by simp [zc]<;>omega) ?_ (by first | rfl | simp [ends] | (subst_vars;simp [ends])) (by simp [ends]) (by simp [ends])
   rw [<-hr];simp [zl,zE,zt,zz,zu,z1,zj]
  rw [if_neg hz] at hr
  have hz0:0<K.length:=Nat.pos_of_ne_zero fun h=>hz (List.length_eq_zero_iff.1 h)
  rw [if_neg (fun h=>n24 h.1)] at hr
  refine za (fun g0=>?_) fun g0=>?_
  ·skip
   have hl1:K.length=1:=by simp only [beq_iff_eq] at g0;omega
   refine ⟨by omega,?_⟩
   refine zd [[0,0,0,0,0,6]] [] (c_rknown (K.getD 0 default)) ?_
   simp -implicitDefEqProofs only [q22,q23,q24,q25,q26,↓zb,push_cast,simprocAttr,tte]
   refine za (fun g1=>?_) fun g1=>?_
   ·rw [if_pos ⟨e25,hl1,g1⟩] at hr
    refine ⟨by omega,?_⟩
    refine zf [0,0,0,0,0,6] rfl (by simp) (by simp [zc]<;>omega) ?_ (by first | rfl | simp [ends] | (subst_vars;simp [ends])) (by simp [ends]) (by simp [ends])
    rw [<-hr];simp [zl]
   rw [if_neg (fun h=>by rw [g1] at h;exact absurd h.2.2 (by decide)),if_neg (fun h=>n26 h.1)] at hr
   refine zf [0,0,0,0,0,6] rfl (by simp) (by simp [zc]<;>omega) ?_ (by first | rfl | simp [ends] | (subst_vars;simp [ends])) (by simp [ends]) (by simp [ends])
   rw [<-hr];simp [zl,zE,zt,zz,zu,z1,zj]
  have hl1: ¬K.length=1:=by simp only [beq_eq_false_iff_ne,ne_eq] at g0;omega
  rw [if_neg (fun h=>hl1 h.2.1),if_neg (fun h=>n26 h.1)] at hr
  refine zf [0,0,0,0,0,6] rfl (by simp) (by simp [zc]<;>omega) ?_ (by first | rfl | simp [ends] | (subst_vars;simp [ends])) (by simp [ends]) (by simp [ends])
  rw [<-hr];simp [zl,zE,zt,zz,zu,z1,zj]
 ·skip
  have n22: ¬e.op=22:=by omega
  have q22:(e.op==22)=false:=beq_false_of_ne n22
  have n23: ¬e.op=23:=by omega
  have q23:(e.op==23)=false:=beq_false_of_ne n23
  have n24: ¬e.op=24:=by omega
  have q24:(e.op==24)=false:=beq_false_of_ne n24
  have n25: ¬e.op=25:=by omega
  have q25:(e.op==25)=false:=beq_false_of_ne n25
  have q26:(e.op==26)=true:=by rw [e26];rfl
  simp -implicitDefEqProofs only [vE,zE0,q22,q23,q24,q25,q26,↓zb,push_cast,simprocAttr,tte]
  refine za (fun a0=>?_) fun a0=>?_
  ·refine zd [[0,0,0,0,0,6]] [] (uL (zD e K)) ?_
   simp -implicitDefEqProofs only [q22,q23,q24,q25,q26,↓zb,push_cast,simprocAttr,tte]
   refine za (fun a2=>?_) fun a2=>?_
   ·have a1:=hcst a0 a2
    rw [if_pos a1] at hr
    refine zd [[0,0,0,0,0,6],[3]] [] (w8 [] (zD e K) oO) ?_
    simp -implicitDefEqProofs only [↓zb,push_cast,simprocAttr,tte]
    refine zd [[0,0,0,0,0,6]] [] (xV (zD e K) a2 (fun k hk=>List.all_eq_true.1 a1.2.1 k hk)) ?_
    simp -implicitDefEqProofs only [↓zb,push_cast,simprocAttr,tte]
    refine zd [[0,0,0],[]] [] (yN (zN [] (zD e K)) (y7 (zD e K))) ?_
    simp -implicitDefEqProofs only [↓zb,push_cast,simprocAttr,tte]
    refine ⟨zh (by kernel_rfl),?_⟩
    refine zf [0,0,0,0,0,6] rfl (by simp) (by simp [zc]<;>omega) ?_ (by first | rfl | simp [ends] | (subst_vars;simp [ends])) (by simp [ends]) (by simp [ends])
    rw [<-hr];simp [zl]
   have a1:=hncst (.inr a2)
   rw [if_neg a1] at hr
   rw [if_neg (fun h=>n22 h.1),if_neg (fun h=>n23 h.1)] at hr
   by_cases hz:K=[]
   ·rw [if_pos hz] at hr
    have hz2:(K.length:Int)=0:=by rw [hz];rfl
    have w1:((K.length:Int)==1)=false:=by rw [hz2];rfl
    have w3:((K.length:Int)==3)=false:=by rw [hz2];rfl
    try simp -implicitDefEqProofs only [w1,w3,↓zb,push_cast,simprocAttr,tte]
    refine zf [0,0,0,0,0,6] rfl (by simp) (by simp [zc]<;>omega) ?_ (by first | rfl | simp [ends] | (subst_vars;simp [ends])) (by simp [ends]) (by simp [ends])
    rw [<-hr];simp [zl,zE,zt,zz,zu,z1,zj]
   rw [if_neg hz] at hr
   have hz0:0<K.length:=Nat.pos_of_ne_zero fun h=>hz (List.length_eq_zero_iff.1 h)
   rw [if_neg (fun h=>n24 h.1),if_neg (fun h=>n25 h.1)] at hr
   refine za (fun g0=>?_) fun g0=>?_
   ·skip
    have hl1:K.length=3:=by simp only [beq_iff_eq] at g0;omega
    refine ⟨by omega,?_⟩
    refine za (fun g1=>?_) fun g1=>?_
    ·refine ⟨by omega,?_⟩
     refine za (fun g2=>?_) fun g2=>?_
     ·rw [if_pos ⟨e26,hl1,by simpa using g1,by simp only [beq_iff_eq] at g2;omega⟩] at hr
      refine ⟨by omega,?_⟩
      refine za (fun g3=>?_) fun g3=>?_
      ·rw [if_pos (by simpa using g3)] at hr
       refine ⟨by omega,?_⟩
       refine zf [0,0,0,0,0,6] rfl (by simp) (by simp [zc]<;>omega) ?_ (by first | rfl | simp [ends] | (subst_vars;simp [ends])) (by simp [ends]) (by simp [ends])
       rw [<-hr];simp [zl]
      rw [if_neg (by simpa using g3)] at hr
      refine ⟨by omega,?_⟩
      refine zf [0,0,0,0,0,6] rfl (by simp) (by simp [zc]<;>omega) ?_ (by first | rfl | simp [ends] | (subst_vars;simp [ends])) (by simp [ends]) (by simp [ends])
      rw [<-hr];simp [zl]
     rw [if_neg (fun h=>by rw [h.2.2.2] at g2;exact absurd g2 (by decide))] at hr
     refine zf [0,0,0,0,0,6] rfl (by simp) (by simp [zc]<;>omega) ?_ (by first | rfl | simp [ends] | (subst_vars;simp [ends])) (by simp [ends]) (by simp [ends])
     rw [<-hr];simp [zl,zE,zt,zz,zu,z1,zj]
    rw [if_neg (fun h=>by rw [h.2.2.1] at g1;exact absurd g1 (by decide))] at hr
    refine zf [0,0,0,0,0,6] rfl (by simp) (by simp [zc]<;>omega) ?_ (by first | rfl | simp [ends] | (subst_vars;simp [ends])) (by simp [ends]) (by simp [ends])
    rw [<-hr];simp [zl,zE,zt,zz,zu,z1,zj]
   have hl1: ¬K.length=3:=by simp only [beq_eq_false_iff_ne,ne_eq] at g0;omega
   rw [if_neg (fun h=>hl1 h.2.1)] at hr
   refine zf [0,0,0,0,0,6] rfl (by simp) (by simp [zc]<;>omega) ?_ (by first | rfl | simp [ends] | (subst_vars;simp [ends])) (by simp [ends]) (by simp [ends])
   rw [<-hr];simp [zl,zE,zt,zz,zu,z1,zj]
  have a1:=hncst (.inl a0)
  rw [if_neg a1] at hr
  rw [if_neg (fun h=>n22 h.1),if_neg (fun h=>n23 h.1)] at hr
  by_cases hz:K=[]
  ·rw [if_pos hz] at hr
   have hz2:(K.length:Int)=0:=by rw [hz];rfl
   have w1:((K.length:Int)==1)=false:=by rw [hz2];rfl
   have w3:((K.length:Int)==3)=false:=by rw [hz2];rfl
   try simp -implicitDefEqProofs only [w1,w3,↓zb,push_cast,simprocAttr,tte]
   refine zf [0,0,0,0,0,6] rfl (by simp) (by simp [zc]<;>omega) ?_ (by first | rfl | simp [ends] | (subst_vars;simp [ends])) (by simp [ends]) (by simp [ends])
   rw [<-hr];simp [zl,zE,zt,zz,zu,z1,zj]
  rw [if_neg hz] at hr
  have hz0:0<K.length:=Nat.pos_of_ne_zero fun h=>hz (List.length_eq_zero_iff.1 h)
  rw [if_neg (fun h=>n24 h.1),if_neg (fun h=>n25 h.1)] at hr
  refine za (fun g0=>?_) fun g0=>?_
  ·skip
   have hl1:K.length=3:=by simp only [beq_iff_eq] at g0;omega
   refine ⟨by omega,?_⟩
   refine za (fun g1=>?_) fun g1=>?_
   ·refine ⟨by omega,?_⟩
    refine za (fun g2=>?_) fun g2=>?_
    ·rw [if_pos ⟨e26,hl1,by simpa using g1,by simp only [beq_iff_eq] at g2;omega⟩] at hr
     refine ⟨by omega,?_⟩
     refine za (fun g3=>?_) fun g3=>?_
     ·rw [if_pos (by simpa using g3)] at hr
      refine ⟨by omega,?_⟩
      refine zf [0,0,0,0,0,6] rfl (by simp) (by simp [zc]<;>omega) ?_ (by first | rfl | simp [ends] | (subst_vars;simp [ends])) (by simp [ends]) (by simp [ends])
      rw [<-hr];simp [zl]
     rw [if_neg (by simpa using g3)] at hr
     refine ⟨by omega,?_⟩
     refine zf [0,0,0,0,0,6] rfl (by simp) (by simp [zc]<;>omega) ?_ (by first | rfl | simp [ends] | (subst_vars;simp [ends])) (by simp [ends]) (by simp [ends])
     rw [<-hr];simp [zl]
    rw [if_neg (fun h=>by rw [h.2.2.2] at g2;exact absurd g2 (by decide))] at hr
    refine zf [0,0,0,0,0,6] rfl (by simp) (by simp [zc]<;>omega) ?_ (by first | rfl | simp [ends] | (subst_vars;simp [ends])) (by simp [ends]) (by simp [ends])
    rw [<-hr];simp [zl,zE,zt,zz,zu,z1,zj]
   rw [if_neg (fun h=>by rw [h.2.2.1] at g1;exact absurd g1 (by decide))] at hr
   refine zf [0,0,0,0,0,6] rfl (by simp) (by simp [zc]<;>omega) ?_ (by first | rfl | simp [ends] | (subst_vars;simp [ends])) (by simp [ends]) (by simp [ends])
   rw [<-hr];simp [zl,zE,zt,zz,zu,z1,zj]
  have hl1: ¬K.length=3:=by simp only [beq_eq_false_iff_ne,ne_eq] at g0;omega
  rw [if_neg (fun h=>hl1 h.2.1)] at hr
  refine zf [0,0,0,0,0,6] rfl (by simp) (by simp [zc]<;>omega) ?_ (by first | rfl | simp [ends] | (subst_vars;simp [ends])) (by simp [ends]) (by simp [ends])
  rw [<-hr];simp [zl,zE,zt,zz,zu,z1,zj]
 ·obtain ⟨n22,n23,n24,n25,n26⟩:=eo
  have q22:(e.op==22)=false:=beq_false_of_ne n22
  have q23:(e.op==23)=false:=beq_false_of_ne n23
  have q24:(e.op==24)=false:=beq_false_of_ne n24
  have q25:(e.op==25)=false:=beq_false_of_ne n25
  have q26:(e.op==26)=false:=beq_false_of_ne n26
  simp -implicitDefEqProofs only [vE,zE0,q22,q23,q24,q25,q26,↓zb,push_cast,simprocAttr,tte]
  refine za (fun a0=>?_) fun a0=>?_
  ·refine zd [[0,0,0,0,0,6]] [] (uL (zD e K)) ?_
   simp -implicitDefEqProofs only [q22,q23,q24,q25,q26,↓zb,push_cast,simprocAttr,tte]
   refine za (fun a2=>?_) fun a2=>?_
   ·have a1:=hcst a0 a2
    rw [if_pos a1] at hr
    refine zd [[0,0,0,0,0,6],[3]] [] (w8 [] (zD e K) oO) ?_
    simp -implicitDefEqProofs only [↓zb,push_cast,simprocAttr,tte]
    refine zd [[0,0,0,0,0,6]] [] (xV (zD e K) a2 (fun k hk=>List.all_eq_true.1 a1.2.1 k hk)) ?_
    simp -implicitDefEqProofs only [↓zb,push_cast,simprocAttr,tte]
    refine zd [[0,0,0],[]] [] (yN (zN [] (zD e K)) (y7 (zD e K))) ?_
    simp -implicitDefEqProofs only [↓zb,push_cast,simprocAttr,tte]
    refine ⟨zh (by kernel_rfl),?_⟩
    refine zf [0,0,0,0,0,6] rfl (by simp) (by simp [zc]<;>omega) ?_ (by first | rfl | simp [ends] | (subst_vars;simp [ends])) (by simp [ends]) (by simp [ends])
    rw [<-hr];simp [zl]
   have a1:=hncst (.inr a2)
   rw [if_neg a1] at hr
   rw [if_neg (fun h=>n22 h.1),if_neg (fun h=>n23 h.1)] at hr
   by_cases hz:K=[]
   ·rw [if_pos hz] at hr
    have hz2:(K.length:Int)=0:=by rw [hz];rfl
    have w1:((K.length:Int)==1)=false:=by rw [hz2];rfl
    have w3:((K.length:Int)==3)=false:=by rw [hz2];rfl
    try simp -implicitDefEqProofs only [w1,w3,↓zb,push_cast,simprocAttr,tte]
    refine zf [0,0,0,0,0,6] rfl (by simp) (by simp [zc]<;>omega) ?_ (by first | rfl | simp [ends] | (subst_vars;simp [ends])) (by simp [ends]) (by simp [ends])
    rw [<-hr];simp [zl,zE,zt,zz,zu,z1,zj]
   rw [if_neg hz] at hr
   have hz0:0<K.length:=Nat.pos_of_ne_zero fun h=>hz (List.length_eq_zero_iff.1 h)
   rw [if_neg (fun h=>n24 h.1),if_neg (fun h=>n25 h.1),if_neg (fun h=>n26 h.1)] at hr
   refine zf [0,0,0,0,0,6] rfl (by simp) (by simp [zc]<;>omega) ?_ (by first | rfl | simp [ends] | (subst_vars;simp [ends])) (by simp [ends]) (by simp [ends])
   rw [<-hr];simp [zl,zE,zt,zz,zu,z1,zj]
  have a1:=hncst (.inl a0)
  rw [if_neg a1] at hr
  rw [if_neg (fun h=>n22 h.1),if_neg (fun h=>n23 h.1)] at hr
  by_cases hz:K=[]
  ·rw [if_pos hz] at hr
   have hz2:(K.length:Int)=0:=by rw [hz];rfl
   have w1:((K.length:Int)==1)=false:=by rw [hz2];rfl
   have w3:((K.length:Int)==3)=false:=by rw [hz2];rfl
   try simp -implicitDefEqProofs only [w1,w3,↓zb,push_cast,simprocAttr,tte]
   refine zf [0,0,0,0,0,6] rfl (by simp) (by simp [zc]<;>omega) ?_ (by first | rfl | simp [ends] | (subst_vars;simp [ends])) (by simp [ends]) (by simp [ends])
   rw [<-hr];simp [zl,zE,zt,zz,zu,z1,zj]
  rw [if_neg hz] at hr
  have hz0:0<K.length:=Nat.pos_of_ne_zero fun h=>hz (List.length_eq_zero_iff.1 h)
  rw [if_neg (fun h=>n24 h.1),if_neg (fun h=>n25 h.1),if_neg (fun h=>n26 h.1)] at hr
  refine zf [0,0,0,0,0,6] rfl (by simp) (by simp [zc]<;>omega) ?_ (by first | rfl | simp [ends] | (subst_vars;simp [ends])) (by simp [ends]) (by simp [ends])
  rw [<-hr];simp [zl,zE,zt,zz,zu,z1,zj]
end
end Go.Proofs.YtiagabnddihchaaGreatDoor
