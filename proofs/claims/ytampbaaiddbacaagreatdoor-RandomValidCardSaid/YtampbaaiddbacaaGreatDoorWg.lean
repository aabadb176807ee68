/- What random makes of a tape is valid, of its types, and not too large: a proof over an abstract machine of our own (part Wg) -/
import Derived.Test.YtampbaaiddbacaaGreatDoorW0
set_option maxRecDepth 100000
set_option maxHeartbeats 4000000
set_option linter.all false
namespace Go.Proofs.YtampbaaiddbacaaGreatDoor
section
open Go.Am
def Tape (xs:List Int):Prop:=xs.length<=400/\ ∀x∈xs,i64 x
def zG (xs:List Int) (p:Nat):Ob:= .var [.d (.sl 1 (ze rI xs)),.d (.lit (.int .i64 (min p xs.length:Nat)))]
def drawn (xs:List Int) (p:Nat) (n:Int):Int:=xs.getD p 0 % n
theorem tmod_fix (a n:Int) (hn:0<n):(if a.tmod n<0 then a.tmod n+n else a.tmod n)=a % n:=by
 have h1:=Int.emod_nonneg a (show n≠0 by omega)
 have h2:=Int.emod_lt_of_pos a hn
 have h3:=Int.tmod_eq_emod (a:=a) (b:=n)
 by_cases h:0<=a\/n ∣ a
 ·rw [if_pos h] at h3
  rw [if_neg (by omega)];omega
 ·rw [if_neg h] at h3
  have h4:a % n≠0:=fun h5=>h (.inr (Int.dvd_of_emod_eq_zero h5))
  rw [if_pos (by omega)];omega
theorem c13 {xs:List Int} {n:Int} {p:Nat} (hx:Tape xs) (hn:0<n) (hn2:n<=1000000):ACall Tryz.prog 36 [.ptr 1000 0,.d (.lit (.int .i64 n))] [(1000,zG xs p)] (num (drawn xs p n)) [(1000,zG xs (p+1))]:=by
 refine zp mixed ttok Tryz.func36 Tryz.ntmps36 Tryz.results36 ?_
 simp -implicitDefEqProofs only [zG,argT,rI,↓zb,push_cast,simprocAttr,tte]
 obtain ⟨hx1,hx2⟩:=hx
 have hd:(default:Int)=0:=rfl
 by_cases hp:p<xs.length
 ·have hm:min p xs.length=p:=by omega
  have hm2:min (p+1) xs.length=p+1:=by omega
  have hfix:=tmod_fix (xs.getD p 0) n hn
  have hb1:=Int.emod_nonneg (xs.getD p 0) (show n≠0 by omega)
  have hb2:=Int.emod_lt_of_pos (xs.getD p 0) hn
  rw [hm,hm2,hd,zJ (n:=(p:Int)+1) (by omega) (by omega)]
  refine ⟨zg (by kernel_rfl),za (fun h=>?_) (fun h=>⟨⟨by omega,by omega⟩,by omega,zg (by kernel_rfl),za (fun h'=>?_) fun h'=>?_⟩)⟩
  ·simp at h;omega
  ·simp only [decide_eq_true_eq] at h'
   rw [if_pos h'] at hfix
   refine zr [0] rfl trivial trivial ?_ rfl ?_ ?_
   ·rw [hfix,zJ (by omega) (by omega)];rfl
   ·simp only [ends,ite_true,ite_false,reduceIte,Nat.reduceEqDiff,Nat.reduceLeDiff,Nat.reduceLT,Nat.reduceAdd,reduceCtorEq]<;>rfl
   ·simp only [ends,ite_true,ite_false,reduceIte,Nat.reduceEqDiff,Nat.reduceLeDiff,Nat.reduceLT,Nat.reduceAdd,reduceCtorEq]
  ·simp only [decide_eq_false_iff_not] at h'
   rw [if_neg h'] at hfix
   refine zr [0] rfl trivial trivial ?_ rfl ?_ ?_
   ·rw [hfix];rfl
   ·simp only [ends,ite_true,ite_false,reduceIte,Nat.reduceEqDiff,Nat.reduceLeDiff,Nat.reduceLT,Nat.reduceAdd,reduceCtorEq]<;>rfl
   ·simp only [ends,ite_true,ite_false,reduceIte,Nat.reduceEqDiff,Nat.reduceLeDiff,Nat.reduceLT,Nat.reduceAdd,reduceCtorEq]
 ·have hm:min p xs.length=xs.length:=by omega
  have hm2:min (p+1) xs.length=xs.length:=by omega
  rw [hm,hm2]
  refine ⟨zg (by kernel_rfl),za (fun h=>?_) (fun h=>?_)⟩
  ·refine zr [0] rfl trivial trivial ?_ rfl ?_ ?_
   ·simp [num,drawn,List.getD_eq_getElem?_getD,List.getElem?_eq_none (show xs.length<=p by omega)]
   ·simp only [ends,ite_true,ite_false,reduceIte,Nat.reduceEqDiff,Nat.reduceLeDiff,Nat.reduceLT,Nat.reduceAdd,reduceCtorEq]
   ·simp only [ends,ite_true,ite_false,reduceIte,Nat.reduceEqDiff,Nat.reduceLeDiff,Nat.reduceLT,Nat.reduceAdd,reduceCtorEq]
  ·simp at h
end
section
open Go.Am
attribute [local simp, local push_cast] num boo ints zG aV
theorem c10 {xs:List Int}:ACall Tryz.prog 34 [ints xs] [] (.ptr 9 0) [(9,zG (xs.take 400) 0)]:=by
 refine zp mixed ttok Tryz.func34 Tryz.ntmps34 Tryz.results34 ?_
 simp -implicitDefEqProofs only [ints,zG,argT,rI,↓zb,push_cast,simprocAttr,tte]
 have h:(if 400<(xs.length:Int) then (400:Int) else xs.length)=(min 400 xs.length:Nat):=by split<;>omega
 have h2:xs.take (min 400 xs.length)=xs.take 400:=by
  rw [List.take_eq_take_iff];omega
 rw [h]
 refine ⟨by omega,zr [0] rfl trivial trivial rfl rfl ?_ ?_⟩
 ·simp only [Int.toNat_natCast,h2,ends,ite_true,ite_false,reduceIte,Nat.reduceEqDiff,Nat.reduceLeDiff,Nat.reduceLT,Nat.reduceAdd,reduceCtorEq,num,boo,ints,zG,aV,Nat.zero_min]<;>simp
 ·simp only [ends,ite_true,ite_false,reduceIte,Nat.reduceEqDiff,Nat.reduceLeDiff,Nat.reduceLT,Nat.reduceAdd,reduceCtorEq,num,boo,ints,zG,aV]
theorem c9 (t:Int):ACall Tryz.prog 50 [num t] [] (boo (t==1 || t==2 || t==3)) []:=by
 refine zp mixed ttok Tryz.func50 Tryz.ntmps50 Tryz.results50 ?_
 simp -implicitDefEqProofs only [num,boo,argT,rV,↓zb,push_cast,simprocAttr,tte]
 refine za (fun h=>?_) (fun h=>za (fun h2=>?_) (fun h2=>?_))<;>
 ·refine zr [0] rfl trivial trivial ?_ rfl trivial trivial
  simp [*]
def jT (v:Val) (t:Int):Ex:=
 if v.kind=1 then .mk 2 0 v.num ByteArray.empty 0 [] else if v.kind=2 then .mk 3 0 v.num ByteArray.empty 0 [] else if v.kind=3 then .mk 4 0 0 v.text 0 [] else .mk 1 t 0 ByteArray.empty 0 []
theorem c17 (v:Val) (t:Int):ACall Tryz.prog 147 [aV v,num t] [] (aE (jT v t)) []:=by
 refine zp mixed ttok Tryz.func147 Tryz.ntmps147 Tryz.results147 ?_
 simp -implicitDefEqProofs only [argT,rV,↓zb,push_cast,simprocAttr,tte]
 refine za (fun h=>?_) (fun h=>za (fun h2=>?_) (fun h2=>za (fun h3=>?_) (fun h3=>?_)))
 all_goals refine zr [0,0,0,0,0,6] rfl trivial (by simp) ?_ (by simp [ends]) trivial (by simp [ends])
 all_goals
  simp only [beq_iff_eq,beq_eq_false_iff_ne] at *
  simp [jT, *,yb,Ex.op,Ex.type,Ex.num,Ex.text,Ex.col,Ex.kids,ze]
def texts:List ByteArray:=[⟨#[]⟩,⟨#[97]⟩,⟨#[98]⟩,⟨#[97,98]⟩]
def valM (xs:List Int) (typ:Int) (p:Nat):Val×Nat:=
 if typ=1 then (⟨1,drawn xs p 7-2,ByteArray.empty⟩,p+1) else if typ=2 then (⟨2,drawn xs p 2,ByteArray.empty⟩,p+1)
 else (⟨3,0,texts.getD (drawn xs p 4).toNat ByteArray.empty⟩,p+1)
def yx (xs:List Int) (typ:Int) (nl:Bool) (p:Nat):Val×Nat:=
 if nl=true then if drawn xs p 4=3 then (⟨0,0,ByteArray.empty⟩,p+1) else valM xs typ (p+1) else valM xs typ p
theorem zv (xs:List Int) (p:Nat) {n:Int} (hn:0<n):0<=drawn xs p n/\drawn xs p n<n:=
 ⟨Int.emod_nonneg _ (by omega),Int.emod_lt_of_pos _ hn⟩
theorem c18 {xs:List Int} {typ:Int} {nl:Bool} {p:Nat} (hx:Tape xs):ACall Tryz.prog 38 [.ptr 1000 0,num typ,boo nl] [(1000,zG xs p)] (aV (yx xs typ nl p).1) [(1000,zG xs (yx xs typ nl p).2)]:=by
 refine zp mixed ttok Tryz.func38 Tryz.ntmps38 Tryz.results38 ?_
 have h7:=fun p=>zv xs p (n:=7) (by omega)
 have h4:=fun p=>zv xs p (n:=4) (by omega)
 have h2:=fun p=>zv xs p (n:=2) (by omega)
 cases nl
 ·simp -implicitDefEqProofs only [argT,rI,↓zb,push_cast,simprocAttr,tte]
  refine za (fun h=>?_) (fun h=>za (fun h'=>?_) (fun h'=>?_))
  ·refine zd [[],[]] [(1000,1000)] (c13 (n:=7) (p:=p) hx (by omega) (by omega)) ?_
   simp -implicitDefEqProofs only [↓zb,push_cast,simprocAttr,tte]
   have hw:IntKind.i64.wrap (drawn xs (p) 7-2)=drawn xs (p) 7-2:=zJ (by have:=h7 (p);omega) (by have:=h7 (p);omega)
   refine zr [0,0,0] rfl (by simp) (by simp) ?_ (by first | simp [ends] | (subst_vars;simp [ends])) ?_ (by simp [ends])<;>simp_all [yx,valM,aV,keepO,lookO,updO,A.closed,Ob.closed,closedL]
  ·refine zd [[],[]] [(1000,1000)] (c13 (n:=2) (p:=p) hx (by omega) (by omega)) ?_
   simp -implicitDefEqProofs only [↓zb,push_cast,simprocAttr,tte]
   refine zr [0,0,0] rfl (by simp) (by simp) ?_ (by first | simp [ends] | (subst_vars;simp [ends])) ?_ (by simp [ends])<;>simp_all [yx,valM,aV,keepO,lookO,updO,A.closed,Ob.closed,closedL]
  ·refine zd [[],[]] [(1000,1000)] (c13 (n:=4) (p:=p) hx (by omega) (by omega)) ?_
   simp -implicitDefEqProofs only [↓zb,push_cast,simprocAttr,tte]
   refine ⟨by have:=h4 (p);omega,?_⟩
   refine zr [0,0,0] rfl (by simp) (by simp) ?_ (by first | simp [ends] | (subst_vars;simp [ends])) ?_ (by simp [ends])<;>simp_all [yx,valM,aV,texts,keepO,lookO,updO,A.closed,Ob.closed,closedL]
 ·simp -implicitDefEqProofs only [argT,rI,↓zb,push_cast,simprocAttr,tte]
  refine zd [[],[]] [(1000,1000)] (c13 (n:=4) (p:=p) hx (by omega) (by omega)) ?_
  simp -implicitDefEqProofs only [↓zb,push_cast,simprocAttr,tte]
  refine za (fun h0=>?_) (fun h0=>za (fun h=>?_) (fun h=>za (fun h'=>?_) (fun h'=>?_)))
  ·refine zr [0,0,0] rfl (by simp) (by simp) ?_ (by first | simp [ends] | (subst_vars;simp [ends])) ?_ (by simp [ends])<;>simp_all [yx,valM,aV,keepO,lookO,updO,A.closed,Ob.closed,closedL]
  ·refine zd [[],[]] [(1000,1000)] (c13 (n:=7) (p:=p+1) hx (by omega) (by omega)) ?_
   simp -implicitDefEqProofs only [↓zb,push_cast,simprocAttr,tte]
   have hw:IntKind.i64.wrap (drawn xs (p+1) 7-2)=drawn xs (p+1) 7-2:=zJ (by have:=h7 (p+1);omega) (by have:=h7 (p+1);omega)
   refine zr [0,0,0] rfl (by simp) (by simp) ?_ (by first | simp [ends] | (subst_vars;simp [ends])) ?_ (by simp [ends])<;>simp_all [yx,valM,aV,keepO,lookO,updO,A.closed,Ob.closed,closedL]
  ·refine zd [[],[]] [(1000,1000)] (c13 (n:=2) (p:=p+1) hx (by omega) (by omega)) ?_
   simp -implicitDefEqProofs only [↓zb,push_cast,simprocAttr,tte]
   refine zr [0,0,0] rfl (by simp) (by simp) ?_ (by first | simp [ends] | (subst_vars;simp [ends])) ?_ (by simp [ends])<;>simp_all [yx,valM,aV,keepO,lookO,updO,A.closed,Ob.closed,closedL]
  ·refine zd [[],[]] [(1000,1000)] (c13 (n:=4) (p:=p+1) hx (by omega) (by omega)) ?_
   simp -implicitDefEqProofs only [↓zb,push_cast,simprocAttr,tte]
   refine ⟨by have:=h4 (p+1);omega,?_⟩
   refine zr [0,0,0] rfl (by simp) (by simp) ?_ (by first | simp [ends] | (subst_vars;simp [ends])) ?_ (by simp [ends])<;>simp_all [yx,valM,aV,texts,keepO,lookO,updO,A.closed,Ob.closed,closedL]
end
section
open Go.Am
attribute [local simp, local push_cast] num boo ints zG aV
def aX (types:List Int):A:= .agg [.ptr 1000 0,.d (.sl 1 (ze rI types))]
attribute [local simp, local push_cast] aX
def uR (types:List Int) (typ:Int) (n:Nat):List Int:=((List.range n).filter fun c=>types.getD c 0=typ).map fun (c:Nat)=>(c:Int)
def cols (types:List Int) (typ:Int):List Int:=uR types typ types.length
def w9 (xs types:List Int) (typ:Int) (p:Nat):Ex×Nat:=
 if cols types typ≠[] then
  if drawn xs p 3≠0 then (.mk 5 0 0 ByteArray.empty ((cols types typ).getD (drawn xs (p+1) (cols types typ).length).toNat 0) [],p+2)
  else (jT (yx xs typ true (p+1)).1 typ,(yx xs typ true (p+1)).2)
 else (jT (yx xs typ true p).1 typ,(yx xs typ true p).2)
theorem colsU_succ (types:List Int) (typ:Int) (n:Nat):uR types typ (n+1)=if types.getD n 0=typ then uR types typ n++[(n:Int)] else uR types typ n:=by
 simp only [uR,List.range_succ,List.filter_append,List.map_append]
 split<;>rename_i h
 ·rw [List.filter_cons_of_pos (by simpa using h)];simp
 ·rw [List.filter_cons_of_neg (by simpa using h)];simp
theorem colsU_length (types:List Int) (typ:Int) (n:Nat):(uR types typ n).length<=n:=by
 induction n with
 | zero=>simp [uR]
 | succ n ih=>rw [colsU_succ];split<;>(try simp only [List.length_append,List.length_cons,List.length_nil])<;>omega
def I14 (xs types:List Int) (typ:Int) (p n:Nat):SL:=
 ⟨[(11,.d (.lit (.int .i64 n))),(10,.d (.lit (.int .i64 types.length))),(9,.d (.sl 1 (ze rI types))),(5,.vec 500 (uR types typ n).length),(4,.ptr 4 0),(2,.ptr 2 0),(1,.d (.lit (.int .i64 typ)))],
  [(500,.vec 3 1 (ze rI (uR types typ n)) 0),(4,.var [.d (.lit (.int .i64 0)),.d (.lit (.int .i64 0)),.d (.lit (.int .i64 0)),.d (.lit (.string ByteArray.empty)),.d (.lit (.int .i64 0)),.snil]),
   (2,.var [.ptr 1000 0,.d (.sl 1 (ze rI types))]),(1000,zG xs p)]⟩
theorem c14 {xs types:List Int} {typ:Int} {p:Nat} (hx:Tape xs) (ht:types.length<=1000):ACall Tryz.prog 101 [aX types,num typ] [(1000,zG xs p)] (aE (w9 xs types typ p).1) [(1000,zG xs (w9 xs types typ p).2)]:=by
 refine zp mixed ttok Tryz.func101 Tryz.ntmps101 Tryz.results101 ?_
 generalize hr:aE (w9 xs types typ p).1=R
 generalize hr2:zG xs (w9 xs types typ p).2=R2
 simp -implicitDefEqProofs only [argT,rI,↓zb,push_cast,simprocAttr,tte]
 have h3:=fun p=>zv xs p (n:=3) (by omega)
 refine xk mixed ttok (fun n:{n:Nat // n<=types.length}=>I14 xs types typ p n.1) (fun n=>types.length-n.1) ⟨0,Nat.zero_le _⟩ ?_ fun ⟨n,hn⟩=>?_
 ·exact (Weak.nilL 5 500 3 1 rfl rfl).trans (Weak.keepL (by simp [I14,uR,keepT,lookT,A.closed,inO,lookO,zG]) (by simp [I14,uR,keepO,A.closed,inO,lookO,zG,Ob.closed,closedL,ze]) (by simp [I14,ends]))
 ·have hl:=colsU_length types typ n
  have hs:=colsU_succ types typ n
  have hw:n<types.length->IntKind.i64.wrap ((n:Int)+1)=(n:Int)+1:=fun h=>zJ (by omega) (by omega)
  simp -implicitDefEqProofs only [I14,rI,↓zb,push_cast,simprocAttr,tte]
  refine za (fun h=>?_) fun h=>?_
  ·have h':n<types.length:=by simpa using h
   have hw:=hw h'
   refine ⟨⟨by omega,by omega⟩,za (fun h2=>⟨by omega,xK ⟨n+1,h'⟩ (by show types.length-(n+1)<types.length-n;omega) ?_ ?_ ?_⟩) fun h2=>xK ⟨n+1,h'⟩ (by show types.length-(n+1)<types.length-n;omega) ?_ ?_ ?_⟩
   all_goals have hd:(default:Int)=0:=rfl
   all_goals rw [hd] at h2
   all_goals simp only [beq_iff_eq,beq_eq_false_iff_ne,ne_eq] at h2
   all_goals simp only [h2,if_true,if_false] at hs
   all_goals simp [ends,hs,hw,<-zf]
   all_goals rfl
  ·have hn':n=types.length:=by simp at h;omega
   subst hn'
   rw [show uR types typ types.length=cols types typ from rfl] at hl ⊢
   generalize hl0:cols types typ=l at hl ⊢
   refine za (fun h5=>?_) (fun h5=>?_)
   ·have h6:l≠[]:=by intro h7;simp [h7] at h5
    have h6':0<l.length:=List.length_pos_iff.2 h6
    refine zd [[],[]] [(1000,1000)] (c13 (n:=3) (p:=p) hx (by omega) (by omega)) ?_
    simp -implicitDefEqProofs only [↓zb,push_cast,simprocAttr,tte]
    refine za (fun h8=>?_) (fun h8=>?_)
    ·refine zd [[],[]] [(1000,1000)] (c13 (n:=l.length) (p:=p+1) hx (by omega) (by omega)) ?_
     simp -implicitDefEqProofs only [↓zb,push_cast,simprocAttr,tte]
     have h9:=zv xs (p+1) (n:=(l.length:Int)) (by omega)
     refine ⟨h9,by omega,?_⟩
     refine zr [0,0,0,0,0,6] rfl (by simp) (by simp) ?_ (by first | simp [ends] | (subst_vars;simp [ends])) ?_ (by simp [ends])
     ·rw [<-hr];simp_all [w9,yb,Ex.op,Ex.type,Ex.num,Ex.text,Ex.col,Ex.kids,ze]
     ·rw [<-hr2];simp_all [w9,ends,ite_true,ite_false,reduceIte,Nat.reduceEqDiff,Nat.reduceLeDiff,Nat.reduceLT,Nat.reduceAdd,reduceCtorEq,num,boo,ints,zG,aV,aX]
    ·refine zd [[],[],[]] [(1000,1000)] (c18 (typ:=typ) (nl:=true) (p:=p+1) hx) ?_
     simp -implicitDefEqProofs only [↓zb,push_cast,simprocAttr,tte]
     refine zd [[],[]] [] (c17 (yx xs typ true (p+1)).1 typ) ?_
     simp -implicitDefEqProofs only [↓zb,push_cast,simprocAttr,tte]
     refine zr [0,0,0,0,0,6] rfl (by simp) (by simp) ?_ (by first | simp [ends] | (subst_vars;simp [ends])) ?_ (by simp [ends])
     ·rw [<-hr];simp_all [w9,yb]
     ·rw [<-hr2];simp_all [w9,ends,ite_true,ite_false,reduceIte,Nat.reduceEqDiff,Nat.reduceLeDiff,Nat.reduceLT,Nat.reduceAdd,reduceCtorEq,num,boo,ints,zG,aV,aX]
   ·refine zd [[],[],[]] [(1000,1000)] (c18 (typ:=typ) (nl:=true) (p:=p) hx) ?_
    simp -implicitDefEqProofs only [↓zb,push_cast,simprocAttr,tte]
    refine zd [[],[]] [] (c17 (yx xs typ true p).1 typ) ?_
    simp -implicitDefEqProofs only [↓zb,push_cast,simprocAttr,tte]
    refine zr [0,0,0,0,0,6] rfl (by simp) (by simp) ?_ (by first | simp [ends] | (subst_vars;simp [ends])) ?_ (by simp [ends])
    ·rw [<-hr];simp_all [w9,yb]
    ·rw [<-hr2];simp_all [w9,ends,ite_true,ite_false,reduceIte,Nat.reduceEqDiff,Nat.reduceLeDiff,Nat.reduceLT,Nat.reduceAdd,reduceCtorEq,num,boo,ints,zG,aV,aX]
end
section
open Go.Am
attribute [local simp, local push_cast] num boo ints zG aV aX
def sevM (f:Int->Nat->Ex×Nat):List Int->Nat->List Ex×Nat
 | [],p=>([],p)
 | t::l,p=>((f t p).1::(sevM f l (f t p).2).1,(sevM f l (f t p).2).2)
theorem sevM_snoc (f:Int->Nat->Ex×Nat) (t:Int): ∀(l:List Int) (p:Nat),sevM f (l++[t]) p=((sevM f l p).1++[(f t (sevM f l p).2).1],(f t (sevM f l p).2).2)
 | [],p=>by simp [sevM]
 | a::l,p=>by simp [sevM,sevM_snoc f t l]
theorem ul (f:Int->Nat->Ex×Nat): ∀(l:List Int) (p:Nat),(sevM f l p).1.length=l.length
 | [],p=>rfl
 | a::l,p=>by simp [sevM,ul f l]
def C11 (xs types:List Int) (deep:Int) (f:Int->Nat->Ex×Nat):Prop:=
 ∀(typ:Int) (p:Nat),ACall Tryz.prog 51 [aX types,num typ,num deep] [(1000,zG xs p)] (aE (f typ p).1) [(1000,zG xs (f typ p).2)]
def I15 (xs types:List Int) (deep:Int) (f:Int->Nat->Ex×Nat) (op:Int) (ts:List Int) (p n:Nat):SL:=
 ⟨[(16,.d (.lit (.int .i64 n))),(15,.d (.lit (.int .i64 ts.length))),(14,.d (.sl 1 (ze rI ts))),(9,.ptr 9 0),(8,.ptr 8 0),(4,.ptr 4 0),(2,.d (.lit (.int .i64 deep)))],
  [(500,.vec 52 6 (ze rE (sevM f (ts.take n) p).1) 0),
   (9,.var [.d (.lit (.int .i64 op)),.d (.lit (.int .i64 0)),.d (.lit (.int .i64 0)),.d (.lit (.string ByteArray.empty)),.d (.lit (.int .i64 0)),.vec 500 n]),
   (8,.var [.d (.lit (.int .i64 0)),.d (.lit (.int .i64 0)),.d (.lit (.int .i64 0)),.d (.lit (.string ByteArray.empty)),.d (.lit (.int .i64 0)),.snil]),
   (4,.var [.ptr 1000 0,.d (.sl 1 (ze rI types))]),(1000,zG xs (sevM f (ts.take n) p).2)]⟩
theorem c15 {xs types:List Int} {deep:Int} {f:Int->Nat->Ex×Nat} (H:C11 xs types (deep-1) f) (hx:Tape xs) (hd:0<deep) (hd2:deep<=10) (op:Int) (ts:List Int) (hts:ts.length<=10) (p:Nat):
 ACall Tryz.prog 102 [aX types,num op,num deep,ints ts] [(1000,zG xs p)] (aE (.mk op 0 0 ByteArray.empty 0 (sevM f ts p).1)) [(1000,zG xs (sevM f ts p).2)]:=by
 refine zp mixed ttok Tryz.func102 Tryz.ntmps102 Tryz.results102 ?_
 generalize hr:aE (.mk op 0 0 ByteArray.empty 0 (sevM f ts p).1)=R
 generalize hr2:zG xs (sevM f ts p).2=R2
 simp -implicitDefEqProofs only [argT,↓zb,push_cast,simprocAttr,tte]
 refine xk mixed ttok (fun n:{n:Nat // n<=ts.length}=>I15 xs types deep f op ts p n.1) (fun n=>ts.length-n.1) ⟨0,Nat.zero_le _⟩ ?_ fun ⟨n,hn⟩=>?_
 ·exact (Weak.nilCellL 9 5 500 52 6 rfl rfl rfl).trans (Weak.keepL (by simp [I15,sevM,ends]) (by simp [I15,sevM,ze,ends]) (by simp [I15,ends]))
 ·have hw:n<ts.length->IntKind.i64.wrap ((n:Int)+1)=(n:Int)+1:=fun h=>zJ (by omega) (by omega)
  have hl:(sevM f (ts.take n) p).1.length=n:=by rw [ul];simp;omega
  have hwd:IntKind.i64.wrap (deep-1)=deep-1:=zJ (by omega) (by omega)
  have hdf:(default:Int)=0:=rfl
  generalize hI:(fun n:{n:Nat // n<=ts.length}=>I15 xs types deep f op ts p n.1)=I
  simp -implicitDefEqProofs only [I15,↓zb,push_cast,simprocAttr,tte,hwd]
  refine za (fun h=>?_) fun h=>?_
  ·have h':n<ts.length:=by simpa using h
   have hw:=hw h'
   have hsn:sevM f (ts.take (n+1)) p=((sevM f (ts.take n) p).1++[(f (ts.getD n default) (sevM f (ts.take n) p).2).1],(f (ts.getD n default) (sevM f (ts.take n) p).2).2):=by
    rw [<-sevM_snoc,List.take_succ_eq_append_getElem h']
    simp [List.getD_eq_getElem?_getD,h']
   refine ⟨⟨by omega,by omega⟩,?_⟩
   refine zd [[],[],[]] [(1000,1000)] (H (ts.getD n default) (sevM f (ts.take n) p).2) ?_
   simp -implicitDefEqProofs only [↓zb,push_cast,simprocAttr,tte]
   refine ⟨⟨by omega,by omega⟩,zg (by kernel_rfl),?_⟩
   refine xK (⟨n+1,h'⟩:{n:Nat // n<=ts.length}) (by show ts.length-(n+1)<ts.length-n;omega) ?_ ?_ ?_<;>subst hI
   ·simp [I15,ends,hw,hl]
   ·simp [I15,ends,hsn,hl]
   ·simp [I15,ends]
  ·have hn':n=ts.length:=by simp at h;omega
   subst hn'
   have ht:ts.take ts.length=ts:=by simp
   rw [ht] at hl ⊢
   refine zr [0,0,0,0,0,6] rfl trivial (by simp [zc,hl]) ?_ (by subst hr;simp [ends]) ?_ (by simp [ends])
   ·rw [<-hr];simp [yb,Ex.op,Ex.type,Ex.num,Ex.text,Ex.col,Ex.kids]
   ·rw [<-hr2];simp [ends]
end
section
open Go.Am
attribute [local simp, local push_cast] num boo ints zG aV aX
def mkM (f:Int->Nat->Ex×Nat) (op:Int) (ts:List Int) (p:Nat):Ex×Nat:=(.mk op 0 0 ByteArray.empty 0 (sevM f ts p).1,(sevM f ts p).2)
def xD (xs:List Int) (f:Int->Nat->Ex×Nat) (p:Nat):Ex×Nat:=
 let n:=drawn xs p 13
 let u:=1+drawn xs (p+1) 3
 if n<=6 then mkM f (14+n) [u,u] (p+2)
 else if n=7 then mkM f 21 [u] (p+2)
 else if n<=9 then mkM f (22+n-8) [2,2] (p+1)
 else if n<=11 then mkM f (24+n-10) [2] (p+1)
 else if drawn xs (p+1) 3=0 then mkM f 26 [2,2,2] (p+2)
 else if drawn xs (p+1) 3=1 then mkM f 27 [2,2] (p+2)
 else
  let v:=1+drawn xs (p+2) 3
  mkM f 28 [v,v,v] (p+3)
theorem c16 {xs types:List Int} {deep:Int} {f:Int->Nat->Ex×Nat} (H:C11 xs types (deep-1) f) (hx:Tape xs) (hd:0<deep) (hd2:deep<=10) (p:Nat):
 ACall Tryz.prog 103 [aX types,num deep] [(1000,zG xs p)] (aE (xD xs f p).1) [(1000,zG xs (xD xs f p).2)]:=by
 refine zp mixed ttok Tryz.func103 Tryz.ntmps103 Tryz.results103 ?_
 generalize hr:aE (xD xs f p).1=R
 generalize hr2:zG xs (xD xs f p).2=R2
 have h3:=fun p=>zv xs p (n:=3) (by omega)
 have h13:=fun p=>zv xs p (n:=13) (by omega)
 simp -implicitDefEqProofs only [argT,↓zb,push_cast,simprocAttr,tte]
 refine zd [[],[]] [(1000,1000)] (c13 (n:=13) (p:=p) hx (by omega) (by omega)) ?_
 simp -implicitDefEqProofs only [↓zb,push_cast,simprocAttr,tte]
 have w3: ∀q,IntKind.i64.wrap (1+drawn xs q 3)=1+drawn xs q 3:=fun q=>zJ (by have:=h3 q;omega) (by have:=h3 q;omega)
 have w14:IntKind.i64.wrap (14+drawn xs p 13)=14+drawn xs p 13:=zJ (by have:=h13 p;omega) (by have:=h13 p;omega)
 have w22:IntKind.i64.wrap (22+drawn xs p 13)=22+drawn xs p 13:=zJ (by have:=h13 p;omega) (by have:=h13 p;omega)
 have w24:IntKind.i64.wrap (24+drawn xs p 13)=24+drawn xs p 13:=zJ (by have:=h13 p;omega) (by have:=h13 p;omega)
 have w22':IntKind.i64.wrap (22+drawn xs p 13-8)=22+drawn xs p 13-8:=zJ (by have:=h13 p;omega) (by have:=h13 p;omega)
 have w24':IntKind.i64.wrap (24+drawn xs p 13-10)=24+drawn xs p 13-10:=zJ (by have:=h13 p;omega) (by have:=h13 p;omega)
 refine za (fun h=>?_) fun h=>za (fun ha=>?_) fun ha=>za (fun hb=>?_) fun hb=>za (fun hc=>?_) fun hc=>?_
 ·simp only [decide_eq_true_eq] at h
  have hM:xD xs f p=mkM f (14+drawn xs p 13) [1+drawn xs (p+1) 3,1+drawn xs (p+1) 3] (p+2):=by simp only [xD];rw [if_pos h]
  refine zd [[],[]] [(1000,1000)] (c13 (n:=3) (p:=p+1) hx (by omega) (by omega)) ?_
  simp -implicitDefEqProofs only [↓zb,push_cast,simprocAttr,tte]
  simp only [w3,w14]
  refine zd [[],[],[],[]] [(1000,1000)] (c15 H hx hd hd2 (14+drawn xs p 13) [(1+drawn xs (p+1) 3),(1+drawn xs (p+1) 3)] (by simp) (p+2)) ?_
  simp -implicitDefEqProofs only [↓zb,push_cast,simprocAttr,tte]
  refine zr [0,0,0,0,0,6] rfl (by simp) (by simp) ?_ (by first | simp [ends] | (subst_vars;simp [ends])) ?_ (by simp [ends])
  ·rw [<-hr];rw [hM];simp [mkM,yb,Ex.op,Ex.type,Ex.num,Ex.text,Ex.col,Ex.kids]
  ·rw [<-hr2,hM];simp [mkM,ends]
 ·simp only [decide_eq_false_iff_not,beq_iff_eq] at h ha
  have hM:xD xs f p=mkM f 21 [1+drawn xs (p+1) 3] (p+2):=by simp only [xD];rw [if_neg h,if_pos ha]
  refine zd [[],[]] [(1000,1000)] (c13 (n:=3) (p:=p+1) hx (by omega) (by omega)) ?_
  simp -implicitDefEqProofs only [↓zb,push_cast,simprocAttr,tte]
  simp only [w3]
  refine zd [[],[],[],[]] [(1000,1000)] (c15 H hx hd hd2 (21) [(1+drawn xs (p+1) 3)] (by simp) (p+2)) ?_
  simp -implicitDefEqProofs only [↓zb,push_cast,simprocAttr,tte]
  refine ⟨zg (by kernel_rfl),?_⟩
  refine zr [0,0,0,0,0,6] rfl (by simp) (by simp) ?_ (by first | simp [ends] | (subst_vars;simp [ends])) ?_ (by simp [ends])
  ·rw [<-hr];rw [hM];simp [mkM,yb,Ex.op,Ex.type,Ex.num,Ex.text,Ex.col,Ex.kids]
  ·rw [<-hr2,hM];simp [mkM,ends]
 ·simp only [decide_eq_false_iff_not,beq_eq_false_iff_ne,decide_eq_true_eq] at h ha hb
  have hM:xD xs f p=mkM f (22+drawn xs p 13-8) [2,2] (p+1):=by simp only [xD];rw [if_neg h,if_neg ha,if_pos hb]
  simp only [w22,w22']
  refine zd [[],[],[],[]] [(1000,1000)] (c15 H hx hd hd2 (22+drawn xs p 13-8) [2,2] (by simp) (p+1)) ?_
  simp -implicitDefEqProofs only [↓zb,push_cast,simprocAttr,tte]
  refine zr [0,0,0,0,0,6] rfl (by simp) (by simp) ?_ (by first | simp [ends] | (subst_vars;simp [ends])) ?_ (by simp [ends])
  ·rw [<-hr];rw [hM];simp [mkM,yb,Ex.op,Ex.type,Ex.num,Ex.text,Ex.col,Ex.kids]
  ·rw [<-hr2,hM];simp [mkM,ends]
 ·simp only [decide_eq_false_iff_not,beq_eq_false_iff_ne,decide_eq_true_eq] at h ha hb hc
  have hM:xD xs f p=mkM f (24+drawn xs p 13-10) [2] (p+1):=by simp only [xD];rw [if_neg h,if_neg ha,if_neg hb,if_pos hc]
  simp only [w24,w24']
  refine zd [[],[],[],[]] [(1000,1000)] (c15 H hx hd hd2 (24+drawn xs p 13-10) [2] (by simp) (p+1)) ?_
  simp -implicitDefEqProofs only [↓zb,push_cast,simprocAttr,tte]
  refine zr [0,0,0,0,0,6] rfl (by simp) (by simp) ?_ (by first | simp [ends] | (subst_vars;simp [ends])) ?_ (by simp [ends])
  ·rw [<-hr];rw [hM];simp [mkM,yb,Ex.op,Ex.type,Ex.num,Ex.text,Ex.col,Ex.kids]
  ·rw [<-hr2,hM];simp [mkM,ends]
 ·simp only [decide_eq_false_iff_not,beq_eq_false_iff_ne,decide_eq_true_eq] at h ha hb hc
  refine zd [[],[]] [(1000,1000)] (c13 (n:=3) (p:=p+1) hx (by omega) (by omega)) ?_
  simp -implicitDefEqProofs only [↓zb,push_cast,simprocAttr,tte]
  refine za (fun hd'=>?_) fun hd'=>za (fun he=>?_) fun he=>?_
  ·simp only [beq_iff_eq] at hd'
   have hM:xD xs f p=mkM f 26 [2,2,2] (p+2):=by simp only [xD];rw [if_neg h,if_neg ha,if_neg hb,if_neg hc,if_pos hd']
   refine zd [[],[],[],[]] [(1000,1000)] (c15 H hx hd hd2 (26) [2,2,2] (by simp) (p+2)) ?_
   simp -implicitDefEqProofs only [↓zb,push_cast,simprocAttr,tte]
   refine zr [0,0,0,0,0,6] rfl (by simp) (by simp) ?_ (by first | simp [ends] | (subst_vars;simp [ends])) ?_ (by simp [ends])
   ·rw [<-hr];rw [hM];simp [mkM,yb,Ex.op,Ex.type,Ex.num,Ex.text,Ex.col,Ex.kids]
   ·rw [<-hr2,hM];simp [mkM,ends]
  ·simp only [beq_iff_eq,beq_eq_false_iff_ne] at hd' he
   have hM:xD xs f p=mkM f 27 [2,2] (p+2):=by simp only [xD];rw [if_neg h,if_neg ha,if_neg hb,if_neg hc,if_neg hd',if_pos he]
   refine zd [[],[],[],[]] [(1000,1000)] (c15 H hx hd hd2 (27) [2,2] (by simp) (p+2)) ?_
   simp -implicitDefEqProofs only [↓zb,push_cast,simprocAttr,tte]
   refine zr [0,0,0,0,0,6] rfl (by simp) (by simp) ?_ (by first | simp [ends] | (subst_vars;simp [ends])) ?_ (by simp [ends])
   ·rw [<-hr];rw [hM];simp [mkM,yb,Ex.op,Ex.type,Ex.num,Ex.text,Ex.col,Ex.kids]
   ·rw [<-hr2,hM];simp [mkM,ends]
  ·simp only [beq_eq_false_iff_ne] at hd' he
   have hM:xD xs f p=mkM f 28 [1+drawn xs (p+2) 3,1+drawn xs (p+2) 3,1+drawn xs (p+2) 3] (p+3):=by simp only [xD];rw [if_neg h,if_neg ha,if_neg hb,if_neg hc,if_neg hd',if_neg he]
   refine zd [[],[]] [(1000,1000)] (c13 (n:=3) (p:=p+2) hx (by omega) (by omega)) ?_
   simp -implicitDefEqProofs only [↓zb,push_cast,simprocAttr,tte]
   simp only [w3]
   refine zd [[],[],[],[]] [(1000,1000)] (c15 H hx hd hd2 (28) [(1+drawn xs (p+2) 3),(1+drawn xs (p+2) 3),(1+drawn xs (p+2) 3)] (by simp) (p+3)) ?_
   simp -implicitDefEqProofs only [↓zb,push_cast,simprocAttr,tte]
   refine zr [0,0,0,0,0,6] rfl (by simp) (by simp) ?_ (by first | simp [ends] | (subst_vars;simp [ends])) ?_ (by simp [ends])
   ·rw [<-hr];rw [hM];simp [mkM,yb,Ex.op,Ex.type,Ex.num,Ex.text,Ex.col,Ex.kids]
   ·rw [<-hr2,hM];simp [mkM,ends]
end
section
open Go.Am
attribute [local simp, local push_cast] num boo ints zG aV aX
def opM (xs:List Int) (f:Int->Nat->Ex×Nat) (typ:Int) (p:Nat):Ex×Nat:=
 if typ=1 then
  let n:=drawn xs p 9
  if n=5 then mkM f 11 [1] (p+1)
  else if n=6 then mkM f 13 [3] (p+1)
  else if n=7 then mkM f 26 [2,1,1] (p+1)
  else if n=8 then mkM f 27 [1,1] (p+1)
  else mkM f (6+n) [1,1] (p+1)
 else if typ=3 then
  let n:=drawn xs p 3
  if n=0 then mkM f 12 [3,3] (p+1)
  else if n=1 then mkM f 26 [2,3,3] (p+1)
  else mkM f 27 [3,3] (p+1)
 else xD xs f p
def zK (xs types:List Int):Nat->Int->Nat->Ex×Nat
 | 0,typ,p=>w9 xs types typ p
 | d+1,typ,p=>if d=0 then w9 xs types typ p else if drawn xs p 3=0 then w9 xs types typ (p+1) else opM xs (zK xs types d) typ (p+1)
theorem c11 {xs types:List Int} (hx:Tape xs) (ht:types.length<=1000): ∀(d:Nat),d+1<=10->C11 xs types (d+1:Nat) (zK xs types (d+1))
 | 0,_=>by
   intro typ p
   refine zp mixed ttok Tryz.func51 Tryz.ntmps51 Tryz.results51 ?_
   generalize hr:aE (zK xs types (0+1) typ p).1=R
   generalize hr2:zG xs (zK xs types (0+1) typ p).2=R2
   simp -implicitDefEqProofs only [argT,↓zb,push_cast,simprocAttr,tte]
   refine zd [[],[]] [(1000,1000)] (c14 (types:=types) (typ:=typ) (p:=p) hx ht) ?_
   simp -implicitDefEqProofs only [↓zb,push_cast,simprocAttr,tte]
   have hM:zK xs types (0+1) typ p=w9 xs types typ p:=by simp [zK]
   refine zr [0,0,0,0,0,6] rfl (by simp) (by simp) ?_ (by first | simp [ends] | (subst_vars;simp [ends])) ?_ (by simp [ends])
   ·rw [<-hr,hM];simp [yb]
   ·rw [<-hr2,hM];simp [ends]
 | e+1,hd10=>by
   intro typ p
   have ih:=c11 hx ht e (by omega)
   have ih':C11 xs types (((e+1+1:Nat):Int)-1) (zK xs types (e+1)):=by
    rw [show ((e+1+1:Nat):Int)-1=((e+1:Nat):Int) from by omega];exact ih
   have hd:(0:Int)<((e+1+1:Nat):Int):=by omega
   have hd2:((e+1+1:Nat):Int)<=10:=by omega
   have h9r:=zv xs (p+1) (n:=9) (by omega)
   have w6:IntKind.i64.wrap (6+drawn xs (p+1) 9)=6+drawn xs (p+1) 9:=zJ (by omega) (by omega)
   refine zp mixed ttok Tryz.func51 Tryz.ntmps51 Tryz.results51 ?_
   generalize hr:aE (zK xs types (e+1+1) typ p).1=R
   generalize hr2:zG xs (zK xs types (e+1+1) typ p).2=R2
   simp -implicitDefEqProofs only [argT,↓zb,push_cast,simprocAttr,tte]
   refine za (fun h=>?_) fun h=>?_
   ·simp only [decide_eq_true_eq] at h;omega
   ·simp only [decide_eq_false_iff_not] at h
    refine zd [[],[]] [(1000,1000)] (c13 (n:=3) (p:=p) hx (by omega) (by omega)) ?_
    simp -implicitDefEqProofs only [↓zb,push_cast,simprocAttr,tte]
    refine za (fun h1=>?_) fun h1=>za (fun h2=>?_) fun h2=>za (fun h3=>?_) fun h3=>?_
    ·simp only [beq_iff_eq] at h1
     refine zd [[],[]] [(1000,1000)] (c14 (types:=types) (typ:=typ) (p:=p+1) hx ht) ?_
     simp -implicitDefEqProofs only [↓zb,push_cast,simprocAttr,tte]
     have hM:zK xs types (e+1+1) typ p=w9 xs types typ (p+1):=by simp only [zK];rw [if_neg (by omega),if_pos h1]
     refine zr [0,0,0,0,0,6] rfl (by simp) (by simp) ?_ (by first | simp [ends] | (subst_vars;simp [ends])) ?_ (by simp [ends])
     ·rw [<-hr,hM];simp [yb]
     ·rw [<-hr2,hM];simp [ends]
    ·simp only [beq_iff_eq,beq_eq_false_iff_ne] at h1 h2
     refine zd [[],[]] [(1000,1000)] (c13 (n:=9) (p:=p+1) hx (by omega) (by omega)) ?_
     simp -implicitDefEqProofs only [↓zb,push_cast,simprocAttr,tte]
     simp only [w6]
     refine za (fun a1=>?_) fun a1=>za (fun a2=>?_) fun a2=>za (fun a3=>?_) fun a3=>za (fun a4=>?_) fun a4=>?_<;>simp only [beq_iff_eq,beq_eq_false_iff_ne] at a1<;>(try simp only [beq_iff_eq,beq_eq_false_iff_ne] at a2)<;>(try simp only [beq_iff_eq,beq_eq_false_iff_ne] at a3)<;>(try simp only [beq_iff_eq,beq_eq_false_iff_ne] at a4)
     ·refine zd [[],[],[],[]] [(1000,1000)] (c15 ih' hx hd hd2 (11) [1] (by simp) (p+1+1)) ?_
      simp -implicitDefEqProofs only [↓zb,push_cast,simprocAttr,tte]
      have hM:zK xs types (e+1+1) typ p=mkM (zK xs types (e+1)) (11) [1] (p+1+1):=by simp only [zK,opM];rw [if_neg (by omega),if_neg h1,if_pos h2,if_pos a1]
      refine zr [0,0,0,0,0,6] rfl (by simp) (by simp) ?_ (by first | simp [ends] | (subst_vars;simp [ends])) ?_ (by simp [ends])
      ·rw [<-hr,hM];simp [mkM,yb,Ex.op,Ex.type,Ex.num,Ex.text,Ex.col,Ex.kids]
      ·rw [<-hr2,hM];simp [mkM,ends]
     ·refine zd [[],[],[],[]] [(1000,1000)] (c15 ih' hx hd hd2 (13) [3] (by simp) (p+1+1)) ?_
      simp -implicitDefEqProofs only [↓zb,push_cast,simprocAttr,tte]
      have hM:zK xs types (e+1+1) typ p=mkM (zK xs types (e+1)) (13) [3] (p+1+1):=by simp only [zK,opM];rw [if_neg (by omega),if_neg h1,if_pos h2,if_neg a1,if_pos a2]
      refine zr [0,0,0,0,0,6] rfl (by simp) (by simp) ?_ (by first | simp [ends] | (subst_vars;simp [ends])) ?_ (by simp [ends])
      ·rw [<-hr,hM];simp [mkM,yb,Ex.op,Ex.type,Ex.num,Ex.text,Ex.col,Ex.kids]
      ·rw [<-hr2,hM];simp [mkM,ends]
     ·refine zd [[],[],[],[]] [(1000,1000)] (c15 ih' hx hd hd2 (26) [2,1,1] (by simp) (p+1+1)) ?_
      simp -implicitDefEqProofs only [↓zb,push_cast,simprocAttr,tte]
      have hM:zK xs types (e+1+1) typ p=mkM (zK xs types (e+1)) (26) [2,1,1] (p+1+1):=by simp only [zK,opM];rw [if_neg (by omega),if_neg h1,if_pos h2,if_neg a1,if_neg a2,if_pos a3]
      refine zr [0,0,0,0,0,6] rfl (by simp) (by simp) ?_ (by first | simp [ends] | (subst_vars;simp [ends])) ?_ (by simp [ends])
      ·rw [<-hr,hM];simp [mkM,yb,Ex.op,Ex.type,Ex.num,Ex.text,Ex.col,Ex.kids]
      ·rw [<-hr2,hM];simp [mkM,ends]
     ·refine zd [[],[],[],[]] [(1000,1000)] (c15 ih' hx hd hd2 (27) [1,1] (by simp) (p+1+1)) ?_
      simp -implicitDefEqProofs only [↓zb,push_cast,simprocAttr,tte]
      have hM:zK xs types (e+1+1) typ p=mkM (zK xs types (e+1)) (27) [1,1] (p+1+1):=by simp only [zK,opM];rw [if_neg (by omega),if_neg h1,if_pos h2,if_neg a1,if_neg a2,if_neg a3,if_pos a4]
      refine zr [0,0,0,0,0,6] rfl (by simp) (by simp) ?_ (by first | simp [ends] | (subst_vars;simp [ends])) ?_ (by simp [ends])
      ·rw [<-hr,hM];simp [mkM,yb,Ex.op,Ex.type,Ex.num,Ex.text,Ex.col,Ex.kids]
      ·rw [<-hr2,hM];simp [mkM,ends]
     ·refine zd [[],[],[],[]] [(1000,1000)] (c15 ih' hx hd hd2 (6+drawn xs (p+1) 9) [1,1] (by simp) (p+1+1)) ?_
      simp -implicitDefEqProofs only [↓zb,push_cast,simprocAttr,tte]
      have hM:zK xs types (e+1+1) typ p=mkM (zK xs types (e+1)) (6+drawn xs (p+1) 9) [1,1] (p+1+1):=by simp only [zK,opM];rw [if_neg (by omega),if_neg h1,if_pos h2,if_neg a1,if_neg a2,if_neg a3,if_neg a4]
      refine zr [0,0,0,0,0,6] rfl (by simp) (by simp) ?_ (by first | simp [ends] | (subst_vars;simp [ends])) ?_ (by simp [ends])
      ·rw [<-hr,hM];simp [mkM,yb,Ex.op,Ex.type,Ex.num,Ex.text,Ex.col,Ex.kids]
      ·rw [<-hr2,hM];simp [mkM,ends]
    ·simp only [beq_iff_eq,beq_eq_false_iff_ne] at h1 h2 h3
     refine zd [[],[]] [(1000,1000)] (c13 (n:=3) (p:=p+1) hx (by omega) (by omega)) ?_
     simp -implicitDefEqProofs only [↓zb,push_cast,simprocAttr,tte]
     refine za (fun a1=>?_) fun a1=>za (fun a2=>?_) fun a2=>?_<;>simp only [beq_iff_eq,beq_eq_false_iff_ne] at a1<;>(try simp only [beq_iff_eq,beq_eq_false_iff_ne] at a2)
     ·refine zd [[],[],[],[]] [(1000,1000)] (c15 ih' hx hd hd2 (12) [3,3] (by simp) (p+1+1)) ?_
      simp -implicitDefEqProofs only [↓zb,push_cast,simprocAttr,tte]
      have hM:zK xs types (e+1+1) typ p=mkM (zK xs types (e+1)) (12) [3,3] (p+1+1):=by simp only [zK,opM];rw [if_neg (by omega),if_neg h1,if_neg h2,if_pos h3,if_pos a1]
      refine zr [0,0,0,0,0,6] rfl (by simp) (by simp) ?_ (by first | simp [ends] | (subst_vars;simp [ends])) ?_ (by simp [ends])
      ·rw [<-hr,hM];simp [mkM,yb,Ex.op,Ex.type,Ex.num,Ex.text,Ex.col,Ex.kids]
      ·rw [<-hr2,hM];simp [mkM,ends]
     ·refine zd [[],[],[],[]] [(1000,1000)] (c15 ih' hx hd hd2 (26) [2,3,3] (by simp) (p+1+1)) ?_
      simp -implicitDefEqProofs only [↓zb,push_cast,simprocAttr,tte]
      have hM:zK xs types (e+1+1) typ p=mkM (zK xs types (e+1)) (26) [2,3,3] (p+1+1):=by simp only [zK,opM];rw [if_neg (by omega),if_neg h1,if_neg h2,if_pos h3,if_neg a1,if_pos a2]
      refine zr [0,0,0,0,0,6] rfl (by simp) (by simp) ?_ (by first | simp [ends] | (subst_vars;simp [ends])) ?_ (by simp [ends])
      ·rw [<-hr,hM];simp [mkM,yb,Ex.op,Ex.type,Ex.num,Ex.text,Ex.col,Ex.kids]
      ·rw [<-hr2,hM];simp [mkM,ends]
     ·refine zd [[],[],[],[]] [(1000,1000)] (c15 ih' hx hd hd2 (27) [3,3] (by simp) (p+1+1)) ?_
      simp -implicitDefEqProofs only [↓zb,push_cast,simprocAttr,tte]
      have hM:zK xs types (e+1+1) typ p=mkM (zK xs types (e+1)) (27) [3,3] (p+1+1):=by simp only [zK,opM];rw [if_neg (by omega),if_neg h1,if_neg h2,if_pos h3,if_neg a1,if_neg a2]
      refine zr [0,0,0,0,0,6] rfl (by simp) (by simp) ?_ (by first | simp [ends] | (subst_vars;simp [ends])) ?_ (by simp [ends])
      ·rw [<-hr,hM];simp [mkM,yb,Ex.op,Ex.type,Ex.num,Ex.text,Ex.col,Ex.kids]
      ·rw [<-hr2,hM];simp [mkM,ends]
    ·simp only [beq_iff_eq,beq_eq_false_iff_ne] at h1 h2 h3
     refine zd [[],[]] [(1000,1000)] (c16 (xs:=xs) (types:=types) (f:=zK xs types (e+1)) ih' hx hd hd2 (p+1)) ?_
     simp -implicitDefEqProofs only [↓zb,push_cast,simprocAttr,tte]
     have hM:zK xs types (e+1+1) typ p=xD xs (zK xs types (e+1)) (p+1):=by simp only [zK,opM];rw [if_neg (by omega),if_neg h1,if_neg h2,if_neg h3]
     refine zr [0,0,0,0,0,6] rfl (by simp) (by simp) ?_ (by first | simp [ends] | (subst_vars;simp [ends])) ?_ (by simp [ends])
     ·rw [<-hr,hM];simp [yb]
     ·rw [<-hr2,hM];simp [ends]
end
section
open Go.Am
attribute [local simp, local push_cast] num boo ints zG aV aX
def Known (t:Int):Prop:=(t==1 || t==2 || t==3)=true
def I5 (types:List Int) (typ deep:Int) (xs:List Int) (n:Nat):SL:=
 ⟨[(31,.d (.lit (.int .i64 n))),(30,.d (.lit (.int .i64 types.length))),(29,.d (.sl 1 (ze rI types))),(8,.ptr 8 0),(0,.d (.sl 1 (ze rI types))),(1,.d (.lit (.int .i64 typ))),(2,.d (.lit (.int .i64 deep))),(3,.d (.sl 1 (ze rI xs)))],
  [(8,.var [.d (.lit (.int .i64 0)),.d (.lit (.int .i64 0)),.d (.lit (.int .i64 0)),.d (.lit (.string ByteArray.empty)),.d (.lit (.int .i64 0)),.snil])]⟩
theorem kd {xs:List Int} (hx: ∀x∈xs,i64 x):Tape (xs.take 400):=⟨by simp;omega,fun x h=>hx x (List.mem_of_mem_take h)⟩
theorem c5 {xs types:List Int} {typ:Int} {d:Nat} (hx: ∀x∈xs,i64 x) (ht:types.length<=24) (hk: ∀t∈types,Known t) (hty:Known typ) (hd:d+1<=6):
 ACall Tryz.prog 16 [ints types,num typ,num (d+1:Nat),ints xs] [] (.tup [aE (zK (xs.take 400) types (d+1) typ 0).1,num 0]) []:=by
 refine zp mixed ttok Tryz.func16 Tryz.ntmps16 Tryz.results16 ?_
 generalize hr:aE (zK (xs.take 400) types (d+1) typ 0).1=R
 unfold Known at hty
 simp -implicitDefEqProofs only [argT,↓zb,push_cast,simprocAttr,tte]
 refine za (fun h=>?_) fun h=>?_
 ·simp only [decide_eq_true_eq] at h;omega
 refine zd [[]] [] (c9 typ) ?_
 simp -implicitDefEqProofs only [↓zb,push_cast,simprocAttr,tte,hty]
 refine za (fun h2=>?_) fun h2=>?_
 ·simp only [decide_eq_true_eq] at h2;omega
 refine za (fun h3=>?_) fun h3=>?_
 ·simp only [decide_eq_true_eq] at h3;omega
 refine xk mixed ttok (fun n:{n:Nat // n<=types.length}=>I5 types typ (d+1:Nat) xs n.1) (fun n=>types.length-n.1) ⟨0,Nat.zero_le _⟩ ?_ fun ⟨n,hn⟩=>?_
 ·exact Weak.keepL (by simp [I5,ends]) (by simp [I5,ends]) (by simp [I5,ends])
 ·have hw:n<types.length->IntKind.i64.wrap ((n:Int)+1)=(n:Int)+1:=fun h=>zJ (by omega) (by omega)
  generalize hI:(fun n:{n:Nat // n<=types.length}=>I5 types typ (d+1:Nat) xs n.1)=I
  simp -implicitDefEqProofs only [I5,↓zb,push_cast,simprocAttr,tte]
  refine za (fun h=>?_) fun h=>?_
  ·have h':n<types.length:=by simpa using h
   have hw:=hw h'
   have hkn:=hk (types.getD n default) (by rw [List.getD_eq_getElem?_getD];simp [h'])
   unfold Known at hkn
   refine ⟨⟨by omega,by omega⟩,?_⟩
   refine zd [[]] [] (c9 (types.getD n default)) ?_
   simp -implicitDefEqProofs only [↓zb,push_cast,simprocAttr,tte,hkn]
   refine xK (⟨n+1,h'⟩:{n:Nat // n<=types.length}) (by show types.length-(n+1)<types.length-n;omega) ?_ ?_ ?_<;>subst hI
   ·simp [I5,ends,hw]
   ·simp [I5,ends]
   ·simp [I5,ends]
  ·refine zd [[]] [(9,500)] (c10 (xs:=xs)) ?_
   simp -implicitDefEqProofs only [↓zb,push_cast,simprocAttr,tte]
   refine zd [[],[],[]] [(1000,500)] (c11 (kd hx) (show types.length<=1000 by omega) d (by omega) typ 0) ?_
   simp -implicitDefEqProofs only [↓zb,push_cast,simprocAttr,tte]
   refine zm [[0,0,0,0,0,6],[]] rfl (by simp) (by simp) ?_ (by subst hr;simp [ends]) trivial (by simp [ends])
   rw [<-hr];simp [yb]
end
section
open Go.Am
attribute [local simp, local push_cast] num boo ints zG aV aX
inductive Fine:Ex->Prop
 | mk (e:Ex) (h1:e.kids.length<=1000000) (h2: ∀k∈e.kids,Fine k):Fine e
theorem awake1:(zK [] [] 1 1 0).1= .mk 2 0 (-2) ByteArray.empty 0 []:=by rfl
theorem awake2:(zK [1,8] [] 2 1 0).1= .mk 27 0 0 ByteArray.empty 0 [.mk 2 0 (-2) ByteArray.empty 0 [],.mk 2 0 (-2) ByteArray.empty 0 []]:=by rfl
theorem c4:ACall Tryz.prog 6 [] [] (boo true) []:=by
 refine zp mixed ttok Tryz.func6 Tryz.ntmps6 Tryz.results6 ?_
 simp -implicitDefEqProofs only [argT,↓zb,push_cast,simprocAttr,tte]
 refine zd [[1],[],[],[1]] [] (c5 (xs:=[]) (types:=[]) (typ:=1) (d:=0) (by simp) (by simp) (by simp) rfl (by omega)) ?_
 simp -implicitDefEqProofs only [awake1,Ex.op,Ex.type,Ex.num,Ex.text,Ex.col,Ex.kids,↓zb,push_cast,simprocAttr,tte]
 refine zd [[1],[],[],[1]] [] (c5 (xs:=[1,8]) (types:=[]) (typ:=1) (d:=1) (by simp [i64]) (by simp) (by simp) rfl (by omega)) ?_
 simp -implicitDefEqProofs only [List.take_succ_cons,List.take_nil,Nat.reduceAdd,awake2,Ex.op,Ex.type,Ex.num,Ex.text,Ex.col,Ex.kids,↓zb,push_cast,simprocAttr,tte]
 refine zr [0] rfl trivial trivial rfl rfl trivial ?_
 simp only [ends,ite_true,ite_false,reduceIte,Nat.reduceEqDiff,Nat.reduceLeDiff,Nat.reduceLT,Nat.reduceAdd,reduceCtorEq,num,boo,ints,zG,aV,aX]
end
section
open Go.Am
attribute [local simp, local push_cast] num boo ints zG aV aX
end
section
open Go.Am
attribute [local simp, local push_cast] num boo ints zG aV aX
theorem name_ok (pre:ByteArray) (h:pre.size<=1000) (i:Int):((pre.size+(Utf8.encode i).size:Nat):Int)<=9223372036854775807:=by have:=encode_size i;omega
def jF (pre:ByteArray) (base:Int) (n:Nat):ByteArray:=pre++Utf8.encode (IntKind.i32.wrap (IntKind.i64.wrap (base+n)))
def colM (xs:List Int) (p c:Nat):Col:=⟨jF ⟨#[99]⟩ 97 c,1+drawn xs (p+2 * c) 3,drawn xs (p+2 * c+1) 2==1⟩
def j1 (xs:List Int) (p c:Nat):List Col:=⟨⟨#[107]⟩,1,false⟩::(List.range c).map (colM xs p)
theorem colsM_succ (xs:List Int) (p c:Nat):j1 xs p (c+1)=j1 xs p c++[colM xs p c]:=by simp [j1,List.range_succ]
def xS (xs:List Int) (s:List Tbl) (n:Nat) (cols:List Col) (p:Nat):List Col×List Fk×Nat:=
 if decide ((n:Int)>0)=true then
  if (drawn xs p 2==1)=true then (cols++[⟨⟨#[102]⟩,1,drawn xs (p+1) 2==1⟩],[⟨[(cols.length:Int)],(s.getD (drawn xs (p+1+1) n).toNat default).name⟩],p+1+1+1)
  else (cols,[],p+1)
 else (cols,[],p)
def checkE:Ex:= .mk 16 0 0 ByteArray.empty 0 [.mk 5 0 0 ByteArray.empty 1 [],.mk 2 0 4 ByteArray.empty 0 []]
def ke (xs:List Int) (n:Nat) (cols:List Col) (fs:List Fk) (p:Nat):Tbl×Nat:=
 let uni:=if (drawn xs p 4==3)=true then [[1]] else []
 if ((cols.getD 1 default).type==1)=true then (⟨jF ⟨#[116]⟩ 97 n,cols,[0],uni,fs,if (drawn xs (p+1) 4==3)=true then [checkE] else []⟩,p+1+1)
 else (⟨jF ⟨#[116]⟩ 97 n,cols,[0],uni,fs,[]⟩,p+1)
def qz (xs:List Int) (s:List Tbl) (n p:Nat):Tbl×Nat:=
 let m:=(1+drawn xs p 3).toNat
 let f:=xS xs s n (j1 xs (p+1) m) (p+1+2 * m)
 ke xs n f.1 f.2.1 f.2.2
def wb (xs:List Int):Nat->List Tbl×Nat
 | 0=>([],1)
 | n+1=>((wb xs n).1++[(qz xs (wb xs n).1 n (wb xs n).2).1],(qz xs (wb xs n).1 n (wb xs n).2).2)
def uZ (xs:List Int):List Tbl:=(wb xs (1+drawn xs 0 3).toNat).1
theorem vC (xs:List Int): ∀n,(wb xs n).1.length=n
 | 0=>rfl
 | n+1=>by simp [wb,vC xs n]
def I8 (xs:List Int) (m n:Nat):SL:=
 ⟨[(15,.d (.lit (.int .i64 n))),(14,.d (.lit (.int .i64 m))),(4,.ptr 4 0),(3,.ptr 500 0),(2,.ptr 2 0)],
  [(4,.var [.vec 600 n]),(600,.vec 31 6 (ze rT (wb xs n).1) 0),(500,zG xs (wb xs n).2),(2,.var [.snil])]⟩
def J8 (xs:List Int) (sn:List Tbl) (m n p m2 c:Nat):SL:=
 ⟨[(30,.d (.lit (.int .i64 c))),(29,.d (.lit (.int .i64 m2))),(6,.ptr 6 0),(5,.d (.lit (.int .i64 n))),(15,.d (.lit (.int .i64 n))),(14,.d (.lit (.int .i64 m))),(4,.ptr 4 0),(3,.ptr 500 0),(2,.ptr 2 0)],
  [(6,.var [.d (.lit (.string (jF ⟨#[116]⟩ 97 n))),.vec 24 (c+1),.vec 25 1,.snil,.snil,.snil]),(24,.vec 25 3 (ze rC (j1 xs (p+1) c)) 0),(25,.vec 3 1 (ze rI [0]) 0),
   (4,.var [.vec 600 n]),(600,.vec 31 6 (ze rT sn) 0),(500,zG xs (p+1+2 * c)),(2,.var [.snil])]⟩
theorem c8 {xs:List Int} (hx: ∀x∈xs,i64 x):ACall Tryz.prog 10 [ints xs] [] (aS (uZ (xs.take 400))) []:=by
 refine zp mixed ttok Tryz.func10 Tryz.ntmps10 Tryz.results10 ?_
 simp -implicitDefEqProofs only [argT,↓zb,push_cast,simprocAttr,tte]
 refine zd [[1]] [(9,500)] (c10 (xs:=xs)) ?_
 have hx:=kd hx
 generalize xs.take 400=xs at hx ⊢
 generalize hr:aS (uZ xs)=R
 have h3:=fun p=>zv xs p (n:=3) (by omega)
 have w3: ∀q,IntKind.i64.wrap (1+drawn xs q 3)=1+drawn xs q 3:=fun q=>zJ (by have:=h3 q;omega) (by have:=h3 q;omega)
 simp -implicitDefEqProofs only [↓zb,push_cast,simprocAttr,tte]
 refine zd [[],[]] [(1000,500)] (c13 (n:=3) (p:=0) hx (by omega) (by omega)) ?_
 simp -implicitDefEqProofs only [↓zb,push_cast,simprocAttr,tte,w3]
 obtain ⟨m,hm⟩: ∃m:Nat,1+drawn xs 0 3=m:=⟨(1+drawn xs 0 3).toNat,by have:=h3 0;omega⟩
 have hm3:m<=3:=by have:=h3 0;omega
 rw [hm]
 refine xk mixed ttok (fun n:{n:Nat // n<=m}=>I8 xs m n.1) (fun n=>m-n.1) ⟨0,Nat.zero_le _⟩ ?_ fun ⟨n,hn⟩=>?_
 ·exact (Weak.nilCellL 4 0 600 31 6 rfl rfl rfl).trans (Weak.keepL (by simp [I8,wb,ends]) (by simp [I8,wb,ze,ends]) (by simp [I8,ends]))
 ·have hw:n<m->IntKind.i64.wrap ((n:Int)+1)=(n:Int)+1:=fun h=>zJ (by omega) (by omega)
  generalize hI:(fun n:{n:Nat // n<=m}=>I8 xs m n.1)=I
  have htl:=vC xs n
  simp -implicitDefEqProofs only [I8,↓zb,push_cast,simprocAttr,tte]
  refine za (fun h=>?_) fun h=>?_
  ·have h':n<m:=by simpa using h
   have hw:=hw h'
   generalize hp:(wb xs n).2=p
   generalize hsn:(wb xs n).1=sn at htl ⊢
   refine ⟨name_ok _ (by decide) _,?_⟩
   refine zd [[],[]] [(1000,500)] (c13 (n:=3) (p:=p) hx (by omega) (by omega)) ?_
   simp -implicitDefEqProofs only [↓zb,push_cast,simprocAttr,tte,w3]
   obtain ⟨m2,hm2⟩: ∃m2:Nat,1+drawn xs p 3=m2:=⟨(1+drawn xs p 3).toNat,by have:=h3 p;omega⟩
   have hm23:m2<=3/\1<=m2:=by have:=h3 p;omega
   rw [hm2]
   refine xk mixed ttok (fun c:{c:Nat // c<=m2}=>J8 xs sn m n p m2 c.1) (fun c=>m2-c.1) ⟨0,Nat.zero_le _⟩ ?_ fun ⟨c,hc⟩=>?_
   ·exact Weak.keepL (by simp [J8,ends]) (by simp [J8,j1,ze,jF,rC,ends]) (by simp [J8,ends])
   have hwc:c<m2->IntKind.i64.wrap ((c:Int)+1)=(c:Int)+1:=fun h=>zJ (by omega) (by omega)
   generalize hJ:(fun c:{c:Nat // c<=m2}=>J8 xs sn m n p m2 c.1)=J
   have hcl:(j1 xs (p+1) c).length=c+1:=by simp [j1]
   simp -implicitDefEqProofs only [J8,↓zb,push_cast,simprocAttr,tte]
   refine za (fun hq=>?_) fun hq=>?_
   ·have hc':c<m2:=by simpa using hq
    have hwc:=hwc hc'
    refine zd [[],[]] [(1000,500)] (c13 (n:=3) (p:=p+1+2 * c) hx (by omega) (by omega)) ?_
    simp -implicitDefEqProofs only [↓zb,push_cast,simprocAttr,tte,w3]
    refine ⟨name_ok _ (by decide) _,?_⟩
    refine callx_of [[],[]] [(1000,500)] rfl (c13 hx (by first | omega | (simp only [decide_eq_true_eq,gt_iff_lt] at *;omega)) (by omega)) (by simp) rfl rfl (And.intro (And.intro rfl rfl) trivial) (by simp [idsOk,lookO,updO,ren1]) ?_
    simp -implicitDefEqProofs only [↓zb,push_cast,simprocAttr,tte]
    have hcs:=colsM_succ xs (p+1) c
    refine ⟨⟨by omega,by omega⟩,zg (by kernel_rfl),?_⟩
    refine xK (⟨c+1,hc'⟩:{c:Nat // c<=m2}) (by show m2-(c+1)<m2-c;omega) ?_ ?_ ?_<;>subst hJ
    ·simp [J8,ends,hwc,hcl]
    ·simp [J8,ends,hcs,hcl,colM,jF,ze,rC,show p+1+2 * (c+1)=p+1+2 * c+1+1 from by omega]
    ·simp [J8,ends]
   ·have hcm:c=m2:=by simp at hq;omega
    subst hcm
    generalize hcols:j1 xs (p+1) c=cols at hcl ⊢
    have hstep:wb xs (n+1)=(sn++[(ke xs n (xS xs sn n cols (p+1+2 * c)).1 (xS xs sn n cols (p+1+2 * c)).2.1 (xS xs sn n cols (p+1+2 * c)).2.2).1],(ke xs n (xS xs sn n cols (p+1+2 * c)).1 (xS xs sn n cols (p+1+2 * c)).2.1 (xS xs sn n cols (p+1+2 * c)).2.2).2):=by
     have e1:(1+drawn xs p 3).toNat=c:=by omega
     simp only [wb,hsn,hp,qz,e1,hcols]
    have fin: ∀{t:List (Nat×A)} {o:List (Nat×Ob)},keepT (lookT t) (inO (I8 xs m (n+1)).o) (I8 xs m (n+1)).t->keepO (lookO o) (inO (I8 xs m (n+1)).o) (I8 xs m (n+1)).o->keepIn (inO (I8 xs m (n+1)).o) o->
     ∀K,ua I (fun n=>m-n.1) ⟨n,hn⟩ K .normal ⟨t,o⟩:=by
     intro t o k1 k2 k3 K
     subst hI
     exact xK (⟨n+1,h'⟩:{n:Nat // n<=m}) (by show m-(n+1)<m-n;omega) k1 k2 k3
    clear hI hm hm2 hJ w3
    repeat' first
     | (refine za (fun _=>?_) (fun _=>?_))
     | (refine callx_of [[],[]] [(1000,500)] rfl (c13 hx (by first | omega | (simp only [decide_eq_true_eq,gt_iff_lt] at *;omega)) (by omega)) (by simp) rfl rfl (And.intro (And.intro rfl rfl) trivial) (by simp [idsOk,lookO,updO,ren1]) ?_;simp -implicitDefEqProofs only [↓zb,push_cast,simprocAttr,tte])
     | (refine And.intro (zg ?_) ?_; · kernel_rfl)
     | (refine And.intro ?_ ?_; · omega)
     | (refine And.intro ?_ ?_; · (simp [List.length_append];omega))
     | (refine And.intro ?_ ?_; · (simp [List.length_append,hcl];done))
     | (refine And.intro ?_ ?_; · (have hz:=zv xs (p+1+2 * c+1+1) (n:=(n:Int)) (by first | omega | (simp only [decide_eq_true_eq,gt_iff_lt] at *;omega));omega))
     | (refine fin ?_ ?_ ?_ _)
    all_goals first
     | (simp [I8,ends,hw,htl];done)
     | (clear fin
        simp only [xS,ke, *,reduceIte,Bool.false_eq_true,ite_true,ite_false] at hstep
        simp [I8,ends,hstep,checkE,ze,rT,rF,rIs,rE_mk,rC,hcl,htl];done)
  ·have hnm:n=m:=by simp at h;omega
   subst hnm
   have hM:uZ xs=(wb xs n).1:=by simp only [uZ,hm,Int.toNat_natCast]
   refine zr [6] rfl trivial (by simp [zc,htl]) ?_ (by subst hr;simp [aS,A.closed,closedL]) trivial (by simp [ends])
   rw [<-hr,hM];simp [aS]
end
end Go.Proofs.YtampbaaiddbacaaGreatDoor
