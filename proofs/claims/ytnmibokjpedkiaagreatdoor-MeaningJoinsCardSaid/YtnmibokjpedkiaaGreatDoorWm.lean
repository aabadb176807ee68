/- Joins of two tables: a proof over an abstract machine of our own (part Wm) -/
import Derived.Test.YtnmibokjpedkiaaGreatDoorWc
set_option maxRecDepth 100000
set_option maxHeartbeats 4000000
set_option linter.all false
namespace Go.Proofs.YtnmibokjpedkiaaGreatDoor
section
open Go.Am
attribute [local simp, local push_cast] num boo str ints aV aTab zv aS aT aC
def ub (xs:List Int):Prop:= ∀x∈xs,i64 x
def pos (p:Nat):Int:=p
def yi (xs:List Int) (p:Nat):Ob:= .var [.d (.sl 1 (zd rI xs)),.d (.lit (.int .i64 (pos p)))]
attribute [local simp, local push_cast] yi
def drawn (xs:List Int) (p:Nat) (n:Int):Int:=xs.getD p 0 % n
theorem zz (xs:List Int) (p:Nat) {n:Int} (hn:0<n):0<=drawn xs p n/\drawn xs p n<n:=
 ⟨Int.emod_nonneg _ (by omega),Int.emod_lt_of_pos _ hn⟩
theorem tmod_fix (a n:Int) (hn:0<n):(if a.tmod n<0 then a.tmod n+n else a.tmod n)=a % n:=by
 have h1:=Int.emod_nonneg a (show n≠0 by omega)
 have h2:=Int.emod_lt_of_pos a hn
 have h3:=Int.tmod_eq_emod (a:=a) (b:=n)
 by_cases h:0<=a\/n ∣ a
 ·rw [if_pos h] at h3
  rw [if_neg (by omega)];omega
 ·rw [if_neg h] at h3
  have h4:a % n≠0:=fun h5=>h (.inr (Int.dvd_of_emod_eq_zero h5))
  rw [if_pos (by omega)];omega
theorem zX {xs:List Int} {n:Int} {p:Nat} (hx:ub xs) (hn:0<n) (hn2:n<=1000000) (hp:p<=4000000000000000000):
 ACall Tryz.prog 21 [.ptr 1000 0,num n] [(1000,yi xs p)] (num (drawn xs p n)) [(1000,yi xs (p+1))]:=by
 refine zn mixed ttok Tryz.func21 Tryz.ntmps21 Tryz.results21 ?_
 generalize hr:num (drawn xs p n)=R
 simp -implicitDefEqProofs only [argT,yi,rI,↓zb,push_cast,simprocAttr,tte]
 have hd:(default:Int)=0:=rfl
 have e1:IntKind.i64.wrap (pos p+1)=pos (p+1):=by rw [pos,zw (by omega) (by omega)];rfl
 have e0:pos p=p:=rfl
 refine za (fun h0=>?_) fun h0=>?_
 ·exact absurd (of_decide_eq_true h0) (by omega)
 refine ⟨zf (by kernel_rfl),?_⟩
 refine za (fun h1=>?_) fun h1=>?_
 ·have h1':p<xs.length:=by have:=of_decide_eq_true h1;omega
  have e3:(pos p).toNat=p:=by rw [e0];simp
  have hfix:=tmod_fix (xs.getD p 0) n hn
  have hb1:=Int.emod_nonneg (xs.getD p 0) (show n≠0 by omega)
  have hb2:=Int.emod_lt_of_pos (xs.getD p 0) hn
  refine ⟨⟨by omega,by omega⟩,by omega,zf (by kernel_rfl),?_⟩
  rw [hd,e3]
  refine za (fun h2=>?_) fun h2=>?_
  ·rw [if_pos (of_decide_eq_true h2)] at hfix
   rw [zw (n:=(xs.getD p 0).tmod n+n) (by omega) (by omega),hfix]
   rw [e1]
   refine zu [0] rfl (by simp) (by simp [zc]<;>omega) ?_ (by first | rfl | simp [ends] | (subst_vars;simp [ends])) (by simp [ends]) (by simp [ends])
   rw [<-hr];rfl
  ·rw [if_neg (of_decide_eq_false h2)] at hfix
   rw [hfix]
   rw [e1]
   refine zu [0] rfl (by simp) (by simp [zc]<;>omega) ?_ (by first | rfl | simp [ends] | (subst_vars;simp [ends])) (by simp [ends]) (by simp [ends])
   rw [<-hr];rfl
 ·have h1':xs.length≤p:=by have:=of_decide_eq_false h1;omega
  rw [e1]
  refine zu [0] rfl (by simp) (by simp [zc]<;>omega) ?_ (by first | rfl | simp [ends] | (subst_vars;simp [ends])) (by simp [ends]) (by simp [ends])
  rw [<-hr];simp [drawn,List.getElem?_eq_none h1']<;>rfl
end
section
open Go.Am
attribute [local simp, local push_cast] num boo str ints aV aTab zv aS aT aC yi rS
def yO (l:ByteArray) (n:Int):ByteArray:=l++⟨#[UInt8.ofNat (IntKind.u8.wrap (IntKind.i64.wrap (48+n.tmod 10))).toNat]⟩
theorem c_mname (l:ByteArray) (n:Int) (hl:l.size<=1000):ACall Tryz.prog 28 [str l,num n] [] (str (yO l n)) []:=by
 refine zn mixed ttok Tryz.func28 Tryz.ntmps28 Tryz.results28 ?_
 generalize hr:str (yO l n)=R
 simp -implicitDefEqProofs only [argT,↓zb,push_cast,simprocAttr,tte]
 have hb:(⟨#[UInt8.ofNat (IntKind.u8.wrap (IntKind.i64.wrap (48+n.tmod 10))).toNat]⟩:ByteArray).size=1:=rfl
 refine ⟨by omega,?_⟩
 refine zu [0] rfl (by simp) (by simp [zc]<;>omega) ?_ (by first | rfl | simp [ends] | (subst_vars;simp [ends])) (by simp [ends]) (by simp [ends])
 exact hr
def intsL:List Int:=[0,1,2, -1,5,7, -7,100,1000000000000, -1000000000000,999999999999,1000000]
def textsL:List ByteArray:=[⟨#[]⟩,⟨#[97]⟩,⟨#[98]⟩,⟨#[97,98]⟩,⟨#[48]⟩,⟨#[32]⟩,⟨#[97,98,99,100,101,102,103,104,105,106,107,108,109,110,111,112,113,114,115,116,117,118,119,120]⟩]
def mkI (n:Int):Val:=⟨1,n,ByteArray.empty⟩
def mkT (s:ByteArray):Val:=⟨3,0,s⟩
def y8 (k:Int):List Val:=
 default::if k=1 then intsL.map mkI else if k=2 then [zS 0,zS 1] else if k=3 then textsL.map mkT else []
theorem mvalsM_len {k:Int} (hk:k=1\/k=2\/k=3):3<=(y8 k).length/\(y8 k).length<=13:=by
 rcases hk with rfl | rfl | rfl<;>decide
theorem c_mvalues (k:Int):ACall Tryz.prog 54 [num k] [] (.d (.sl 3 (zd rV (y8 k)))) []:=by
 refine zn mixed ttok Tryz.func54 Tryz.ntmps54 Tryz.results54 ?_
 generalize hr:A.d (.sl 3 (zd rV (y8 k)))=R
 simp -implicitDefEqProofs only [argT,↓zb,push_cast,simprocAttr,tte]
 refine za (fun h1=>?_) fun h1=>?_
 ·have h1':k=1:=by simpa using h1
  refine zo mixed ttok 5 [] [] (by simp only [zC,ends,push_cast,simprocAttr];rfl) (by simp only [zH,zp,ends,push_cast,simprocAttr];rfl) intsL.length (fun _=>True) (fun n=>[(3,.vec 9 (n+1)),(4,.vec 13 intsL.length)]) (fun n=>[(9,.vec 71 3 (zd rV (default::(intsL.take n).map mkI)) 0),(13,.vec 2 1 (zd rI intsL) 0)]) trivial ?_ ?_
  ·exact Weak.keepL (by simp [cst,intsL,ends]) (by simp [cst,intsL,zd,rI,rV,default,ends]) (by simp [cst,ends])
  intro I hI n hn hi
  have hl0:intsL.length<=12:=by decide
  have hl2:(default::(intsL.take n).map mkI).length=n+1:=by simp;omega
  have hl3:((intsL.take n).map mkI).length=n:=by simp;omega
  simp -implicitDefEqProofs only [cst,↓zb,push_cast,simprocAttr,tte]
  refine za (fun h=>?_) fun h=>?_
  ·simp only [decide_eq_true_eq] at h
   have h':n<intsL.length:=by omega
   have hw:=zj h' (by omega)
   have ht:(intsL.take (n+1)).map mkI=(intsL.take n).map mkI++[⟨1,intsL.getD n default,ByteArray.empty⟩]:=by rw [z7 _ _ h',List.map_append];rfl
   refine ⟨⟨by omega,h⟩,h',⟨hl3.symm,by rw [hl3];omega⟩,?_⟩
   exact zq hI n rfl h' trivial (by simp [hw,ht,hl3,Nat.min_eq_left hn,zh,ends]) (by simp [hw,ht,hl3,Nat.min_eq_left hn,zh,ends]) (by simp [hw,ht,hl3,Nat.min_eq_left hn,zh,ends]) (by simp [hw,ht,hl3,Nat.min_eq_left hn,zh,ends])
  ·simp only [decide_eq_false_iff_not] at h
   obtain rfl:n=intsL.length:=by omega
   refine zu [3] rfl (by simp) (by simp [zc]<;>omega) ?_ (by first | rfl | simp [ends] | (subst_vars;simp [ends])) (by simp [ends]) (by simp [ends])
   rw [<-hr,y8,if_pos h1',List.take_length]
 have h1': ¬k=1:=by simpa using h1
 refine za (fun h2=>?_) fun h2=>?_
 ·have h2':k=2:=by simpa using h2
  refine ze [[]] [] (ww 0) ?_
  simp -implicitDefEqProofs only [↓zb,push_cast,simprocAttr,tte]
  refine ze [[]] [] (ww 1) ?_
  simp -implicitDefEqProofs only [↓zb,push_cast,simprocAttr,tte]
  refine zu [3] rfl (by simp) (by simp [zc]<;>omega) ?_ (by first | rfl | simp [ends] | (subst_vars;simp [ends])) (by simp [ends]) (by simp [ends])
  rw [<-hr,y8,if_neg h1',if_pos h2'];rfl
 have h2': ¬k=2:=by simpa using h2
 refine za (fun h3=>?_) fun h3=>?_
 ·have h3':k=3:=by simpa using h3
  refine zo mixed ttok 7 [] [] (by simp only [zC,ends,push_cast,simprocAttr];rfl) (by simp only [zH,zp,ends,push_cast,simprocAttr];rfl) textsL.length (fun _=>True) (fun n=>[(3,.vec 9 (n+1)),(6,.vec 37 textsL.length)]) (fun n=>[(9,.vec 71 3 (zd rV (default::(textsL.take n).map mkT)) 0),(37,.vec 9 1 (zd rS textsL) 0)]) trivial ?_ ?_
  ·exact Weak.keepL (by simp [cst,textsL,ends]) (by simp [cst,textsL,zd,rS,rV,default,ends]) (by simp [cst,ends])
  intro I hI n hn hi
  have hl0:textsL.length<=12:=by decide
  have hl2:(default::(textsL.take n).map mkT).length=n+1:=by simp;omega
  have hl3:((textsL.take n).map mkT).length=n:=by simp;omega
  simp -implicitDefEqProofs only [cst,↓zb,push_cast,simprocAttr,tte]
  refine za (fun h=>?_) fun h=>?_
  ·simp only [decide_eq_true_eq] at h
   have h':n<textsL.length:=by omega
   have hw:=zj h' (by omega)
   have ht:(textsL.take (n+1)).map mkT=(textsL.take n).map mkT++[⟨3,0,textsL.getD n default⟩]:=by rw [z7 _ _ h',List.map_append];rfl
   refine ⟨⟨by omega,h⟩,h',⟨hl3.symm,by rw [hl3];omega⟩,?_⟩
   exact zq hI n rfl h' trivial (by simp [hw,ht,hl3,Nat.min_eq_left hn,zh,ends]) (by simp [hw,ht,hl3,Nat.min_eq_left hn,zh,ends]) (by simp [hw,ht,hl3,Nat.min_eq_left hn,zh,ends]) (by simp [hw,ht,hl3,Nat.min_eq_left hn,zh,ends])
  ·simp only [decide_eq_false_iff_not] at h
   obtain rfl:n=textsL.length:=by omega
   refine zu [3] rfl (by simp) (by simp [zc]<;>omega) ?_ (by first | rfl | simp [ends] | (subst_vars;simp [ends])) (by simp [ends]) (by simp [ends])
   rw [<-hr,y8,if_neg h1',if_neg h2',if_pos h3',List.take_length]
 have h3': ¬k=3:=by simpa using h3
 refine zu [3] rfl (by simp) (by simp [zc]<;>omega) ?_ (by first | rfl | simp [ends] | (subst_vars;simp [ends])) (by simp [ends]) (by simp [ends])
 rw [<-hr,y8,if_neg h1',if_neg h2',if_neg h3'];rfl
end
section
open Go.Am
attribute [local simp, local push_cast] num boo str ints aV aTab zv aS aT aC yi
def qm (xs:List Int) (k:Int) (nl:Bool) (p:Nat):Val:=
 if nl=true then (y8 k).getD (drawn xs p (y8 k).length).toNat default else (y8 k).getD (1+drawn xs p ((y8 k).length-1)).toNat default
theorem c_mvalue {xs:List Int} {k:Int} {nl:Bool} {p:Nat} (hx:ub xs) (hk:k=1\/k=2\/k=3) (hp:p<=4000000000000000000):
 ACall Tryz.prog 55 [.ptr 1000 0,num k,boo nl] [(1000,yi xs p)] (aV (qm xs k nl p)) [(1000,yi xs (p+1))]:=by
 refine zn mixed ttok Tryz.func55 Tryz.ntmps55 Tryz.results55 ?_
 generalize hr:aV (qm xs k nl p)=R
 simp -implicitDefEqProofs only [argT,↓zb,push_cast,simprocAttr,tte]
 refine ze [[]] [] (c_mvalues k) ?_
 have hl:=mvalsM_len hk
 simp -implicitDefEqProofs only [↓zb,push_cast,simprocAttr,tte]
 refine za (fun h=>?_) fun h=>?_
 ·refine ze [[],[]] [(1000,1000)] (zX (n:=((y8 k).length:Int)) (p:=p) hx (by omega) (by omega) hp) ?_
  have hd:=zz xs p (n:=((y8 k).length:Int)) (by omega)
  simp -implicitDefEqProofs only [↓zb,push_cast,simprocAttr,tte]
  refine ⟨by omega,?_⟩
  refine zu [0,0,0] rfl (by simp) (by simp [zc]<;>omega) ?_ (by first | rfl | simp [ends] | (subst_vars;simp [ends])) (by simp [ends]) (by simp [ends])
  rw [<-hr,qm,if_pos h];rfl
 ·have e1:IntKind.i64.wrap (((y8 k).length:Int)-1)=((y8 k).length:Int)-1:=zw (by omega) (by omega)
  simp only [e1]
  refine ze [[],[]] [(1000,1000)] (zX (n:=((y8 k).length:Int)-1) (p:=p) hx (by omega) (by omega) hp) ?_
  have hd:=zz xs p (n:=((y8 k).length:Int)-1) (by omega)
  have e2:IntKind.i64.wrap (1+drawn xs p (((y8 k).length:Int)-1))=1+drawn xs p (((y8 k).length:Int)-1):=zw (by omega) (by omega)
  simp -implicitDefEqProofs only [↓zb,push_cast,simprocAttr,tte,e2]
  refine ⟨by omega,?_⟩
  refine zu [0,0,0] rfl (by simp) (by simp [zc]<;>omega) ?_ (by first | rfl | simp [ends] | (subst_vars;simp [ends])) (by simp [ends]) (by simp [ends])
  rw [<-hr,qm,if_neg (by rw [h];decide)];rfl
def kD (v:Val) (t:Int):Ex:=
 if v.kind=1 then .mk 2 0 v.num ByteArray.empty 0 [] else if v.kind=2 then .mk 3 0 v.num ByteArray.empty 0 [] else if v.kind=3 then .mk 4 0 0 v.text 0 [] else .mk 1 t 0 ByteArray.empty 0 []
theorem c_rconst (v:Val) (t:Int):ACall Tryz.prog 92 [aV v,num t] [] (aE (kD v t)) []:=by
 refine zn mixed ttok Tryz.func92 Tryz.ntmps92 Tryz.results92 ?_
 generalize hr:aE (kD v t)=R
 simp -implicitDefEqProofs only [argT,↓zb,push_cast,simprocAttr,tte]
 refine za (fun h=>?_) (fun h=>za (fun h2=>?_) (fun h2=>za (fun h3=>?_) (fun h3=>?_)))
 all_goals
  refine zu [0,0,0,0,0,6] rfl (by simp) (by simp [zc]<;>omega) ?_ (by first | rfl | simp [ends] | (subst_vars;simp [ends])) (by simp [ends]) (by simp [ends])
  rw [<-hr]
  simp only [beq_iff_eq,beq_eq_false_iff_ne] at *
  simp [kD, *,xx,Ex.op,Ex.type,Ex.num,Ex.text,Ex.col,Ex.kids,zd]
def jV (types:List Int) (typ:Int) (n:Nat):List Int:=((List.range n).filter fun c=>types.getD c 0=typ).map fun (c:Nat)=>(c:Int)
def cols (types:List Int) (typ:Int):List Int:=jV types typ types.length
theorem colsU_succ (types:List Int) (typ:Int) (n:Nat):jV types typ (n+1)=if types.getD n 0=typ then jV types typ n++[(n:Int)] else jV types typ n:=by
 simp only [jV,List.range_succ,List.filter_append,List.map_append]
 split<;>rename_i h
 ·rw [List.filter_cons_of_pos (by simpa using h)];simp
 ·rw [List.filter_cons_of_neg (by simpa using h)];simp
theorem colsU_length (types:List Int) (typ:Int) (n:Nat):(jV types typ n).length<=n:=by
 induction n with
 | zero=>simp [jV]
 | succ n ih=>rw [colsU_succ];split<;>(try simp only [List.length_append,List.length_cons,List.length_nil])<;>omega
def wn (xs types:List Int) (k:Int) (p:Nat):Ex×Nat:=
 if drawn xs p ((cols types k).length+2)<(cols types k).length then (.mk 5 0 0 ByteArray.empty ((cols types k).getD (drawn xs p ((cols types k).length+2)).toNat default) [],p+1)
 else (kD (qm xs k true (p+1)) k,p+2)
theorem c_mpick {xs types:List Int} {k:Int} {p:Nat} (hx:ub xs) (ht:types.length<=1000) (hk:k=1\/k=2\/k=3) (hp:p<=3000000000000000000):
 ACall Tryz.prog 48 [.ptr 1000 0,ints types,num k] [(1000,yi xs p)] (aE (wn xs types k p).1) [(1000,yi xs (wn xs types k p).2)]:=by
 refine zn mixed ttok Tryz.func48 Tryz.ntmps48 Tryz.results48 ?_
 generalize hr:aE (wn xs types k p).1=R
 generalize hr2:yi xs (wn xs types k p).2=R2
 simp -implicitDefEqProofs only [argT,↓zb,push_cast,simprocAttr,tte]
 refine zo mixed ttok 8 [0,1,2,6] [6,1000] (by simp only [zC,ends,push_cast,simprocAttr];rfl) (by simp only [zH,zp,ends,push_cast,simprocAttr];rfl) types.length (fun _=>True) (fun n=>[(7,.vec 500 (jV types k n).length)]) (fun n=>[(500,.vec 3 1 (zd rI (jV types k n)) 0)]) trivial ?_ ?_
 ·exact (Weak.nilL 7 500 3 1 rfl rfl).trans (Weak.keepL (by simp [cst,jV,ends]) (by simp [cst,jV,zd,ends]) (by simp [cst,ends]))
 intro I hI n hn hi
 have hl:=colsU_length types k n
 have hs:=colsU_succ types k n
 have hd0:(default:Int)=0:=rfl
 simp -implicitDefEqProofs only [cst,↓zb,push_cast,simprocAttr,tte]
 refine za (fun h=>?_) fun h=>?_
 ·simp only [decide_eq_true_eq] at h
  have h':n<types.length:=by omega
  have hw:=zj h' (by omega)
  refine ⟨(by first | omega | trivial | (refine ⟨?_,?_⟩<;>first | omega | trivial | (refine ⟨?_,?_⟩<;>first | omega | trivial | (refine ⟨?_,?_⟩<;>first | omega | trivial | rfl)))),?_⟩
  refine za (fun g=>?_) fun g=>?_
  ·rw [hd0] at g
   rw [if_pos (by simpa using g)] at hs
   refine ⟨by omega,?_⟩
   exact zq hI n rfl h' trivial (by simp [hw,hs,zh,ends]) (by simp [hw,hs,zh,ends]) (by simp [hw,hs,zh,ends]) (by simp [hw,hs,zh,ends])
  ·rw [hd0] at g
   rw [if_neg (by simpa using g)] at hs
   exact zq hI n rfl h' trivial (by simp [hw,hs,ends]) (by simp [hw,hs,ends]) (by simp [hw,hs,ends]) (by simp [hw,hs,ends])
 ·simp only [decide_eq_false_iff_not] at h
  obtain rfl:n=types.length:=by omega
  clear hI
  rw [show jV types k types.length=cols types k from rfl] at hl ⊢
  have e1:IntKind.i64.wrap (((cols types k).length:Int)+2)=((cols types k).length:Int)+2:=zw (by omega) (by omega)
  simp only [e1]
  refine ze [[],[]] [(1000,1000)] (zX (n:=((cols types k).length:Int)+2) (p:=p) hx (by omega) (by omega) (by omega)) ?_
  have hd:=zz xs p (n:=((cols types k).length:Int)+2) (by omega)
  simp -implicitDefEqProofs only [↓zb,push_cast,simprocAttr,tte]
  refine za (fun g=>?_) fun g=>?_
  ·have g':=of_decide_eq_true g
   refine ⟨⟨by omega,by omega⟩,by omega,?_⟩
   refine zu [0,0,0,0,0,6] rfl (by simp) (by simp) ?_ (by first | simp [ends] | (subst_vars;simp [ends])) ?_ (by simp [ends])
   ·rw [<-hr,wn,if_pos g'];simp [xx,Ex.op,Ex.type,Ex.num,Ex.text,Ex.col,Ex.kids,zd]
   ·rw [<-hr2,wn,if_pos g'];simp [ends]
  ·have g':=of_decide_eq_false g
   refine ze [[],[],[]] [(1000,1000)] (c_mvalue (k:=k) (nl:=true) (p:=p+1) hx hk (by omega)) ?_
   simp -implicitDefEqProofs only [↓zb,push_cast,simprocAttr,tte]
   refine ze [[],[]] [] (c_rconst (qm xs k true (p+1)) k) ?_
   simp -implicitDefEqProofs only [↓zb,push_cast,simprocAttr,tte]
   refine zu [0,0,0,0,0,6] rfl (by simp) (by simp) ?_ (by first | simp [ends] | (subst_vars;simp [ends])) ?_ (by simp [ends])
   ·rw [<-hr,wn,if_neg g'];simp [xx]
   ·rw [<-hr2,wn,if_neg g'];simp [ends]
end
section
open Go.Am
attribute [local simp, local push_cast] num boo str ints aV aTab zv aS aT aC yi
theorem bq31:((3:Int)==1)=false:=rfl
theorem bq21:((2:Int)==1)=false:=rfl
theorem bq23:((2:Int)==3)=false:=rfl
attribute [local simp, local push_cast] bq31 bq21 bq23
theorem ret_ren {p:Prop} {a:A} {t:List (Nat×A)} {o os':List (Nat×Ob)} {R:A} (x y:Nat) (hp:p) (hxy:x≠y) (hx:x<1000) (hy:lookO o y=none) (hr:a.ren (zU x y)=R)
 (hc:R.closed (inO os')=true) (ho:keepO (lookO (renO x y o)) (inO os') os') (hin:keepIn (inO os') (renO x y o)):retx (some (p,a)) ⟨t,o⟩ R os':=by
 refine ⟨hp,?_⟩
 have h1:=Weak.ren (t:=[(0,a)]) (o:=o) x y hxy hx hy
 have h2:Weak (SL.mk (renT x y [(0,a)]) (renO x y o)).st (SL.mk [(0,R)] os').st:=Weak.keepL ⟨⟨by simp only [renT,lookT,if_true];exact hr,hc⟩,trivial⟩ ho hin
 exact h1.trans h2
abbrev Kn (k:Int):Prop:=k=1\/k=2\/k=3
def bin (op:Int) (l:List Ex):Ex:= .mk op 0 0 ByteArray.empty 0 l
theorem wC (op:Int) (l:List Ex):aE (bin op l)= .agg [.d (.lit (.int .i64 op)),.d (.lit (.int .i64 0)),.d (.lit (.int .i64 0)),.d (.lit (.string ByteArray.empty)),.d (.lit (.int .i64 0)),.d (.sl 6 (zd rE l))]:=by
 simp [bin,xx,Ex.op,Ex.type,Ex.num,Ex.text,Ex.col,Ex.kids]
def twoM (f:Int->Nat->Ex×Nat) (x:Int) (p:Nat):List Ex×Nat:=([(f x p).1,(f x (f x p).2).1],(f x (f x p).2).2)
def yy (f:Int->Nat->Ex×Nat) (x:Int) (p:Nat):Nat->List Ex×Nat
 | 0=>([],p)
 | m+1=>((yy f x p m).1++[(f x (yy f x p m).2).1],(f x (yy f x p m).2).2)
def mkE (op:Int) (r:List Ex×Nat):Ex×Nat:=(bin op r.1,r.2)
def oneM (f:Int->Nat->Ex×Nat) (x:Int) (p:Nat):List Ex×Nat:=([(f x p).1],(f x p).2)
def yc (f:Int->Nat->Ex×Nat) (k:Int) (p:Nat):List Ex×Nat:=
 ([(f 2 p).1,(f k (f 2 p).2).1,(f k (f k (f 2 p).2).2).1],(f k (f k (f 2 p).2).2).2)
def inE (xs:List Int) (f:Int->Nat->Ex×Nat) (x:Int) (p:Nat):List Ex×Nat:=
 ((twoM f x p).1++(yy f x ((twoM f x p).2+1) (drawn xs (twoM f x p).2 3).toNat).1,(yy f x ((twoM f x p).2+1) (drawn xs (twoM f x p).2 3).toNat).2)
def kI (xs:List Int) (f:Int->Nat->Ex×Nat) (x:Int) (p:Nat):Ex×Nat:=
 if drawn xs p 6=0 then mkE (22+drawn xs (p+1) 2) (twoM f 2 (p+2))
 else if drawn xs p 6=1 then mkE (24+drawn xs (p+1) 2) (oneM f 2 (p+2))
 else if drawn xs p 6=2 then mkE 21 (oneM f x (p+1))
 else if drawn xs p 6=3 then mkE 28 (inE xs f x (p+1))
 else mkE (14+drawn xs (p+1) 7) (twoM f x (p+2))
def yf (xs types:List Int) (f:Int→Nat→Ex×Nat) (k:Int) (p:Nat):Ex×Nat:=
 if drawn xs p 4=0 then wn xs types k (p+1)
 else if drawn xs (p+1) 4=0 then mkE 26 (yc f k (p+2))
 else if drawn xs (p+1) 4=1 then mkE 27 (twoM f k (p+2))
 else if k=1 then
  if drawn xs (p+1) 4=2 then mkE (6+drawn xs (p+2) 5) (twoM f 1 (p+3))
  else if drawn xs (p+2) 2=0 then mkE 11 (oneM f 1 (p+3)) else mkE 13 (oneM f 3 (p+3))
 else if k=3 then mkE 12 (twoM f 3 (p+2))
 else kI xs f (1+drawn xs (p+2) 3) (p+3)
def xn (xs types:List Int):Nat->Int->Nat->Ex×Nat
 | 0,k,p=>wn xs types k p
 | 1,k,p=>wn xs types k p
 | d+2,k,p=>yf xs types (xn xs types (d+1)) k p
def CE (xs types:List Int) (D:Int) (f:Int->Nat->Ex×Nat) (w:Nat):Prop:=
 ∀(k:Int) (p:Nat),Kn k->p+w<=1000000000000000000->ACall Tryz.prog 19 [.ptr 1000 0,ints types,num k,num D] [(1000,yi xs p)] (aE (f k p).1) [(1000,yi xs (f k p).2)]
theorem c_two {xs types:List Int} {D:Int} {f:Int->Nat->Ex×Nat} {w p:Nat} {op x:Int} (hx:Kn x) (hD:2<=D) (hD2:D<=100) (H:CE xs types (D-1) f w) (hf: ∀k q,(f k q).2<=q+w) (hp:p+2 * w<=1000000000000000000):
 ACall Tryz.prog 49 [num op,num x,.ptr 1000 0,.ptr 1001 0,.ptr 1002 0] [(1000,.var [.ptr 1003 0]),(1001,.var [ints types]),(1002,.var [num D]),(1003,yi xs p)]
  (.agg [.d (.lit (.int .i64 op)),.d (.lit (.int .i64 0)),.d (.lit (.int .i64 0)),.d (.lit (.string ByteArray.empty)),.d (.lit (.int .i64 0)),.vec 1004 2])
  [(1000,.var [.ptr 1003 0]),(1001,.var [ints types]),(1002,.var [num D]),(1003,yi xs (twoM f x p).2),(1004,.vec 36 6 (zd rE (twoM f x p).1) 0)]:=by
 refine zn mixed ttok Tryz.func49 Tryz.ntmps49 Tryz.results49 ?_
 have hDw:IntKind.i64.wrap (D-1)=D-1:=zw (by omega) (by omega)
 have b1:=hf x p
 have b2:=hf x (f x p).2
 simp -implicitDefEqProofs only [argT,hDw,↓zb,push_cast,simprocAttr,tte]
 refine ze [[],[1],[],[]] [(1000,1003)] (H x p hx (by omega)) ?_
 simp -implicitDefEqProofs only [hDw,↓zb,push_cast,simprocAttr,tte]
 refine ze [[],[1],[],[]] [(1000,1003)] (H x (f x p).2 hx (by omega)) ?_
 simp -implicitDefEqProofs only [↓zb,push_cast,simprocAttr,tte]
 refine ⟨zf (by kernel_rfl),?_⟩
 refine ret_ren 23 1004 trivial (by decide) (by decide) rfl (by simp [A.ren,renL,zU]) (by simp [A.closed,closedL,inO,lookO]) ?_ ?_
 ·simp [twoM,renO,Ob.ren,A.ren,renL,zU,yM,ends]
 ·simp [renO,zU,ends]
theorem c_mexpr3 {xs types:List Int} {D:Int} {f:Int->Nat->Ex×Nat} {w p:Nat} (hx:ub xs) (ht:types.length<=1000) (hD:2<=D) (hD2:D<=100) (H:CE xs types (D-1) f w) (hf: ∀k q,(f k q).2<=q+w)
 (hp:p+(10+5 * w)<=1000000000000000000):
 ACall Tryz.prog 19 [.ptr 1000 0,ints types,num 3,num D] [(1000,yi xs p)] (aE (yf xs types f 3 p).1) [(1000,yi xs (yf xs types f 3 p).2)]:=by
 refine zn mixed ttok Tryz.func19 Tryz.ntmps19 Tryz.results19 ?_
 generalize hr:aE (yf xs types f 3 p).1=R
 generalize hr2:yi xs (yf xs types f 3 p).2=R2
 have hD1:decide (D<=1)=false:=decide_eq_false (by omega)
 have hDw:IntKind.i64.wrap (D-1)=D-1:=zw (by omega) (by omega)
 simp -implicitDefEqProofs only [argT,hD1,hDw,↓zb,push_cast,simprocAttr,tte]
 refine ze [[],[]] [(1000,1000)] (zX (n:=4) (p:=p) hx (by omega) (by omega) (by omega)) ?_
 simp -implicitDefEqProofs only [hD1,hDw,↓zb,push_cast,simprocAttr,tte]
 refine za (fun h0=>?_) fun h0=>?_
 ·have h0':drawn xs p 4=0:=by simpa using h0
  have hM:yf xs types f 3 p=wn xs types 3 (p+1):=by rw [yf,if_pos h0']
  refine ze [[],[1],[]] [(1000,1000)] (c_mpick (types:=types) (k:=3) (p:=p+1) hx ht (by decide) (by omega)) ?_
  simp -implicitDefEqProofs only [↓zb,push_cast,simprocAttr,tte]
  refine zu [0,0,0,0,0,6] rfl (by trivial) (by simp [zc,twoM,yy]) ?_ (by first | simp [ends] | (subst_vars;simp [ends])) ?_ (by simp [ends])
  ·rw [<-hr,hM];simp [xx]
  ·rw [<-hr2,hM];simp [ends]
 have h0': ¬drawn xs p 4=0:=by simpa using h0
 refine ze [[],[]] [(1000,1000)] (zX (n:=4) (p:=p+1) hx (by omega) (by omega) (by omega)) ?_
 simp -implicitDefEqProofs only [hDw,↓zb,push_cast,simprocAttr,tte]
 have hn:=zz xs (p+1) (n:=4) (by omega)
 refine za (fun h1=>?_) fun h1=>?_
 ·have h1':drawn xs (p+1) 4=0:=by simpa using h1
  have hM:yf xs types f 3 p=mkE 26 (yc f 3 (p+2)):=by rw [yf,if_neg h0',if_pos h1']
  have b1:=hf 2 (p+2)
  have b2:=hf 3 (f 2 (p+2)).2
  have b3:=hf 3 (f 3 (f 2 (p+2)).2).2
  refine ze [[],[1],[],[]] [(1000,1000)] (H 2 (p+2) (by decide) (by omega)) ?_
  simp -implicitDefEqProofs only [hDw,↓zb,push_cast,simprocAttr,tte]
  refine ze [[],[1],[],[]] [(1000,1000)] (H 3 (f 2 (p+2)).2 (by decide) (by omega)) ?_
  simp -implicitDefEqProofs only [hDw,↓zb,push_cast,simprocAttr,tte]
  refine ze [[],[1],[],[]] [(1000,1000)] (H 3 (f 3 (f 2 (p+2)).2).2 (by decide) (by omega)) ?_
  simp -implicitDefEqProofs only [↓zb,push_cast,simprocAttr,tte]
  refine ⟨zf (by kernel_rfl),?_⟩
  refine zu [0,0,0,0,0,6] rfl (by trivial) (by simp [zc,twoM,yy]) ?_ (by first | simp [ends] | (subst_vars;simp [ends])) ?_ (by simp [ends])
  ·rw [<-hr,hM];simp [mkE,wC,oneM,twoM,yc,inE,yM,zG,zY]
  ·rw [<-hr2,hM];simp [mkE,oneM,twoM,yc,inE,ends]
 have h1': ¬drawn xs (p+1) 4=0:=by simpa using h1
 refine za (fun h2=>?_) fun h2=>?_
 ·have h2':drawn xs (p+1) 4=1:=by simpa using h2
  have hM:yf xs types f 3 p=mkE 27 (twoM f 3 (p+2)):=by rw [yf,if_neg h0',if_neg h1',if_pos h2']
  refine ze [[],[],[],[],[]] [(1000,4),(1001,5),(1002,7),(1003,1000),(1004,600)] (c_two (op:=27) (x:=3) (p:=p+2) (by decide) hD hD2 H hf (by omega)) ?_
  simp -implicitDefEqProofs only [↓zb,push_cast,simprocAttr,tte]
  refine zu [0,0,0,0,0,6] rfl (by trivial) (by simp [zc,twoM,yy]) ?_ (by first | simp [ends] | (subst_vars;simp [ends])) ?_ (by simp [ends])
  ·rw [<-hr,hM];simp [mkE,wC,oneM,twoM,yc,inE,yM,zG,zY]
  ·rw [<-hr2,hM];simp [mkE,oneM,twoM,yc,inE,ends]
 have h2': ¬drawn xs (p+1) 4=1:=by simpa using h2
 have hM:yf xs types f 3 p=mkE 12 (twoM f 3 (p+2)):=by rw [yf,if_neg h0',if_neg h1',if_neg h2',if_neg (by decide),if_pos rfl]
 refine ze [[],[],[],[],[]] [(1000,4),(1001,5),(1002,7),(1003,1000),(1004,600)] (c_two (op:=12) (x:=3) (p:=p+2) (by decide) hD hD2 H hf (by omega)) ?_
 simp -implicitDefEqProofs only [↓zb,push_cast,simprocAttr,tte]
 refine zu [0,0,0,0,0,6] rfl (by trivial) (by simp [zc,twoM,yy]) ?_ (by first | simp [ends] | (subst_vars;simp [ends])) ?_ (by simp [ends])
 ·rw [<-hr,hM];simp [mkE,wC,oneM,twoM,yc,inE,yM,zG,zY]
 ·rw [<-hr2,hM];simp [mkE,oneM,twoM,yc,inE,ends]
end
section
open Go.Am
attribute [local simp, local push_cast] num boo str ints aV aTab zv aS aT aC yi bq31 bq21 bq23
theorem c_mexpr1 {xs types:List Int} {D:Int} {f:Int->Nat->Ex×Nat} {w p:Nat} (hx:ub xs) (ht:types.length<=1000) (hD:2<=D) (hD2:D<=100) (H:CE xs types (D-1) f w) (hf: ∀k q,(f k q).2<=q+w)
 (hp:p+(10+5 * w)<=1000000000000000000):
 ACall Tryz.prog 19 [.ptr 1000 0,ints types,num 1,num D] [(1000,yi xs p)] (aE (yf xs types f 1 p).1) [(1000,yi xs (yf xs types f 1 p).2)]:=by
 refine zn mixed ttok Tryz.func19 Tryz.ntmps19 Tryz.results19 ?_
 generalize hr:aE (yf xs types f 1 p).1=R
 generalize hr2:yi xs (yf xs types f 1 p).2=R2
 have hD1:decide (D<=1)=false:=decide_eq_false (by omega)
 have hDw:IntKind.i64.wrap (D-1)=D-1:=zw (by omega) (by omega)
 simp -implicitDefEqProofs only [argT,hD1,hDw,↓zb,push_cast,simprocAttr,tte]
 refine ze [[],[]] [(1000,1000)] (zX (n:=4) (p:=p) hx (by omega) (by omega) (by omega)) ?_
 simp -implicitDefEqProofs only [hD1,hDw,↓zb,push_cast,simprocAttr,tte]
 refine za (fun h0=>?_) fun h0=>?_
 ·have h0':drawn xs p 4=0:=by simpa using h0
  have hM:yf xs types f 1 p=wn xs types 1 (p+1):=by rw [yf,if_pos h0']
  refine ze [[],[1],[]] [(1000,1000)] (c_mpick (types:=types) (k:=1) (p:=p+1) hx ht (by decide) (by omega)) ?_
  simp -implicitDefEqProofs only [↓zb,push_cast,simprocAttr,tte]
  refine zu [0,0,0,0,0,6] rfl (by trivial) (by simp [zc,twoM,yy]) ?_ (by first | simp [ends] | (subst_vars;simp [ends])) ?_ (by simp [ends])
  ·rw [<-hr,hM];simp [xx]
  ·rw [<-hr2,hM];simp [ends]
 have h0': ¬drawn xs p 4=0:=by simpa using h0
 refine ze [[],[]] [(1000,1000)] (zX (n:=4) (p:=p+1) hx (by omega) (by omega) (by omega)) ?_
 simp -implicitDefEqProofs only [hDw,↓zb,push_cast,simprocAttr,tte]
 have hn:=zz xs (p+1) (n:=4) (by omega)
 refine za (fun h1=>?_) fun h1=>?_
 ·have h1':drawn xs (p+1) 4=0:=by simpa using h1
  have hM:yf xs types f 1 p=mkE 26 (yc f 1 (p+2)):=by rw [yf,if_neg h0',if_pos h1']
  have b1:=hf 2 (p+2)
  have b2:=hf 1 (f 2 (p+2)).2
  have b3:=hf 1 (f 1 (f 2 (p+2)).2).2
  refine ze [[],[1],[],[]] [(1000,1000)] (H 2 (p+2) (by decide) (by omega)) ?_
  simp -implicitDefEqProofs only [hDw,↓zb,push_cast,simprocAttr,tte]
  refine ze [[],[1],[],[]] [(1000,1000)] (H 1 (f 2 (p+2)).2 (by decide) (by omega)) ?_
  simp -implicitDefEqProofs only [hDw,↓zb,push_cast,simprocAttr,tte]
  refine ze [[],[1],[],[]] [(1000,1000)] (H 1 (f 1 (f 2 (p+2)).2).2 (by decide) (by omega)) ?_
  simp -implicitDefEqProofs only [↓zb,push_cast,simprocAttr,tte]
  refine ⟨zf (by kernel_rfl),?_⟩
  refine zu [0,0,0,0,0,6] rfl (by trivial) (by simp [zc,twoM,yy]) ?_ (by first | simp [ends] | (subst_vars;simp [ends])) ?_ (by simp [ends])
  ·rw [<-hr,hM];simp [mkE,wC,oneM,twoM,yc,inE,yM,zG,zY]
  ·rw [<-hr2,hM];simp [mkE,oneM,twoM,yc,inE,ends]
 have h1': ¬drawn xs (p+1) 4=0:=by simpa using h1
 refine za (fun h2=>?_) fun h2=>?_
 ·have h2':drawn xs (p+1) 4=1:=by simpa using h2
  have hM:yf xs types f 1 p=mkE 27 (twoM f 1 (p+2)):=by rw [yf,if_neg h0',if_neg h1',if_pos h2']
  refine ze [[],[],[],[],[]] [(1000,4),(1001,5),(1002,7),(1003,1000),(1004,600)] (c_two (op:=27) (x:=1) (p:=p+2) (by decide) hD hD2 H hf (by omega)) ?_
  simp -implicitDefEqProofs only [↓zb,push_cast,simprocAttr,tte]
  refine zu [0,0,0,0,0,6] rfl (by trivial) (by simp [zc,twoM,yy]) ?_ (by first | simp [ends] | (subst_vars;simp [ends])) ?_ (by simp [ends])
  ·rw [<-hr,hM];simp [mkE,wC,oneM,twoM,yc,inE,yM,zG,zY]
  ·rw [<-hr2,hM];simp [mkE,oneM,twoM,yc,inE,ends]
 have h2': ¬drawn xs (p+1) 4=1:=by simpa using h2
 have hS:yf xs types f 1 p=if drawn xs (p+1) 4=2 then mkE (6+drawn xs (p+2) 5) (twoM f 1 (p+3))
  else if drawn xs (p+2) 2=0 then mkE 11 (oneM f 1 (p+3)) else mkE 13 (oneM f 3 (p+3)):=by rw [yf,if_neg h0',if_neg h1',if_neg h2',if_pos rfl]
 refine za (fun h3=>?_) fun h3=>?_
 ·have h3':drawn xs (p+1) 4=2:=by simpa using h3
  have hM:yf xs types f 1 p=mkE (6+drawn xs (p+2) 5) (twoM f 1 (p+3)):=by rw [hS,if_pos h3']
  refine ze [[],[]] [(1000,1000)] (zX (n:=5) (p:=p+2) hx (by omega) (by omega) (by omega)) ?_
  have h5:=zz xs (p+2) (n:=5) (by omega)
  have w6:IntKind.i64.wrap (6+drawn xs (p+2) 5)=6+drawn xs (p+2) 5:=zw (by omega) (by omega)
  simp -implicitDefEqProofs only [w6,↓zb,push_cast,simprocAttr,tte]
  refine ze [[],[],[],[],[]] [(1000,4),(1001,5),(1002,7),(1003,1000),(1004,600)] (c_two (op:=6+drawn xs (p+2) 5) (x:=1) (p:=p+3) (by decide) hD hD2 H hf (by omega)) ?_
  simp -implicitDefEqProofs only [↓zb,push_cast,simprocAttr,tte]
  refine zu [0,0,0,0,0,6] rfl (by trivial) (by simp [zc,twoM,yy]) ?_ (by first | simp [ends] | (subst_vars;simp [ends])) ?_ (by simp [ends])
  ·rw [<-hr,hM];simp [mkE,wC,oneM,twoM,yc,inE,yM,zG,zY]
  ·rw [<-hr2,hM];simp [mkE,oneM,twoM,yc,inE,ends]
 have h3': ¬drawn xs (p+1) 4=2:=by simpa using h3
 refine ze [[],[]] [(1000,1000)] (zX (n:=2) (p:=p+2) hx (by omega) (by omega) (by omega)) ?_
 simp -implicitDefEqProofs only [hDw,↓zb,push_cast,simprocAttr,tte]
 refine za (fun h4=>?_) fun h4=>?_
 ·have h4':drawn xs (p+2) 2=0:=by simpa using h4
  have hM:yf xs types f 1 p=mkE 11 (oneM f 1 (p+3)):=by rw [hS,if_neg h3',if_pos h4']
  refine ze [[],[1],[],[]] [(1000,1000)] (H 1 (p+3) (by decide) (by omega)) ?_
  simp -implicitDefEqProofs only [↓zb,push_cast,simprocAttr,tte]
  refine zu [0,0,0,0,0,6] rfl (by trivial) (by simp [zc,twoM,yy]) ?_ (by first | simp [ends] | (subst_vars;simp [ends])) ?_ (by simp [ends])
  ·rw [<-hr,hM];simp [mkE,wC,oneM,twoM,yc,inE,yM,zG,zY]
  ·rw [<-hr2,hM];simp [mkE,oneM,twoM,yc,inE,ends]
 have h4': ¬drawn xs (p+2) 2=0:=by simpa using h4
 have hM:yf xs types f 1 p=mkE 13 (oneM f 3 (p+3)):=by rw [hS,if_neg h3',if_neg h4']
 refine ze [[],[1],[],[]] [(1000,1000)] (H 3 (p+3) (by decide) (by omega)) ?_
 simp -implicitDefEqProofs only [↓zb,push_cast,simprocAttr,tte]
 refine zu [0,0,0,0,0,6] rfl (by trivial) (by simp [zc,twoM,yy]) ?_ (by first | simp [ends] | (subst_vars;simp [ends])) ?_ (by simp [ends])
 ·rw [<-hr,hM];simp [mkE,wC,oneM,twoM,yc,inE,yM,zG,zY]
 ·rw [<-hr2,hM];simp [mkE,oneM,twoM,yc,inE,ends]
end
section
open Go.Am
attribute [local simp, local push_cast] num boo str ints aV aTab zv aS aT aC yi bq31 bq21 bq23
theorem moreM_len (f:Int->Nat->Ex×Nat) (x:Int) (p:Nat): ∀m,(yy f x p m).1.length=m
 | 0=>rfl
 | m+1=>by simp [yy,moreM_len f x p m]
theorem moreM_le {f:Int->Nat->Ex×Nat} {w:Nat} (hf: ∀k q,(f k q).2<=q+w) (x:Int) (p:Nat): ∀m,(yy f x p m).2<=p+m * w
 | 0=>by simp [yy]
 | m+1=>by
   have h1:=moreM_le hf x p m
   have h2:=hf x (yy f x p m).2
   simp only [yy,Nat.add_mul];omega
theorem c_mexpr2 {xs types:List Int} {D:Int} {f:Int->Nat->Ex×Nat} {w p:Nat} (hx:ub xs) (ht:types.length<=1000) (hD:2<=D) (hD2:D<=100) (H:CE xs types (D-1) f w) (hf: ∀k q,(f k q).2<=q+w)
 (hp:p+(10+5 * w)<=1000000000000000000):
 ACall Tryz.prog 19 [.ptr 1000 0,ints types,num 2,num D] [(1000,yi xs p)] (aE (yf xs types f 2 p).1) [(1000,yi xs (yf xs types f 2 p).2)]:=by
 refine zn mixed ttok Tryz.func19 Tryz.ntmps19 Tryz.results19 ?_
 generalize hr:aE (yf xs types f 2 p).1=R
 generalize hr2:yi xs (yf xs types f 2 p).2=R2
 have hD1:decide (D<=1)=false:=decide_eq_false (by omega)
 have hDw:IntKind.i64.wrap (D-1)=D-1:=zw (by omega) (by omega)
 simp -implicitDefEqProofs only [argT,hD1,hDw,↓zb,push_cast,simprocAttr,tte]
 refine ze [[],[]] [(1000,1000)] (zX (n:=4) (p:=p) hx (by omega) (by omega) (by omega)) ?_
 simp -implicitDefEqProofs only [hD1,hDw,↓zb,push_cast,simprocAttr,tte]
 refine za (fun h0=>?_) fun h0=>?_
 ·have h0':drawn xs p 4=0:=by simpa using h0
  have hM:yf xs types f 2 p=wn xs types 2 (p+1):=by rw [yf,if_pos h0']
  refine ze [[],[1],[]] [(1000,1000)] (c_mpick (types:=types) (k:=2) (p:=p+1) hx ht (by decide) (by omega)) ?_
  simp -implicitDefEqProofs only [↓zb,push_cast,simprocAttr,tte]
  refine zu [0,0,0,0,0,6] rfl (by trivial) (by simp [zc,twoM,yy]) ?_ (by first | simp [ends] | (subst_vars;simp [ends])) ?_ (by simp [ends])
  ·rw [<-hr,hM];simp [xx]
  ·rw [<-hr2,hM];simp [ends]
 have h0': ¬drawn xs p 4=0:=by simpa using h0
 refine ze [[],[]] [(1000,1000)] (zX (n:=4) (p:=p+1) hx (by omega) (by omega) (by omega)) ?_
 simp -implicitDefEqProofs only [hDw,↓zb,push_cast,simprocAttr,tte]
 have hn:=zz xs (p+1) (n:=4) (by omega)
 refine za (fun h1=>?_) fun h1=>?_
 ·have h1':drawn xs (p+1) 4=0:=by simpa using h1
  have hM:yf xs types f 2 p=mkE 26 (yc f 2 (p+2)):=by rw [yf,if_neg h0',if_pos h1']
  have b1:=hf 2 (p+2)
  have b2:=hf 2 (f 2 (p+2)).2
  have b3:=hf 2 (f 2 (f 2 (p+2)).2).2
  refine ze [[],[1],[],[]] [(1000,1000)] (H 2 (p+2) (by decide) (by omega)) ?_
  simp -implicitDefEqProofs only [hDw,↓zb,push_cast,simprocAttr,tte]
  refine ze [[],[1],[],[]] [(1000,1000)] (H 2 (f 2 (p+2)).2 (by decide) (by omega)) ?_
  simp -implicitDefEqProofs only [hDw,↓zb,push_cast,simprocAttr,tte]
  refine ze [[],[1],[],[]] [(1000,1000)] (H 2 (f 2 (f 2 (p+2)).2).2 (by decide) (by omega)) ?_
  simp -implicitDefEqProofs only [↓zb,push_cast,simprocAttr,tte]
  refine ⟨zf (by kernel_rfl),?_⟩
  refine zu [0,0,0,0,0,6] rfl (by trivial) (by simp [zc,twoM,yy]) ?_ (by first | simp [ends] | (subst_vars;simp [ends])) ?_ (by simp [ends])
  ·rw [<-hr,hM];simp [mkE,wC,oneM,twoM,yc,inE,yM,zG,zY]
  ·rw [<-hr2,hM];simp [mkE,oneM,twoM,yc,inE,ends]
 have h1': ¬drawn xs (p+1) 4=0:=by simpa using h1
 refine za (fun h2=>?_) fun h2=>?_
 ·have h2':drawn xs (p+1) 4=1:=by simpa using h2
  have hM:yf xs types f 2 p=mkE 27 (twoM f 2 (p+2)):=by rw [yf,if_neg h0',if_neg h1',if_pos h2']
  refine ze [[],[],[],[],[]] [(1000,4),(1001,5),(1002,7),(1003,1000),(1004,600)] (c_two (op:=27) (x:=2) (p:=p+2) (by decide) hD hD2 H hf (by omega)) ?_
  simp -implicitDefEqProofs only [↓zb,push_cast,simprocAttr,tte]
  refine zu [0,0,0,0,0,6] rfl (by trivial) (by simp [zc,twoM,yy]) ?_ (by first | simp [ends] | (subst_vars;simp [ends])) ?_ (by simp [ends])
  ·rw [<-hr,hM];simp [mkE,wC,oneM,twoM,yc,inE,yM,zG,zY]
  ·rw [<-hr2,hM];simp [mkE,oneM,twoM,yc,inE,ends]
 have h2': ¬drawn xs (p+1) 4=1:=by simpa using h2
 have hS:yf xs types f 2 p=kI xs f (1+drawn xs (p+2) 3) (p+3):=by rw [yf,if_neg h0',if_neg h1',if_neg h2',if_neg (by decide),if_neg (by decide)]
 refine ze [[],[]] [(1000,1000)] (zX (n:=3) (p:=p+2) hx (by omega) (by omega) (by omega)) ?_
 have h3r:=zz xs (p+2) (n:=3) (by omega)
 have w1:IntKind.i64.wrap (1+drawn xs (p+2) 3)=1+drawn xs (p+2) 3:=zw (by omega) (by omega)
 simp -implicitDefEqProofs only [w1,↓zb,push_cast,simprocAttr,tte]
 generalize hxx:1+drawn xs (p+2) 3=x at hS
 have hKx:Kn x:=by unfold Kn;omega
 refine ze [[],[]] [(1000,1000)] (zX (n:=6) (p:=p+3) hx (by omega) (by omega) (by omega)) ?_
 simp -implicitDefEqProofs only [hDw,↓zb,push_cast,simprocAttr,tte]
 refine za (fun h3=>?_) fun h3=>?_
 ·have h3':drawn xs (p+3) 6=0:=by simpa using h3
  have hM:yf xs types f 2 p=mkE (22+drawn xs (p+4) 2) (twoM f 2 (p+5)):=by rw [hS,kI,if_pos h3']
  refine ze [[],[]] [(1000,1000)] (zX (n:=2) (p:=p+4) hx (by omega) (by omega) (by omega)) ?_
  have h5:=zz xs (p+4) (n:=2) (by omega)
  have w6:IntKind.i64.wrap (22+drawn xs (p+4) 2)=22+drawn xs (p+4) 2:=zw (by omega) (by omega)
  simp -implicitDefEqProofs only [w6,↓zb,push_cast,simprocAttr,tte]
  refine ze [[],[],[],[],[]] [(1000,4),(1001,5),(1002,7),(1003,1000),(1004,600)] (c_two (op:=22+drawn xs (p+4) 2) (x:=2) (p:=p+5) (by decide) hD hD2 H hf (by omega)) ?_
  simp -implicitDefEqProofs only [↓zb,push_cast,simprocAttr,tte]
  refine zu [0,0,0,0,0,6] rfl (by trivial) (by simp [zc,twoM,yy]) ?_ (by first | simp [ends] | (subst_vars;simp [ends])) ?_ (by simp [ends])
  ·rw [<-hr,hM];simp [mkE,wC,oneM,twoM,yc,inE,yM,zG,zY]
  ·rw [<-hr2,hM];simp [mkE,oneM,twoM,yc,inE,ends]
 have h3': ¬drawn xs (p+3) 6=0:=by simpa using h3
 refine za (fun h4=>?_) fun h4=>?_
 ·have h4':drawn xs (p+3) 6=1:=by simpa using h4
  have hM:yf xs types f 2 p=mkE (24+drawn xs (p+4) 2) (oneM f 2 (p+5)):=by rw [hS,kI,if_neg h3',if_pos h4']
  refine ze [[],[]] [(1000,1000)] (zX (n:=2) (p:=p+4) hx (by omega) (by omega) (by omega)) ?_
  have h5:=zz xs (p+4) (n:=2) (by omega)
  obtain h6 | h6:drawn xs (p+4) 2=0\/drawn xs (p+4) 2=1:=by omega
  all_goals
   simp -implicitDefEqProofs only [hDw,h6,↓zb,push_cast,simprocAttr,tte]
   refine ze [[],[1],[],[]] [(1000,1000)] (H 2 (p+5) (by decide) (by omega)) ?_
   simp -implicitDefEqProofs only [↓zb,push_cast,simprocAttr,tte]
   refine ⟨zf (by kernel_rfl),?_⟩
   rw [h6] at hM
   refine zu [0,0,0,0,0,6] rfl (by trivial) (by simp [zc,twoM,yy]) ?_ (by first | simp [ends] | (subst_vars;simp [ends])) ?_ (by simp [ends])
   ·rw [<-hr,hM];simp [mkE,wC,oneM,twoM,yc,inE,yM,zG,zY]
   ·rw [<-hr2,hM];simp [mkE,oneM,twoM,yc,inE,ends]
 have h4': ¬drawn xs (p+3) 6=1:=by simpa using h4
 refine za (fun h5=>?_) fun h5=>?_
 ·have h5':drawn xs (p+3) 6=2:=by simpa using h5
  have hM:yf xs types f 2 p=mkE 21 (oneM f x (p+4)):=by rw [hS,kI,if_neg h3',if_neg h4',if_pos h5']
  refine ze [[],[1],[],[]] [(1000,1000)] (H x (p+4) hKx (by omega)) ?_
  simp -implicitDefEqProofs only [↓zb,push_cast,simprocAttr,tte]
  refine zu [0,0,0,0,0,6] rfl (by trivial) (by simp [zc,twoM,yy]) ?_ (by first | simp [ends] | (subst_vars;simp [ends])) ?_ (by simp [ends])
  ·rw [<-hr,hM];simp [mkE,wC,oneM,twoM,yc,inE,yM,zG,zY]
  ·rw [<-hr2,hM];simp [mkE,oneM,twoM,yc,inE,ends]
 have h5': ¬drawn xs (p+3) 6=2:=by simpa using h5
 refine za (fun h6=>?_) fun h6=>?_
 ·have h6':drawn xs (p+3) 6=3:=by simpa using h6
  have hM:yf xs types f 2 p=mkE 28 (inE xs f x (p+4)):=by rw [hS,kI,if_neg h3',if_neg h4',if_neg h5',if_pos h6']
  refine ze [[],[],[],[],[]] [(1000,4),(1001,5),(1002,7),(1003,1000),(1004,600)] (c_two (op:=28) (x:=x) (p:=p+4) hKx hD hD2 H hf (by omega)) ?_
  have b0:(twoM f x (p+4)).2<=p+4+2 * w:=by have:=hf x (p+4);have:=hf x (f x (p+4)).2;simp only [twoM];omega
  simp -implicitDefEqProofs only [↓zb,push_cast,simprocAttr,tte]
  have hI0:inE xs f x (p+4)=((twoM f x (p+4)).1++(yy f x ((twoM f x (p+4)).2+1) (drawn xs (twoM f x (p+4)).2 3).toNat).1,(yy f x ((twoM f x (p+4)).2+1) (drawn xs (twoM f x (p+4)).2 3).toNat).2):=rfl
  have hl2:(twoM f x (p+4)).1.length=2:=rfl
  generalize (twoM f x (p+4)).2=q at b0 hI0 ⊢
  generalize (twoM f x (p+4)).1=l2 at hl2 hI0 ⊢
  refine ze [[],[]] [(1000,1000)] (zX (n:=3) (p:=q) hx (by omega) (by omega) (by omega)) ?_
  have h9:=zz xs q (n:=3) (by omega)
  obtain ⟨N,hN⟩: ∃N:Nat,drawn xs q 3=N:=⟨(drawn xs q 3).toNat,by omega⟩
  have hN2:N<=2:=by omega
  simp -implicitDefEqProofs only [hN,↓zb,push_cast,simprocAttr,tte]
  rw [hN,Int.toNat_natCast] at hI0
  refine zI mixed ttok (fun m:Nat=>(⟨[(16,.d (.lit (.int .i64 ((N:Int)-(m:Int))))),(13,.d (.lit (.int .i64 x))),(15,.ptr 15 0),(4,.ptr 4 0),(5,.ptr 5 0),(7,.ptr 7 0),(8,.ptr 8 0)],
   [(4,.var [.ptr 1000 0]),(5,.var [ints types]),(7,.var [num D]),(8,.var [.d (.lit (.int .i64 0)),.d (.lit (.int .i64 0)),.d (.lit (.int .i64 0)),.d (.lit (.string ByteArray.empty)),.d (.lit (.int .i64 0)),.snil]),
    (15,.var [.d (.lit (.int .i64 28)),.d (.lit (.int .i64 0)),.d (.lit (.int .i64 0)),.d (.lit (.string ByteArray.empty)),.d (.lit (.int .i64 0)),.vec 600 (2+m)]),
    (600,.vec 36 6 (zd rE (l2++(yy f x (q+1) m).1)) 0),(1000,yi xs (yy f x (q+1) m).2)]⟩:SL)) (fun m=>N-m) (fun m=>m<=N) 0 (Nat.zero_le _) ?_ ?_
  ·exact Weak.keepL (by simp [ends]) (by simp [yy,ends]) (by simp [ends])
  intro I hI m hm
  have bm:=moreM_le hf x (q+1) m
  have hml:=moreM_len f x (q+1) m
  have hmw:m * w<=2 * w:=Nat.mul_le_mul_right _ (by omega)
  have hlen:(l2++(yy f x (q+1) m).1).length=2+m:=by simp [hl2,hml]
  simp -implicitDefEqProofs only [hDw,↓zb,push_cast,simprocAttr,tte]
  refine za (fun k1=>?_) fun k1=>?_
  ·have k1':m<N:=by have:=of_decide_eq_true k1;omega
   refine ze [[],[1],[],[]] [(1000,1000)] (H x (yy f x (q+1) m).2 hKx (by omega)) ?_
   simp -implicitDefEqProofs only [↓zb,push_cast,simprocAttr,tte]
   have hw:IntKind.i64.wrap ((N:Int)-(m:Int)-1)=(N:Int)-((m+1:Nat):Int):=by rw [zw (by omega) (by omega)];omega
   refine ⟨⟨by omega,by omega⟩,zf (by kernel_rfl),?_⟩
   refine zm hI (m+1) k1' (by show N-(m+1)<N-m;omega) (Weak.keepL (by simp [hw,ends]) ?_ (by simp [ends]))
   simp [yy,hml,hl2,yM,zh,zG,zY,Nat.add_assoc,ends]
  ·have k1':m=N:=by have:=of_decide_eq_false k1;omega
   subst k1'
   refine zu [0,0,0,0,0,6] rfl (by trivial) (by simp [zc,hml,hl2]) ?_ (by first | simp [ends] | (subst_vars;simp [ends])) ?_ (by simp [ends])
   ·rw [<-hr,hM,hI0];simp [mkE,wC]
   ·rw [<-hr2,hM,hI0];simp [mkE,ends]
 have h6': ¬drawn xs (p+3) 6=3:=by simpa using h6
 have hM:yf xs types f 2 p=mkE (14+drawn xs (p+4) 7) (twoM f x (p+5)):=by rw [hS,kI,if_neg h3',if_neg h4',if_neg h5',if_neg h6']
 refine ze [[],[]] [(1000,1000)] (zX (n:=7) (p:=p+4) hx (by omega) (by omega) (by omega)) ?_
 have h7:=zz xs (p+4) (n:=7) (by omega)
 have w6:IntKind.i64.wrap (14+drawn xs (p+4) 7)=14+drawn xs (p+4) 7:=zw (by omega) (by omega)
 simp -implicitDefEqProofs only [w6,↓zb,push_cast,simprocAttr,tte]
 refine ze [[],[],[],[],[]] [(1000,4),(1001,5),(1002,7),(1003,1000),(1004,600)] (c_two (op:=14+drawn xs (p+4) 7) (x:=x) (p:=p+5) hKx hD hD2 H hf (by omega)) ?_
 simp -implicitDefEqProofs only [↓zb,push_cast,simprocAttr,tte]
 refine zu [0,0,0,0,0,6] rfl (by trivial) (by simp [zc,twoM,yy]) ?_ (by first | simp [ends] | (subst_vars;simp [ends])) ?_ (by simp [ends])
 ·rw [<-hr,hM];simp [mkE,wC,oneM,twoM,yc,inE,yM,zG,zY]
 ·rw [<-hr2,hM];simp [mkE,oneM,twoM,yc,inE,ends]
end
section
open Go.Am
attribute [local simp, local push_cast] num boo str ints aV aTab zv aS aT aC yi bq31 bq21 bq23
def wE:Nat->Nat
 | 0=>2
 | 1=>2
 | d+2=>10+5 * wE (d+1)
theorem pickE_le (xs types:List Int) (k:Int) (p:Nat):(wn xs types k p).2<=p+2:=by unfold wn;split<;>simp
theorem stepM_le {xs types:List Int} {f:Int->Nat->Ex×Nat} {w:Nat} (hw:2<=w) (hf: ∀k q,(f k q).2<=q+w) (k:Int) (p:Nat):(yf xs types f k p).2<=p+(10+5 * w):=by
 have h1: ∀x q,(twoM f x q).2<=q+2 * w:=fun x q=>by have:=hf x q;have:=hf x (f x q).2;simp only [twoM];omega
 have h2: ∀x q,(oneM f x q).2<=q+w:=fun x q=>by have:=hf x q;simp only [oneM];omega
 have h3: ∀x q,(yc f x q).2<=q+3 * w:=fun x q=>by have:=hf 2 q;have:=hf x (f 2 q).2;have:=hf x (f x (f 2 q).2).2;simp only [yc];omega
 have h4: ∀x q,(inE xs f x q).2<=q+1+4 * w:=fun x q=>by
  have a1:=h1 x q
  have a2:=moreM_le hf x ((twoM f x q).2+1) (drawn xs (twoM f x q).2 3).toNat
  have a3:=zz xs (twoM f x q).2 (n:=3) (by omega)
  have a4:(drawn xs (twoM f x q).2 3).toNat * w<=2 * w:=Nat.mul_le_mul_right _ (by omega)
  simp only [inE];omega
 have h5: ∀x q,(kI xs f x q).2<=q+2+4 * w:=fun x q=>by
  have b1:=h1 2 (q+2);have b2:=h2 2 (q+2);have b3:=h2 x (q+1);have b4:=h4 x (q+1);have b5:=h1 x (q+2)
  unfold kI;repeat' split
  all_goals simp only [mkE];omega
 have c1:=pickE_le xs types k (p+1)
 have c2:=h3 k (p+2);have c3:=h1 k (p+2);have c4:=h1 1 (p+3);have c5:=h2 1 (p+3);have c6:=h2 3 (p+3);have c7:=h1 3 (p+2);have c8:=h5 (1+drawn xs (p+2) 3) (p+3)
 unfold yf;repeat' split
 all_goals (try simp only [mkE]);omega
theorem wE_two: ∀d,2<=wE d
 | 0=>by simp [wE]
 | 1=>by simp [wE]
 | d+2=>by simp only [wE];omega
theorem kw (xs types:List Int): ∀(d:Nat) (k:Int) (p:Nat),(xn xs types d k p).2<=p+wE d
 | 0,k,p=>pickE_le xs types k p
 | 1,k,p=>pickE_le xs types k p
 | d+2,k,p=>stepM_le (wE_two _) (kw xs types (d+1)) k p
theorem gz {xs types:List Int} (hx:ub xs) (ht:types.length<=1000): ∀d:Nat,d<=90->CE xs types (d+1:Nat) (xn xs types (d+1)) (wE (d+1))
 | 0,_=>by
   intro k p hk hp
   have hp:p+2<=1000000000000000000:=hp
   refine zn mixed ttok Tryz.func19 Tryz.ntmps19 Tryz.results19 ?_
   generalize hr:aE (xn xs types 1 k p).1=R
   generalize hr2:yi xs (xn xs types 1 k p).2=R2
   have hD1:decide (((0+1:Nat):Int)<=1)=true:=rfl
   have hD1':decide ((0+1:Int)<=1)=true:=rfl
   simp -implicitDefEqProofs only [argT,hD1,hD1',↓zb,push_cast,simprocAttr,tte]
   refine ze [[],[1],[]] [(1000,1000)] (c_mpick (types:=types) (k:=k) (p:=p) hx ht hk (by omega)) ?_
   simp -implicitDefEqProofs only [↓zb,push_cast,simprocAttr,tte]
   have hM:xn xs types 1 k p=wn xs types k p:=rfl
   refine zu [0,0,0,0,0,6] rfl (by simp) (by simp) ?_ (by first | simp [ends] | (subst_vars;simp [ends])) ?_ (by simp [ends])
   ·rw [<-hr,hM];simp [xx]
   ·rw [<-hr2,hM];simp [ends]
 | d+1,hd=>by
   intro k p hk hp
   have ih:=gz hx ht d (by omega)
   rw [show ((d+1:Nat):Int)=((d+1+1:Nat):Int)-1 from by omega] at ih
   have hp:p+(10+5 * wE (d+1))<=1000000000000000000:=hp
   rcases hk with rfl | rfl | rfl
   ·exact c_mexpr1 hx ht (by omega) (by omega) ih (kw xs types (d+1)) hp
   ·exact c_mexpr2 hx ht (by omega) (by omega) ih (kw xs types (d+1)) hp
   ·exact c_mexpr3 hx ht (by omega) (by omega) ih (kw xs types (d+1)) hp
end
section
open Go.Am
attribute [local simp, local push_cast] num boo str ints aV aTab zv aS aT aC yi bq31 bq21 bq23 rIs zD
abbrev nT:ByteArray:=⟨#[116]⟩
abbrev nC:ByteArray:=⟨#[99]⟩
abbrev nF:ByteArray:=⟨#[102]⟩
abbrev nId:ByteArray:=⟨#[105,100]⟩
def mcol (xs:List Int) (p c:Nat):Col:=⟨yO nC c,1+drawn xs (p+2 * c) 3,drawn xs (p+2 * c+1) 2==0⟩
def vl (xs:List Int) (p c:Nat):List Col:=⟨nId,1,false⟩::(List.range c).map (mcol xs p)
theorem mcols_succ (xs:List Int) (p c:Nat):vl xs p (c+1)=vl xs p c++[mcol xs p c]:=by simp [vl,List.range_succ]
theorem kR (xs:List Int) (p c:Nat):(vl xs p c).length=c+1:=by simp [vl]
def fcol (xs:List Int) (k q:Nat):Col:=⟨yO nF k,1,drawn xs (q+1) 4==0⟩
def ffk (xs:List Int) (i:Nat) (cols:List Col) (q:Nat):Fk:=⟨[(cols.length:Int)],yO nT (drawn xs (q+2) i)⟩
def forM (xs:List Int) (i:Nat):Nat→Nat→List Col→List Fk→Nat→List Col×List Fk×Nat
 | 0,_,cols,fs,q=>(cols,fs,q)
 | m+1,k,cols,fs,q=>
   if i=0 then (cols,fs,q) else if drawn xs q 3>0 then forM xs i m (k+1) (cols++[fcol xs k q]) (fs++[ffk xs i cols q]) (q+3) else (cols,fs,q+1)
def uniM (xs:List Int) (m:Int) (q:Nat):List (List Int)×Nat:=if drawn xs q 4=0 then ([[1+drawn xs (q+1) m]],q+2) else ([],q+1)
def chkM (xs:List Int) (cols:List Col) (q:Nat):List Ex×Nat:=
 if drawn xs q 4=0 then ([(xn xs (cols.map (·.type)) 3 2 (q+1)).1],(xn xs (cols.map (·.type)) 3 2 (q+1)).2) else ([],q+1)
def yY (xs:List Int) (i:Nat) (m:Int) (f:List Col×List Fk×Nat):Tbl×Nat:=
 (⟨yO nT i,f.1,[0],(uniM xs m f.2.2).1,f.2.1,(chkM xs f.1 (uniM xs m f.2.2).2).1⟩,(chkM xs f.1 (uniM xs m f.2.2).2).2)
def tblM (xs:List Int) (i p:Nat):Tbl×Nat:=
 yY xs i (1+drawn xs p 3) (forM xs i 2 0 (vl xs (p+1) (1+drawn xs p 3).toNat) [] (p+1+2 * (1+drawn xs p 3).toNat))
def yP (xs:List Int) (p:Nat):Nat->List Tbl×Nat
 | 0=>([],p+1)
 | n+1=>((yP xs p n).1++[(tblM xs n (yP xs p n).2).1],(tblM xs n (yP xs p n).2).2)
def xl (xs:List Int) (p:Nat):List Tbl×Nat:=yP xs p (1+drawn xs p 3).toNat
theorem mtabs_len (xs:List Int) (p:Nat): ∀n,(yP xs p n).1.length=n
 | 0=>rfl
 | n+1=>by simp [yP,mtabs_len xs p n]
structure ForOk (m k:Nat) (cols:List Col) (fs:List Fk):Prop where
 c:cols.length<=m+1+k
 f:fs.length=k
theorem forM_q (xs:List Int) (i:Nat): ∀(n k:Nat) (cols:List Col) (fs:List Fk) (q:Nat),(forM xs i n k cols fs q).2.2<=q+3 * n
 | 0,_,_,_,q=>by simp [forM]
 | n+1,k,cols,fs,q=>by
   simp only [forM]
   split
   ·simp
   ·split
    ·have:=forM_q xs i n (k+1) (cols++[fcol xs k q]) (fs++[ffk xs i cols q]) (q+3);omega
    ·simp only;omega
theorem uniM_q (xs:List Int) (m:Int) (q:Nat):(uniM xs m q).2<=q+2:=by unfold uniM;split<;>simp
theorem chkM_q (xs:List Int) (cols:List Col) (q:Nat):(chkM xs cols q).2<=q+200:=by
 unfold chkM;split
 ·have:=kw xs (cols.map (·.type)) 3 2 (q+1);simp only [wE] at this;simp only;omega
 ·simp
theorem tblM_q (xs:List Int) (i p:Nat):(tblM xs i p).2<=p+300:=by
 have h3:=zz xs p (n:=3) (by omega)
 have h1:=forM_q xs i 2 0 (vl xs (p+1) (1+drawn xs p 3).toNat) [] (p+1+2 * (1+drawn xs p 3).toNat)
 unfold tblM
 generalize forM xs i 2 0 (vl xs (p+1) (1+drawn xs p 3).toNat) [] (p+1+2 * (1+drawn xs p 3).toNat)=f at h1 ⊢
 simp only [yY]
 have h2:=uniM_q xs (1+drawn xs p 3) f.2.2
 have h4:=chkM_q xs f.1 (uniM xs (1+drawn xs p 3) f.2.2).2
 omega
theorem mtabs_q (xs:List Int) (p:Nat): ∀n,(yP xs p n).2<=p+1+300 * n
 | 0=>by simp [yP]
 | n+1=>by have h1:=mtabs_q xs p n;have h2:=tblM_q xs n (yP xs p n).2;simp only [yP];omega
def S8 (tabs:List Tbl) (n i q:Nat) (xs:List Int):SL:=
 ⟨[(5,.d (.lit (.int .i64 i))),(4,.d (.lit (.int .i64 n))),(3,.ptr 3 0),(2,.ptr 2 0),(0,.ptr 1000 0)],
  [(3,.var [.vec 600 i]),(600,.vec 59 6 (zd rT tabs) 0),(1000,yi xs q),(2,.var [.snil])]⟩
def S8c (tabs:List Tbl) (n i q m c:Nat) (cols:List Col) (xs:List Int):SL:=
 ⟨[(8,.d (.lit (.int .i64 c))),(7,.d (.lit (.int .i64 m))),(6,.ptr 6 0),(5,.d (.lit (.int .i64 i))),(4,.d (.lit (.int .i64 n))),(3,.ptr 3 0),(2,.ptr 2 0),(0,.ptr 1000 0)],
  [(6,.var [.d (.lit (.string (yO nT i))),.vec 21 (c+1),.vec 22 1,.snil,.snil,.snil]),(21,.vec 74 3 (zd rC cols) 0),(22,.vec 3 1 (zd rI [0]) 0),
   (3,.var [.vec 600 i]),(600,.vec 59 6 (zd rT tabs) 0),(1000,yi xs q),(2,.var [.snil])]⟩
def S8f (tabs:List Tbl) (n i m:Nat) (x:Nat×List Col×List Fk×Nat) (xs:List Int):SL:=
 ⟨[(9,.d (.lit (.int .i64 x.1))),(7,.d (.lit (.int .i64 m))),(6,.ptr 6 0),(5,.d (.lit (.int .i64 i))),(4,.d (.lit (.int .i64 n))),(3,.ptr 3 0),(2,.ptr 2 0),(0,.ptr 1000 0)],
  [(6,.var [.d (.lit (.string (yO nT i))),.vec 21 x.2.1.length,.vec 22 1,.snil,.vec 700 x.2.2.1.length,.snil]),(21,.vec 74 3 (zd rC x.2.1) 0),(22,.vec 3 1 (zd rI [0]) 0),
   (700,.vec 76 2 (zd rF x.2.2.1) 0),(3,.var [.vec 600 i]),(600,.vec 59 6 (zd rT tabs) 0),(1000,yi xs x.2.2.2),(2,.var [.snil])]⟩
theorem c_mschema {xs:List Int} {p:Nat} (hx:ub xs) (hp:p≤100000000000000000):
 ACall Tryz.prog 9 [.ptr 1000 0] [(1000,yi xs p)] (aS (xl xs p).1) [(1000,yi xs (xl xs p).2)]:=by
 refine zn mixed ttok Tryz.func9 Tryz.ntmps9 Tryz.results9 ?_
 generalize hr:aS (xl xs p).1=R
 generalize hr2:yi xs (xl xs p).2=R2
 simp -implicitDefEqProofs only [argT,↓zb,push_cast,simprocAttr,tte]
 refine ze [[],[]] [(1000,1000)] (zX (n:=3) (p:=p) hx (by omega) (by omega) (by omega)) ?_
 have h3:=zz xs p (n:=3) (by omega)
 have w1:IntKind.i64.wrap (1+drawn xs p 3)=1+drawn xs p 3:=zw (by omega) (by omega)
 simp -implicitDefEqProofs only [w1,↓zb,push_cast,simprocAttr,tte]
 obtain ⟨N,hN⟩: ∃N:Nat,1+drawn xs p 3=N:=⟨(1+drawn xs p 3).toNat,by omega⟩
 have hN3:N<=3:=by omega
 have hsch:xl xs p=yP xs p N:=by rw [xl,hN,Int.toNat_natCast]
 rw [hN]
 clear w1
 refine zI mixed ttok (fun i:Nat=>S8 (yP xs p i).1 N i (yP xs p i).2 xs) (fun i=>N-i) (fun i=>i<=N) 0 (Nat.zero_le _) ?_ ?_
 ·exact (Weak.nilCellL 3 0 600 59 6 rfl rfl rfl).trans (Weak.keepL (by simp [S8,yP,ends]) (by simp [S8,yP,zd,ends]) (by simp [S8,ends]))
 intro I hI i hi
 have hq:=mtabs_q xs p i
 have htl:=mtabs_len xs p i
 have hsn:yP xs p (i+1)=((yP xs p i).1++[(tblM xs i (yP xs p i).2).1],(tblM xs i (yP xs p i).2).2):=rfl
 simp -implicitDefEqProofs only [S8,↓zb,push_cast,simprocAttr,tte]
 refine za (fun k0=>?_) fun k0=>?_
 rotate_left
 ·have k0':i=N:=by have:=of_decide_eq_false k0;omega
  subst k0'
  refine zu [6] rfl (by trivial) (by simp [zc,htl]) ?_ (by first | simp [ends] | (subst_vars;simp [ends])) ?_ (by simp [ends])
  ·rw [<-hr,hsch];rfl
  ·rw [<-hr2,hsch];simp [ends]
 have k0':i<N:=by have:=of_decide_eq_true k0;omega
 have hwi:=zj k0' (by omega)
 generalize hq0:(yP xs p i).2=q0 at hq hsn ⊢
 generalize (yP xs p i).1=tabs at htl hsn ⊢
 refine ze [[],[]] [] (c_mname nT (i:Int) (by decide)) ?_
 simp -implicitDefEqProofs only [↓zb,push_cast,simprocAttr,tte]
 refine ze [[],[]] [(1000,1000)] (zX (n:=3) (p:=q0) hx (by omega) (by omega) (by omega)) ?_
 have h4:=zz xs q0 (n:=3) (by omega)
 have w1:IntKind.i64.wrap (1+drawn xs q0 3)=1+drawn xs q0 3:=zw (by omega) (by omega)
 simp -implicitDefEqProofs only [w1,↓zb,push_cast,simprocAttr,tte]
 obtain ⟨M,hM⟩: ∃M:Nat,1+drawn xs q0 3=M:=⟨(1+drawn xs q0 3).toNat,by omega⟩
 have hM3:M<=3:=by omega
 have hM1:1<=M:=by omega
 have hT:tblM xs i q0=yY xs i M (forM xs i 2 0 (vl xs (q0+1) M) [] (q0+1+2 * M)):=by rw [tblM,hM,Int.toNat_natCast]
 rw [hM]
 clear w1
 refine zI mixed ttok (fun c:Nat=>S8c tabs N i (q0+1+2 * c) M c (vl xs (q0+1) c) xs) (fun c=>M-c) (fun c=>c<=M) 0 (Nat.zero_le _) ?_ ?_
 ·exact Weak.keepL (by simp [S8c,ends]) (by simp [S8c,vl,zd,rI,rC,nT,nId,ends]) (by simp [S8c,ends])
 intro J hJ c hc
 have hcl:=kR xs (q0+1) c
 have hcs:=mcols_succ xs (q0+1) c
 simp -implicitDefEqProofs only [S8c,↓zb,push_cast,simprocAttr,tte]
 refine za (fun k1=>?_) fun k1=>?_
 ·have k1':c<M:=by have:=of_decide_eq_true k1;omega
  have hwc:=zj k1' (by omega)
  refine ze [[],[]] [] (c_mname nC (c:Int) (by decide)) ?_
  simp -implicitDefEqProofs only [↓zb,push_cast,simprocAttr,tte]
  refine ze [[],[]] [(1000,1000)] (zX (n:=3) (p:=q0+1+2 * c) hx (by omega) (by omega) (by omega)) ?_
  have h5:=zz xs (q0+1+2 * c) (n:=3) (by omega)
  have w1:IntKind.i64.wrap (1+drawn xs (q0+1+2 * c) 3)=1+drawn xs (q0+1+2 * c) 3:=zw (by omega) (by omega)
  simp -implicitDefEqProofs only [w1,↓zb,push_cast,simprocAttr,tte]
  refine ze [[],[]] [(1000,1000)] (zX (n:=2) (p:=q0+1+2 * c+1) hx (by omega) (by omega) (by omega)) ?_
  simp -implicitDefEqProofs only [↓zb,push_cast,simprocAttr,tte]
  refine ⟨⟨by omega,by omega⟩,zf (by kernel_rfl),?_⟩
  refine zm hJ (c+1) k1' (by show M-(c+1)<M-c;omega) (Weak.keepL (by simp [S8c,hwc,ends]) ?_ (by simp [S8c,ends]))
  simp [S8c,hcs,hcl,mcol,zh,zG,zY,rC,show q0+1+2 * (c+1)=q0+1+2 * c+1+1 from by omega,ends]
 have k1':c=M:=by have:=of_decide_eq_false k1;omega
 subst k1'
 clear hJ J
 refine zI mixed ttok (fun x:Nat×List Col×List Fk×Nat=>S8f tabs N i c x xs) (fun x=>2-x.1)
  (fun x=>x.1<=2/\forM xs i (2-x.1) x.1 x.2.1 x.2.2.1 x.2.2.2=forM xs i 2 0 (vl xs (q0+1) c) [] (q0+1+2 * c)/\x.2.1.length<=c+1+x.1/\x.2.2.1.length<=x.1/\x.2.2.2<=q0+1+2 * c+3 * x.1)
  (0,vl xs (q0+1) c,[],q0+1+2 * c) ⟨by simp,rfl,by simp [hcl],by simp,by simp⟩ ?_ ?_
 ·exact (Weak.nilCellL 6 4 700 76 2 rfl rfl rfl).trans (Weak.keepL (by simp [S8f,hcl,ends]) (by simp [S8f,hcl,zd,ends]) (by simp [S8f,ends]))
 intro J hJ ⟨k,cols,fs,q⟩ ⟨hk2,hres,hcl2,hfl,hq2⟩
 simp only at hk2 hres hcl2 hfl hq2
 have hT2:=hT
 rw [<-hres] at hT2
 have hE: ∀q',forM xs i (2-k) k cols fs q=(cols,fs,q')->tblM xs i q0=yY xs i c (cols,fs,q'):=fun q' h=>by rw [hT2,h]
 by_cases e1:k<2
 ·have d1:decide ((k:Int)<2)=true:=decide_eq_true (by omega)
  have h2k:2-k=(2-(k+1))+1:=by omega
  by_cases e2:0<i
  ·have d2:decide ((i:Int)>0)=true:=decide_eq_true (by omega)
   simp -implicitDefEqProofs only [S8f,d1,d2,↓zb,push_cast,simprocAttr,tte]
   refine ze [[],[]] [(1000,1000)] (zX (n:=3) (p:=q) hx (by omega) (by omega) (by omega)) ?_
   simp -implicitDefEqProofs only [↓zb,push_cast,simprocAttr,tte]
   refine za (fun g=>?_) fun g=>?_
   ·have g':drawn xs q 3>0:=of_decide_eq_true g
    have hstep:forM xs i (2-k) k cols fs q=forM xs i (2-(k+1)) (k+1) (cols++[fcol xs k q]) (fs++[ffk xs i cols q]) (q+3):=by rw [h2k,forM,if_neg (by omega),if_pos g']
    have hwk:=zj e1 (by omega)
    refine ze [[],[]] [] (c_mname nF (k:Int) (by decide)) ?_
    simp -implicitDefEqProofs only [↓zb,push_cast,simprocAttr,tte]
    refine ze [[],[]] [(1000,1000)] (zX (n:=4) (p:=q+1) hx (by omega) (by omega) (by omega)) ?_
    simp -implicitDefEqProofs only [↓zb,push_cast,simprocAttr,tte]
    refine ⟨by omega,zf (by kernel_rfl),?_⟩
    refine ⟨by simp,?_⟩
    have w1:IntKind.i64.wrap (((cols.length:Int)+1)-1)=cols.length:=by rw [zw (by omega) (by omega)];omega
    refine ze [[],[]] [(1000,1000)] (zX (n:=(i:Int)) (p:=q+2) hx (by omega) (by omega) (by omega)) ?_
    have h6:=zz xs (q+2) (n:=(i:Int)) (by omega)
    simp -implicitDefEqProofs only [w1,↓zb,push_cast,simprocAttr,tte]
    refine ze [[],[]] [] (c_mname nT (drawn xs (q+2) i) (by decide)) ?_
    simp -implicitDefEqProofs only [↓zb,push_cast,simprocAttr,tte]
    refine ⟨by omega,zf (by kernel_rfl),?_⟩
    refine zm hJ (k+1,cols++[fcol xs k q],fs++[ffk xs i cols q],q+3) ⟨by simp only;omega,by rw [<-hres];exact hstep.symm,by simp;omega,by simp;omega,by simp only;omega⟩ (by show 2-(k+1)<2-k;omega)
     (Weak.keepL (by simp [S8f,hwk,ends]) ?_ (by simp [S8f,ends]))
    simp [S8f,fcol,ffk,zd,rC,rF,rI,w1,ends]
   ·have hT':=hE (q+1) (by rw [h2k,forM,if_neg (by omega),if_neg (of_decide_eq_false g)])
    have hq':q+1<=q0+20:=by omega
    obtain ⟨q',hqq⟩: ∃q',q'=q+1:=⟨_,rfl⟩
    rw [<-hqq] at hT' hq' ⊢
    have HE:CE xs (cols.map (·.type)) 3 (xn xs (cols.map (·.type)) 3) (wE 3):=gz hx (by simp;omega) 2 (by omega)
    have hwE:wE 3=110:=rfl
    refine ze [[],[]] [(1000,1000)] (zX (n:=4) (p:=q') hx (by omega) (by omega) (by omega)) ?_
    simp -implicitDefEqProofs only [↓zb,push_cast,simprocAttr,tte]
    refine za (fun u1=>?_) fun u1=>?_
    ·have u1':drawn xs q' 4=0:=by simpa using u1
     have hU:uniM xs c q'=([[1+drawn xs (q'+1) c]],q'+2):=by rw [uniM,if_pos u1']
     refine ze [[],[]] [(1000,1000)] (zX (n:=(c:Int)) (p:=q'+1) hx (by omega) (by omega) (by omega)) ?_
     have h7:=zz xs (q'+1) (n:=(c:Int)) (by omega)
     have w7:IntKind.i64.wrap (1+drawn xs (q'+1) c)=1+drawn xs (q'+1) c:=zw (by omega) (by omega)
     simp -implicitDefEqProofs only [w7,↓zb,push_cast,simprocAttr,tte]
     refine ⟨zf (by kernel_rfl),?_⟩
     refine ze [[],[]] [(1000,1000)] (zX (n:=4) (p:=q'+2) hx (by omega) (by omega) (by omega)) ?_
     simp -implicitDefEqProofs only [↓zb,push_cast,simprocAttr,tte]
     refine za (fun v1=>?_) fun v1=>?_
     ·have v1':drawn xs (q'+2) 4=0:=by simpa using v1
      have hX:tblM xs i q0=(⟨yO nT i,cols,[0],[[1+drawn xs (q'+1) c]],fs,[(xn xs (cols.map (·.type)) 3 2 (q'+2+1)).1]⟩,(xn xs (cols.map (·.type)) 3 2 (q'+2+1)).2):=by
       rw [hT',yY,hU];simp only [chkM,if_pos v1']
      refine ze [[0,3,1,1,2,6]] [] (wu ⟨yO nT i,cols,[0],[[1+drawn xs (q'+1) c]],fs,[]⟩ (by show cols.length<=_;omega)) ?_
      simp -implicitDefEqProofs only [↓zb,push_cast,simprocAttr,tte]
      refine ze [[],[1],[],[]] [(1000,1000)] (HE 2 (q'+2+1) (by decide) (by omega)) ?_
      simp -implicitDefEqProofs only [↓zb,push_cast,simprocAttr,tte]
      refine ⟨zf (by kernel_rfl),?_⟩
      refine ⟨⟨htl.symm,by omega⟩,?_⟩
      refine zm hI (i+1) k0' (by show N-(i+1)<N-i;omega) (Weak.keepL (by simp [S8,hwi,htl,ends]) ?_ (by simp [S8,ends]))
      simp [S8,hsn,hX,htl,zd,rT,rIs,rI,yM,ends]
     ·have v1': ¬drawn xs (q'+2) 4=0:=by simpa using v1
      have hX:tblM xs i q0=(⟨yO nT i,cols,[0],[[1+drawn xs (q'+1) c]],fs,[]⟩,q'+2+1):=by
       rw [hT',yY,hU];simp only [chkM,if_neg v1']
      refine ⟨⟨htl.symm,by omega⟩,?_⟩
      refine zm hI (i+1) k0' (by show N-(i+1)<N-i;omega) (Weak.keepL (by simp [S8,hwi,htl,ends]) ?_ (by simp [S8,ends]))
      simp [S8,hsn,hX,htl,zd,rT,rIs,rI,yM,ends]
    ·have u1': ¬drawn xs q' 4=0:=by simpa using u1
     have hU:uniM xs c q'=([],q'+1):=by rw [uniM,if_neg u1']
     refine ze [[],[]] [(1000,1000)] (zX (n:=4) (p:=q'+1) hx (by omega) (by omega) (by omega)) ?_
     simp -implicitDefEqProofs only [↓zb,push_cast,simprocAttr,tte]
     refine za (fun v1=>?_) fun v1=>?_
     ·have v1':drawn xs (q'+1) 4=0:=by simpa using v1
      have hX:tblM xs i q0=(⟨yO nT i,cols,[0],[],fs,[(xn xs (cols.map (·.type)) 3 2 (q'+1+1)).1]⟩,(xn xs (cols.map (·.type)) 3 2 (q'+1+1)).2):=by
       rw [hT',yY,hU];simp only [chkM,if_pos v1']
      refine ze [[0,3,1,1,2,6]] [] (wu ⟨yO nT i,cols,[0],[],fs,[]⟩ (by show cols.length<=_;omega)) ?_
      simp -implicitDefEqProofs only [↓zb,push_cast,simprocAttr,tte]
      refine ze [[],[1],[],[]] [(1000,1000)] (HE 2 (q'+1+1) (by decide) (by omega)) ?_
      simp -implicitDefEqProofs only [↓zb,push_cast,simprocAttr,tte]
      refine ⟨zf (by kernel_rfl),?_⟩
      refine ⟨⟨htl.symm,by omega⟩,?_⟩
      refine zm hI (i+1) k0' (by show N-(i+1)<N-i;omega) (Weak.keepL (by simp [S8,hwi,htl,ends]) ?_ (by simp [S8,ends]))
      simp [S8,hsn,hX,htl,zd,rT,rIs,rI,yM,ends]
     ·have v1': ¬drawn xs (q'+1) 4=0:=by simpa using v1
      have hX:tblM xs i q0=(⟨yO nT i,cols,[0],[],fs,[]⟩,q'+1+1):=by
       rw [hT',yY,hU];simp only [chkM,if_neg v1']
      refine ⟨⟨htl.symm,by omega⟩,?_⟩
      refine zm hI (i+1) k0' (by show N-(i+1)<N-i;omega) (Weak.keepL (by simp [S8,hwi,htl,ends]) ?_ (by simp [S8,ends]))
      simp [S8,hsn,hX,htl,zd,rT,rIs,rI,yM,ends]
  ·have d2:decide ((i:Int)>0)=false:=decide_eq_false (by omega)
   simp -implicitDefEqProofs only [S8f,d1,d2,↓zb,push_cast,simprocAttr,tte]
   have hT':=hE q (by rw [h2k,forM,if_pos (by omega)])
   have hq':q<=q0+20:=by omega
   obtain ⟨q',hqq⟩: ∃q',q'=q:=⟨_,rfl⟩
   rw [<-hqq] at hT' hq' ⊢
   have HE:CE xs (cols.map (·.type)) 3 (xn xs (cols.map (·.type)) 3) (wE 3):=gz hx (by simp;omega) 2 (by omega)
   have hwE:wE 3=110:=rfl
   refine ze [[],[]] [(1000,1000)] (zX (n:=4) (p:=q') hx (by omega) (by omega) (by omega)) ?_
   simp -implicitDefEqProofs only [↓zb,push_cast,simprocAttr,tte]
   refine za (fun u1=>?_) fun u1=>?_
   ·have u1':drawn xs q' 4=0:=by simpa using u1
    have hU:uniM xs c q'=([[1+drawn xs (q'+1) c]],q'+2):=by rw [uniM,if_pos u1']
    refine ze [[],[]] [(1000,1000)] (zX (n:=(c:Int)) (p:=q'+1) hx (by omega) (by omega) (by omega)) ?_
    have h7:=zz xs (q'+1) (n:=(c:Int)) (by omega)
    have w7:IntKind.i64.wrap (1+drawn xs (q'+1) c)=1+drawn xs (q'+1) c:=zw (by omega) (by omega)
    simp -implicitDefEqProofs only [w7,↓zb,push_cast,simprocAttr,tte]
    refine ⟨zf (by kernel_rfl),?_⟩
    refine ze [[],[]] [(1000,1000)] (zX (n:=4) (p:=q'+2) hx (by omega) (by omega) (by omega)) ?_
    simp -implicitDefEqProofs only [↓zb,push_cast,simprocAttr,tte]
    refine za (fun v1=>?_) fun v1=>?_
    ·have v1':drawn xs (q'+2) 4=0:=by simpa using v1
     have hX:tblM xs i q0=(⟨yO nT i,cols,[0],[[1+drawn xs (q'+1) c]],fs,[(xn xs (cols.map (·.type)) 3 2 (q'+2+1)).1]⟩,(xn xs (cols.map (·.type)) 3 2 (q'+2+1)).2):=by
      rw [hT',yY,hU];simp only [chkM,if_pos v1']
     refine ze [[0,3,1,1,2,6]] [] (wu ⟨yO nT i,cols,[0],[[1+drawn xs (q'+1) c]],fs,[]⟩ (by show cols.length<=_;omega)) ?_
     simp -implicitDefEqProofs only [↓zb,push_cast,simprocAttr,tte]
     refine ze [[],[1],[],[]] [(1000,1000)] (HE 2 (q'+2+1) (by decide) (by omega)) ?_
     simp -implicitDefEqProofs only [↓zb,push_cast,simprocAttr,tte]
     refine ⟨zf (by kernel_rfl),?_⟩
     refine ⟨⟨htl.symm,by omega⟩,?_⟩
     refine zm hI (i+1) k0' (by show N-(i+1)<N-i;omega) (Weak.keepL (by simp [S8,hwi,htl,ends]) ?_ (by simp [S8,ends]))
     simp [S8,hsn,hX,htl,zd,rT,rIs,rI,yM,ends]
    ·have v1': ¬drawn xs (q'+2) 4=0:=by simpa using v1
     have hX:tblM xs i q0=(⟨yO nT i,cols,[0],[[1+drawn xs (q'+1) c]],fs,[]⟩,q'+2+1):=by
      rw [hT',yY,hU];simp only [chkM,if_neg v1']
     refine ⟨⟨htl.symm,by omega⟩,?_⟩
     refine zm hI (i+1) k0' (by show N-(i+1)<N-i;omega) (Weak.keepL (by simp [S8,hwi,htl,ends]) ?_ (by simp [S8,ends]))
     simp [S8,hsn,hX,htl,zd,rT,rIs,rI,yM,ends]
   ·have u1': ¬drawn xs q' 4=0:=by simpa using u1
    have hU:uniM xs c q'=([],q'+1):=by rw [uniM,if_neg u1']
    refine ze [[],[]] [(1000,1000)] (zX (n:=4) (p:=q'+1) hx (by omega) (by omega) (by omega)) ?_
    simp -implicitDefEqProofs only [↓zb,push_cast,simprocAttr,tte]
    refine za (fun v1=>?_) fun v1=>?_
    ·have v1':drawn xs (q'+1) 4=0:=by simpa using v1
     have hX:tblM xs i q0=(⟨yO nT i,cols,[0],[],fs,[(xn xs (cols.map (·.type)) 3 2 (q'+1+1)).1]⟩,(xn xs (cols.map (·.type)) 3 2 (q'+1+1)).2):=by
      rw [hT',yY,hU];simp only [chkM,if_pos v1']
     refine ze [[0,3,1,1,2,6]] [] (wu ⟨yO nT i,cols,[0],[],fs,[]⟩ (by show cols.length<=_;omega)) ?_
     simp -implicitDefEqProofs only [↓zb,push_cast,simprocAttr,tte]
     refine ze [[],[1],[],[]] [(1000,1000)] (HE 2 (q'+1+1) (by decide) (by omega)) ?_
     simp -implicitDefEqProofs only [↓zb,push_cast,simprocAttr,tte]
     refine ⟨zf (by kernel_rfl),?_⟩
     refine ⟨⟨htl.symm,by omega⟩,?_⟩
     refine zm hI (i+1) k0' (by show N-(i+1)<N-i;omega) (Weak.keepL (by simp [S8,hwi,htl,ends]) ?_ (by simp [S8,ends]))
     simp [S8,hsn,hX,htl,zd,rT,rIs,rI,yM,ends]
    ·have v1': ¬drawn xs (q'+1) 4=0:=by simpa using v1
     have hX:tblM xs i q0=(⟨yO nT i,cols,[0],[],fs,[]⟩,q'+1+1):=by
      rw [hT',yY,hU];simp only [chkM,if_neg v1']
     refine ⟨⟨htl.symm,by omega⟩,?_⟩
     refine zm hI (i+1) k0' (by show N-(i+1)<N-i;omega) (Weak.keepL (by simp [S8,hwi,htl,ends]) ?_ (by simp [S8,ends]))
     simp [S8,hsn,hX,htl,zd,rT,rIs,rI,yM,ends]
 ·have d1:decide ((k:Int)<2)=false:=decide_eq_false (by omega)
  simp -implicitDefEqProofs only [S8f,d1,↓zb,push_cast,simprocAttr,tte]
  have hT':=hE q (by rw [show 2-k=0 from by omega,forM])
  have hq':q<=q0+20:=by omega
  obtain ⟨q',hqq⟩: ∃q',q'=q:=⟨_,rfl⟩
  rw [<-hqq] at hT' hq' ⊢
  have HE:CE xs (cols.map (·.type)) 3 (xn xs (cols.map (·.type)) 3) (wE 3):=gz hx (by simp;omega) 2 (by omega)
  have hwE:wE 3=110:=rfl
  refine ze [[],[]] [(1000,1000)] (zX (n:=4) (p:=q') hx (by omega) (by omega) (by omega)) ?_
  simp -implicitDefEqProofs only [↓zb,push_cast,simprocAttr,tte]
  refine za (fun u1=>?_) fun u1=>?_
  ·have u1':drawn xs q' 4=0:=by simpa using u1
   have hU:uniM xs c q'=([[1+drawn xs (q'+1) c]],q'+2):=by rw [uniM,if_pos u1']
   refine ze [[],[]] [(1000,1000)] (zX (n:=(c:Int)) (p:=q'+1) hx (by omega) (by omega) (by omega)) ?_
   have h7:=zz xs (q'+1) (n:=(c:Int)) (by omega)
   have w7:IntKind.i64.wrap (1+drawn xs (q'+1) c)=1+drawn xs (q'+1) c:=zw (by omega) (by omega)
   simp -implicitDefEqProofs only [w7,↓zb,push_cast,simprocAttr,tte]
   refine ⟨zf (by kernel_rfl),?_⟩
   refine ze [[],[]] [(1000,1000)] (zX (n:=4) (p:=q'+2) hx (by omega) (by omega) (by omega)) ?_
   simp -implicitDefEqProofs only [↓zb,push_cast,simprocAttr,tte]
   refine za (fun v1=>?_) fun v1=>?_
   ·have v1':drawn xs (q'+2) 4=0:=by simpa using v1
    have hX:tblM xs i q0=(⟨yO nT i,cols,[0],[[1+drawn xs (q'+1) c]],fs,[(xn xs (cols.map (·.type)) 3 2 (q'+2+1)).1]⟩,(xn xs (cols.map (·.type)) 3 2 (q'+2+1)).2):=by
     rw [hT',yY,hU];simp only [chkM,if_pos v1']
    refine ze [[0,3,1,1,2,6]] [] (wu ⟨yO nT i,cols,[0],[[1+drawn xs (q'+1) c]],fs,[]⟩ (by show cols.length<=_;omega)) ?_
    simp -implicitDefEqProofs only [↓zb,push_cast,simprocAttr,tte]
    refine ze [[],[1],[],[]] [(1000,1000)] (HE 2 (q'+2+1) (by decide) (by omega)) ?_
    simp -implicitDefEqProofs only [↓zb,push_cast,simprocAttr,tte]
    refine ⟨zf (by kernel_rfl),?_⟩
    refine ⟨⟨htl.symm,by omega⟩,?_⟩
    refine zm hI (i+1) k0' (by show N-(i+1)<N-i;omega) (Weak.keepL (by simp [S8,hwi,htl,ends]) ?_ (by simp [S8,ends]))
    simp [S8,hsn,hX,htl,zd,rT,rIs,rI,yM,ends]
   ·have v1': ¬drawn xs (q'+2) 4=0:=by simpa using v1
    have hX:tblM xs i q0=(⟨yO nT i,cols,[0],[[1+drawn xs (q'+1) c]],fs,[]⟩,q'+2+1):=by
     rw [hT',yY,hU];simp only [chkM,if_neg v1']
    refine ⟨⟨htl.symm,by omega⟩,?_⟩
    refine zm hI (i+1) k0' (by show N-(i+1)<N-i;omega) (Weak.keepL (by simp [S8,hwi,htl,ends]) ?_ (by simp [S8,ends]))
    simp [S8,hsn,hX,htl,zd,rT,rIs,rI,yM,ends]
  ·have u1': ¬drawn xs q' 4=0:=by simpa using u1
   have hU:uniM xs c q'=([],q'+1):=by rw [uniM,if_neg u1']
   refine ze [[],[]] [(1000,1000)] (zX (n:=4) (p:=q'+1) hx (by omega) (by omega) (by omega)) ?_
   simp -implicitDefEqProofs only [↓zb,push_cast,simprocAttr,tte]
   refine za (fun v1=>?_) fun v1=>?_
   ·have v1':drawn xs (q'+1) 4=0:=by simpa using v1
    have hX:tblM xs i q0=(⟨yO nT i,cols,[0],[],fs,[(xn xs (cols.map (·.type)) 3 2 (q'+1+1)).1]⟩,(xn xs (cols.map (·.type)) 3 2 (q'+1+1)).2):=by
     rw [hT',yY,hU];simp only [chkM,if_pos v1']
    refine ze [[0,3,1,1,2,6]] [] (wu ⟨yO nT i,cols,[0],[],fs,[]⟩ (by show cols.length<=_;omega)) ?_
    simp -implicitDefEqProofs only [↓zb,push_cast,simprocAttr,tte]
    refine ze [[],[1],[],[]] [(1000,1000)] (HE 2 (q'+1+1) (by decide) (by omega)) ?_
    simp -implicitDefEqProofs only [↓zb,push_cast,simprocAttr,tte]
    refine ⟨zf (by kernel_rfl),?_⟩
    refine ⟨⟨htl.symm,by omega⟩,?_⟩
    refine zm hI (i+1) k0' (by show N-(i+1)<N-i;omega) (Weak.keepL (by simp [S8,hwi,htl,ends]) ?_ (by simp [S8,ends]))
    simp [S8,hsn,hX,htl,zd,rT,rIs,rI,yM,ends]
   ·have v1': ¬drawn xs (q'+1) 4=0:=by simpa using v1
    have hX:tblM xs i q0=(⟨yO nT i,cols,[0],[],fs,[]⟩,q'+1+1):=by
     rw [hT',yY,hU];simp only [chkM,if_neg v1']
    refine ⟨⟨htl.symm,by omega⟩,?_⟩
    refine zm hI (i+1) k0' (by show N-(i+1)<N-i;omega) (Weak.keepL (by simp [S8,hwi,htl,ends]) ?_ (by simp [S8,ends]))
    simp [S8,hsn,hX,htl,zd,rT,rIs,rI,yM,ends]
end
end Go.Proofs.YtnmibokjpedkiaaGreatDoor
