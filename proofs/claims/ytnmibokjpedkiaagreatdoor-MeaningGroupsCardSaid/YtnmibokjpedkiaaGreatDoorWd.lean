/- Groups of a query have one row for each key, and their counts add up: a proof over an abstract machine of our own (part Wd) -/
import Derived.Test.YtnmibokjpedkiaaGreatDoorWc
set_option maxRecDepth 100000
set_option maxHeartbeats 4000000
set_option linter.all false
namespace Go.Proofs.YtnmibokjpedkiaaGreatDoor
section
open Go.Am
attribute [local simp, local push_cast] num boo str ints aV aTab zx aS aT aC
def kb (v:Val):Val:=if zF v=true then v else zu
def qx (op:Int) (a b:Val):Val:=
 if zF a=false\/zF b=false\/a.kind≠b.kind then zu
 else if a.kind=1 then (if (numM op a.num b.num).2=true then kb ⟨1,(numM op a.num b.num).1,ByteArray.empty⟩ else zu)
 else if a.kind=3/\op=12 then kb ⟨3,0,a.text++b.text⟩ else zu
theorem empty_list:ByteArray.empty.toList=[]:=by rw [ByteArray.toList_eq];rfl
theorem valid_num {v:Val} (h:zF v=true) (hk:v.kind=1):okN v.num:=by
 unfold zF at h
 rw [if_neg (by omega),if_pos hk] at h
 simp only [Bool.and_eq_true,decide_eq_true_eq] at h
 exact ⟨h.1.1,h.1.2⟩
theorem qe {v:Val} (h:zF v=true) (hk:v.kind=3):v.text.size<=24:=by
 unfold zF at h
 rw [if_neg (by omega),if_neg (by omega),if_neg (by omega),if_pos hk] at h
 simp only [kd,Bool.and_eq_true,decide_eq_true_eq] at h
 exact h.2.1
theorem valid_null:zF zu=true:=by simp [zF,zu,empty_list]
theorem jR (op:Int) (a b:Val):ACall Tryz.prog 165 [num op,aV a,aV b] [] (aV (qx op a b)) []:=by
 refine zl mixed ttok Tryz.func165 Tryz.ntmps165 Tryz.results165 ?_
 generalize hr:aV (qx op a b)=R
 simp -implicitDefEqProofs only [argT,tabN,↓zb,push_cast,simprocAttr,tte]
 refine ze [[0,0,0]] [] (ve a) ?_
 simp -implicitDefEqProofs only [tabN,↓zb,push_cast,simprocAttr,tte]
 unfold qx at hr
 refine za (fun h1=>?_) fun h1=>?_
 ·rw [if_pos (.inl (by simpa using h1))] at hr
  exact zD (by first | trivial | (simp;done) | (simp;omega)) (by rw [<-hr]<;>first | rfl | (simp [zu];done) | (simp_all [zu];done)) (by simp [ends])
 refine ze [[0,0,0]] [] (ve b) ?_
 simp -implicitDefEqProofs only [tabN,↓zb,push_cast,simprocAttr,tte]
 simp only [Bool.not_eq_false'] at h1
 refine za (fun h2=>?_) fun h2=>?_
 ·rw [if_pos (.inr (.inl (by simpa using h2)))] at hr
  exact zD (by first | trivial | (simp;done) | (simp;omega)) (by rw [<-hr]<;>first | rfl | (simp [zu];done) | (simp_all [zu];done)) (by simp [ends])
 simp only [Bool.not_eq_false'] at h2
 refine za (fun h3=>?_) fun h3=>?_
 ·rw [if_pos (.inr (.inr (by simpa using h3)))] at hr
  exact zD (by first | trivial | (simp;done) | (simp;omega)) (by rw [<-hr]<;>first | rfl | (simp [zu];done) | (simp_all [zu];done)) (by simp [ends])
 have hk:a.kind=b.kind:=by simpa using h3
 rw [if_neg (by simp [h1,h2,hk])] at hr
 refine za (fun h4=>?_) fun h4=>?_
 ·have hk1:a.kind=1:=by simpa using h4
  rw [if_pos hk1] at hr
  refine ze [[0],[0],[0]] [] (c_numbers op a.num b.num (valid_num h1 hk1) (valid_num h2 (by omega))) ?_
  simp -implicitDefEqProofs only [tabN,↓zb,push_cast,simprocAttr,tte]
  refine za (fun h5=>?_) fun h5=>?_
  ·rw [if_neg (by simpa using h5)] at hr
   exact zD (by first | trivial | (simp;done) | (simp;omega)) (by rw [<-hr]<;>first | rfl | (simp [zu];done) | (simp_all [zu];done)) (by simp [ends])
  rw [if_pos (by simpa using h5)] at hr
  refine ze [[0,0,0]] [] (ve ⟨1,(numM op a.num b.num).1,ByteArray.empty⟩) ?_
  simp -implicitDefEqProofs only [tabN,↓zb,push_cast,simprocAttr,tte]
  unfold kb at hr
  refine za (fun h6=>?_) fun h6=>?_
  ·rw [if_neg (by simpa using h6)] at hr
   exact zD (by first | trivial | (simp;done) | (simp;omega)) (by rw [<-hr]<;>first | rfl | (simp [zu];done) | (simp_all [zu];done)) (by simp [ends])
  ·rw [if_pos (by simpa using h6)] at hr
   exact zD (by first | trivial | (simp;done) | (simp;omega)) (by rw [<-hr]<;>first | rfl | (simp [zu];done) | (simp_all [zu];done)) (by simp [ends])
 have hk1: ¬a.kind=1:=by simpa using h4
 rw [if_neg hk1] at hr
 have hnul:ACall Tryz.prog 45 [aV ⟨0,0,ByteArray.empty⟩] [] (boo true) []:=valid_null ▸ ve zu
 by_cases h5:a.kind=3/\op=12
 ·rw [if_pos h5] at hr
  obtain ⟨h5a,h5b⟩:=h5
  have t1:=qe h1 h5a
  have t2:=qe h2 (by omega)
  refine za (fun h6=>?_) fun h6=>?_
  ·refine za (fun h7=>?_) fun h7=>?_
   ·refine ⟨by omega,?_⟩
    refine ze [[0,0,0]] [] (ve ⟨3,0,a.text++b.text⟩) ?_
    simp -implicitDefEqProofs only [tabN,↓zb,push_cast,simprocAttr,tte]
    unfold kb at hr
    refine za (fun h8=>?_) fun h8=>?_
    ·rw [if_neg (by simpa using h8)] at hr
     exact zD (by first | trivial | (simp;done) | (simp;omega)) (by rw [<-hr]<;>first | rfl | (simp [zu];done) | (simp_all [zu];done)) (by simp [ends])
    ·rw [if_pos (by simpa using h8)] at hr
     exact zD (by first | trivial | (simp;done) | (simp;omega)) (by rw [<-hr]<;>first | rfl | (simp [zu];done) | (simp_all [zu];done)) (by simp [ends])
   ·simp at h7;omega
  ·simp at h6;omega
 rw [if_neg h5] at hr
 refine za (fun h6=>?_) fun h6=>?_
 ·refine za (fun h7=>?_) fun h7=>?_
  ·simp at h6 h7;omega
  ·refine ze [[0,0,0]] [] (hnul) ?_
   simp -implicitDefEqProofs only [zu,tabN,↓zb,push_cast,simprocAttr,tte]
   exact zD (by first | trivial | (simp;done) | (simp;omega)) (by rw [<-hr]<;>first | rfl | (simp [zu];done) | (simp_all [zu];done)) (by simp [ends])
 ·refine ze [[0,0,0]] [] (hnul) ?_
  simp -implicitDefEqProofs only [zu,tabN,↓zb,push_cast,simprocAttr,tte]
  exact zD (by first | trivial | (simp;done) | (simp;omega)) (by rw [<-hr]<;>first | rfl | (simp [zu];done) | (simp_all [zu];done)) (by simp [ends])
end
section
open Go.Am
attribute [local simp, local push_cast] num boo str ints aV aTab zx aS aT aC
def aRow (l:List Val):A:= .d (.sl 3 (zd rV l))
attribute [local simp, local push_cast] aRow
def inM (v:Val):Val->List Val->Val
 | out,[]=>out
 | out,x::l=>inM v (orM out (vp v x)) l
def zJ (op:Int) (l:List Val):Val:=
 if op=6\/op=7\/op=8\/op=9\/op=10\/op=12 then qx op (l.getD 0 default) (l.getD 1 default)
 else if op=11 then qx 7 ⟨1,0,ByteArray.empty⟩ (l.getD 0 default)
 else if op=13 then (if (l.getD 0 default).kind=3 then ⟨1,(l.getD 0 default).text.size,ByteArray.empty⟩ else zu)
 else if op=14 then vp (l.getD 0 default) (l.getD 1 default)
 else if op=15 then notM (vp (l.getD 0 default) (l.getD 1 default))
 else if op=16 then km (l.getD 0 default) (l.getD 1 default)
 else if op=17 then notM (km (l.getD 1 default) (l.getD 0 default))
 else if op=18 then km (l.getD 1 default) (l.getD 0 default)
 else if op=19 then notM (km (l.getD 0 default) (l.getD 1 default))
 else if op=20 then ofV (wF (l.getD 0 default) (l.getD 1 default))
 else if op=21 then ofV ((l.getD 0 default).kind==0)
 else if op=22 then andM (l.getD 0 default) (l.getD 1 default)
 else if op=23 then orM (l.getD 0 default) (l.getD 1 default)
 else if op=24 then notM (l.getD 0 default)
 else if op=25 then ofV (y7 (l.getD 0 default)==1)
 else if op=27 then (if (l.getD 0 default).kind=0 then l.getD 1 default else l.getD 0 default)
 else if op=28 then inM (l.getD 0 default) (ofV false) (l.drop 1)
 else zu
theorem inM_snoc (v:Val): ∀(r:List Val) (out x:Val),inM v out (r++[x])=orM (inM v out r) (vp v x)
 | [],out,x=>rfl
 | y::r,out,x=>by simp only [List.cons_append,inM,inM_snoc v r]
theorem c_bool0:ACall Tryz.prog 173 [num 0] [] (aV (ofV false)) []:=by
 have:yt 0=ofV false:=by simp [yt,ofV]
 rw [<-this];exact vZ 0
theorem len2 {n:Nat} (h:(n:Int)=2):2<=n:=by omega
theorem len1 {n:Nat} (h:(n:Int)=1):1<=n:=by omega
theorem c_apply (op:Int) (l:List Val) (hk:xd op l.length=true) (hll:l.length<=1000):ACall Tryz.prog 109 [num op,aRow l] [] (aV (zJ op l)) []:=by
 refine zl mixed ttok Tryz.func109 Tryz.ntmps109 Tryz.results109 ?_
 generalize hr:aV (zJ op l)=R
 simp -implicitDefEqProofs only [argT,tabN,↓zb,push_cast,simprocAttr,tte]
 refine za (fun h6=>?_) fun h6=>?_
 ·have e:op=6:=by simpa using h6
  subst e
  have hl:2<=l.length:=len2 (by simpa [xd] using hk)
  refine za (fun _=>?_) (fun h=>absurd h (by decide))
  refine ⟨by omega,by omega,?_⟩
  refine ze [[0],[0,0,0],[0,0,0]] [] (jR 6 (l.getD 0 default) (l.getD 1 default)) ?_
  simp -implicitDefEqProofs only [tabN,aV,↓zb,push_cast,simprocAttr,tte]
  refine ⟨zf (by kernel_rfl),?_⟩
  exact zD (by first | trivial | (simp;done) | (simp;omega)) (by rw [<-hr]<;>first | rfl | (simp [zJ];done) | (simp_all [zJ];done)) (by simp [ends])
 refine za (fun h7=>?_) fun h7=>?_
 ·have e:op=7:=by simpa using h7
  subst e
  have hl:2<=l.length:=len2 (by simpa [xd] using hk)
  refine za (fun _=>?_) (fun h=>absurd h (by decide))
  refine ⟨by omega,by omega,?_⟩
  refine ze [[0],[0,0,0],[0,0,0]] [] (jR 7 (l.getD 0 default) (l.getD 1 default)) ?_
  simp -implicitDefEqProofs only [tabN,aV,↓zb,push_cast,simprocAttr,tte]
  refine ⟨zf (by kernel_rfl),?_⟩
  exact zD (by first | trivial | (simp;done) | (simp;omega)) (by rw [<-hr]<;>first | rfl | (simp [zJ];done) | (simp_all [zJ];done)) (by simp [ends])
 refine za (fun h8=>?_) fun h8=>?_
 ·have e:op=8:=by simpa using h8
  subst e
  have hl:2<=l.length:=len2 (by simpa [xd] using hk)
  refine za (fun _=>?_) (fun h=>absurd h (by decide))
  refine ⟨by omega,by omega,?_⟩
  refine ze [[0],[0,0,0],[0,0,0]] [] (jR 8 (l.getD 0 default) (l.getD 1 default)) ?_
  simp -implicitDefEqProofs only [tabN,aV,↓zb,push_cast,simprocAttr,tte]
  refine ⟨zf (by kernel_rfl),?_⟩
  exact zD (by first | trivial | (simp;done) | (simp;omega)) (by rw [<-hr]<;>first | rfl | (simp [zJ];done) | (simp_all [zJ];done)) (by simp [ends])
 refine za (fun h9=>?_) fun h9=>?_
 ·have e:op=9:=by simpa using h9
  subst e
  have hl:2<=l.length:=len2 (by simpa [xd] using hk)
  refine za (fun _=>?_) (fun h=>absurd h (by decide))
  refine ⟨by omega,by omega,?_⟩
  refine ze [[0],[0,0,0],[0,0,0]] [] (jR 9 (l.getD 0 default) (l.getD 1 default)) ?_
  simp -implicitDefEqProofs only [tabN,aV,↓zb,push_cast,simprocAttr,tte]
  refine ⟨zf (by kernel_rfl),?_⟩
  exact zD (by first | trivial | (simp;done) | (simp;omega)) (by rw [<-hr]<;>first | rfl | (simp [zJ];done) | (simp_all [zJ];done)) (by simp [ends])
 refine za (fun h10=>?_) fun h10=>?_
 ·have e:op=10:=by simpa using h10
  subst e
  have hl:2<=l.length:=len2 (by simpa [xd] using hk)
  refine za (fun _=>?_) (fun h=>absurd h (by decide))
  refine ⟨by omega,by omega,?_⟩
  refine ze [[0],[0,0,0],[0,0,0]] [] (jR 10 (l.getD 0 default) (l.getD 1 default)) ?_
  simp -implicitDefEqProofs only [tabN,aV,↓zb,push_cast,simprocAttr,tte]
  refine ⟨zf (by kernel_rfl),?_⟩
  exact zD (by first | trivial | (simp;done) | (simp;omega)) (by rw [<-hr]<;>first | rfl | (simp [zJ];done) | (simp_all [zJ];done)) (by simp [ends])
 refine za (fun h12=>?_) fun h12=>?_
 ·have e:op=12:=by simpa using h12
  subst e
  have hl:2<=l.length:=len2 (by simpa [xd] using hk)
  refine ⟨by omega,by omega,?_⟩
  refine ze [[0],[0,0,0],[0,0,0]] [] (jR 12 (l.getD 0 default) (l.getD 1 default)) ?_
  simp -implicitDefEqProofs only [tabN,aV,↓zb,push_cast,simprocAttr,tte]
  refine ⟨zf (by kernel_rfl),?_⟩
  exact zD (by first | trivial | (simp;done) | (simp;omega)) (by rw [<-hr]<;>first | rfl | (simp [zJ];done) | (simp_all [zJ];done)) (by simp [ends])
 refine za (fun h11=>?_) fun h11=>?_
 ·have e:op=11:=by simpa using h11
  subst e
  have hl:1<=l.length:=len1 (by simpa [xd] using hk)
  refine ⟨by omega,?_⟩
  refine ze [[0],[0,0,0],[0,0,0]] [] (jR 7 ⟨1,0,ByteArray.empty⟩ (l.getD 0 default)) ?_
  simp -implicitDefEqProofs only [tabN,aV,↓zb,push_cast,simprocAttr,tte]
  exact zD (by first | trivial | (simp;done) | (simp;omega)) (by rw [<-hr]<;>first | rfl | (simp [zJ];done) | (simp_all [zJ];done)) (by simp [ends])
 refine za (fun h13=>?_) fun h13=>?_
 ·have e:op=13:=by simpa using h13
  subst e
  have hl:1<=l.length:=len1 (by simpa [xd] using hk)
  refine ⟨by omega,?_⟩
  refine za (fun g=>?_) fun g=>?_
  ·refine ⟨by omega,?_⟩
   have g1:(l.getD 0 default).kind=3:=by simpa using g
   have hM:zJ 13 l=⟨1,(l.getD 0 default).text.size,ByteArray.empty⟩:=if_pos g1
   rw [hM] at hr
   exact zD (by first | trivial | (simp;done) | (simp;omega)) (by rw [<-hr]<;>first | rfl | (simp [zJ];done) | (simp_all [zJ];done)) (by simp [ends])
  ·have g1: ¬(l.getD 0 default).kind=3:=by simpa using g
   have hM:zJ 13 l=zu:=if_neg g1
   rw [hM] at hr
   exact zD (by first | trivial | (simp;done) | (simp;omega)) (by rw [<-hr]<;>first | rfl | (simp [zu];done) | (simp_all [zu];done)) (by simp [ends])
 refine za (fun h14=>?_) fun h14=>?_
 ·have e:op=14:=by simpa using h14
  subst e
  have hl:2<=l.length:=len2 (by simpa [xd] using hk)
  refine ⟨by omega,by omega,?_⟩
  refine ze [[0,0,0],[0,0,0]] [] (c_equal (l.getD 0 default) (l.getD 1 default)) ?_
  simp -implicitDefEqProofs only [tabN,aV,↓zb,push_cast,simprocAttr,tte]
  refine ⟨zf (by kernel_rfl),?_⟩
  exact zD (by first | trivial | (simp;done) | (simp;omega)) (by rw [<-hr]<;>first | rfl | (simp [zJ];done) | (simp_all [zJ];done)) (by simp [ends])
 refine za (fun h15=>?_) fun h15=>?_
 ·have e:op=15:=by simpa using h15
  subst e
  have hl:2<=l.length:=len2 (by simpa [xd] using hk)
  refine ⟨by omega,by omega,?_⟩
  refine ze [[0,0,0],[0,0,0]] [] (c_equal (l.getD 0 default) (l.getD 1 default)) ?_
  simp -implicitDefEqProofs only [tabN,aV,↓zb,push_cast,simprocAttr,tte]
  refine ze [[0,0,0]] [] (c_not (vp (l.getD 0 default) (l.getD 1 default))) ?_
  simp -implicitDefEqProofs only [tabN,aV,↓zb,push_cast,simprocAttr,tte]
  refine ⟨zf (by kernel_rfl),?_⟩
  exact zD (by first | trivial | (simp;done) | (simp;omega)) (by rw [<-hr]<;>first | rfl | (simp [zJ];done) | (simp_all [zJ];done)) (by simp [ends])
 refine za (fun h16=>?_) fun h16=>?_
 ·have e:op=16:=by simpa using h16
  subst e
  have hl:2<=l.length:=len2 (by simpa [xd] using hk)
  refine ⟨by omega,by omega,?_⟩
  refine ze [[0,0,0],[0,0,0]] [] (c_less (l.getD 0 default) (l.getD 1 default)) ?_
  simp -implicitDefEqProofs only [tabN,aV,↓zb,push_cast,simprocAttr,tte]
  refine ⟨zf (by kernel_rfl),?_⟩
  exact zD (by first | trivial | (simp;done) | (simp;omega)) (by rw [<-hr]<;>first | rfl | (simp [zJ];done) | (simp_all [zJ];done)) (by simp [ends])
 refine za (fun h17=>?_) fun h17=>?_
 ·have e:op=17:=by simpa using h17
  subst e
  have hl:2<=l.length:=len2 (by simpa [xd] using hk)
  refine ⟨by omega,by omega,?_⟩
  refine ze [[0,0,0],[0,0,0]] [] (c_less (l.getD 1 default) (l.getD 0 default)) ?_
  simp -implicitDefEqProofs only [tabN,aV,↓zb,push_cast,simprocAttr,tte]
  refine ze [[0,0,0]] [] (c_not (km (l.getD 1 default) (l.getD 0 default))) ?_
  simp -implicitDefEqProofs only [tabN,aV,↓zb,push_cast,simprocAttr,tte]
  refine ⟨zf (by kernel_rfl),?_⟩
  exact zD (by first | trivial | (simp;done) | (simp;omega)) (by rw [<-hr]<;>first | rfl | (simp [zJ];done) | (simp_all [zJ];done)) (by simp [ends])
 refine za (fun h18=>?_) fun h18=>?_
 ·have e:op=18:=by simpa using h18
  subst e
  have hl:2<=l.length:=len2 (by simpa [xd] using hk)
  refine ⟨by omega,by omega,?_⟩
  refine ze [[0,0,0],[0,0,0]] [] (c_less (l.getD 1 default) (l.getD 0 default)) ?_
  simp -implicitDefEqProofs only [tabN,aV,↓zb,push_cast,simprocAttr,tte]
  refine ⟨zf (by kernel_rfl),?_⟩
  exact zD (by first | trivial | (simp;done) | (simp;omega)) (by rw [<-hr]<;>first | rfl | (simp [zJ];done) | (simp_all [zJ];done)) (by simp [ends])
 refine za (fun h19=>?_) fun h19=>?_
 ·have e:op=19:=by simpa using h19
  subst e
  have hl:2<=l.length:=len2 (by simpa [xd] using hk)
  refine ⟨by omega,by omega,?_⟩
  refine ze [[0,0,0],[0,0,0]] [] (c_less (l.getD 0 default) (l.getD 1 default)) ?_
  simp -implicitDefEqProofs only [tabN,aV,↓zb,push_cast,simprocAttr,tte]
  refine ze [[0,0,0]] [] (c_not (km (l.getD 0 default) (l.getD 1 default))) ?_
  simp -implicitDefEqProofs only [tabN,aV,↓zb,push_cast,simprocAttr,tte]
  refine ⟨zf (by kernel_rfl),?_⟩
  exact zD (by first | trivial | (simp;done) | (simp;omega)) (by rw [<-hr]<;>first | rfl | (simp [zJ];done) | (simp_all [zJ];done)) (by simp [ends])
 refine za (fun h20=>?_) fun h20=>?_
 ·have e:op=20:=by simpa using h20
  subst e
  have hl:2<=l.length:=len2 (by simpa [xd] using hk)
  refine ⟨by omega,by omega,?_⟩
  refine ze [[0,0,0],[0,0,0]] [] (c_same (l.getD 0 default) (l.getD 1 default)) ?_
  simp -implicitDefEqProofs only [tabN,aV,↓zb,push_cast,simprocAttr,tte]
  refine ze [[0]] [] (c_etruth (wF (l.getD 0 default) (l.getD 1 default))) ?_
  simp -implicitDefEqProofs only [tabN,aV,↓zb,push_cast,simprocAttr,tte]
  refine ⟨zf (by kernel_rfl),?_⟩
  exact zD (by first | trivial | (simp;done) | (simp;omega)) (by rw [<-hr]<;>first | rfl | (simp [zJ];done) | (simp_all [zJ];done)) (by simp [ends])
 refine za (fun h21=>?_) fun h21=>?_
 ·have e:op=21:=by simpa using h21
  subst e
  have hl:1<=l.length:=len1 (by simpa [xd] using hk)
  refine ⟨by omega,?_⟩
  refine ze [[0]] [] (c_etruth ((l.getD 0 default).kind==0)) ?_
  simp -implicitDefEqProofs only [tabN,aV,↓zb,push_cast,simprocAttr,tte]
  exact zD (by first | trivial | (simp;done) | (simp;omega)) (by rw [<-hr]<;>first | rfl | (simp [zJ];done) | (simp_all [zJ];done)) (by simp [ends])
 refine za (fun h22=>?_) fun h22=>?_
 ·have e:op=22:=by simpa using h22
  subst e
  have hl:2<=l.length:=len2 (by simpa [xd] using hk)
  refine ⟨by omega,by omega,?_⟩
  refine ze [[0,0,0],[0,0,0]] [] (c_and (l.getD 0 default) (l.getD 1 default)) ?_
  simp -implicitDefEqProofs only [tabN,aV,↓zb,push_cast,simprocAttr,tte]
  refine ⟨zf (by kernel_rfl),?_⟩
  exact zD (by first | trivial | (simp;done) | (simp;omega)) (by rw [<-hr]<;>first | rfl | (simp [zJ];done) | (simp_all [zJ];done)) (by simp [ends])
 refine za (fun h23=>?_) fun h23=>?_
 ·have e:op=23:=by simpa using h23
  subst e
  have hl:2<=l.length:=len2 (by simpa [xd] using hk)
  refine ⟨by omega,by omega,?_⟩
  refine ze [[0,0,0],[0,0,0]] [] (c_or2 (l.getD 0 default) (l.getD 1 default)) ?_
  simp -implicitDefEqProofs only [tabN,aV,↓zb,push_cast,simprocAttr,tte]
  refine ⟨zf (by kernel_rfl),?_⟩
  exact zD (by first | trivial | (simp;done) | (simp;omega)) (by rw [<-hr]<;>first | rfl | (simp [zJ];done) | (simp_all [zJ];done)) (by simp [ends])
 refine za (fun h24=>?_) fun h24=>?_
 ·have e:op=24:=by simpa using h24
  subst e
  have hl:1<=l.length:=len1 (by simpa [xd] using hk)
  refine ⟨by omega,?_⟩
  refine ze [[0,0,0]] [] (c_not (l.getD 0 default)) ?_
  simp -implicitDefEqProofs only [tabN,aV,↓zb,push_cast,simprocAttr,tte]
  exact zD (by first | trivial | (simp;done) | (simp;omega)) (by rw [<-hr]<;>first | rfl | (simp [zJ];done) | (simp_all [zJ];done)) (by simp [ends])
 refine za (fun h25=>?_) fun h25=>?_
 ·have e:op=25:=by simpa using h25
  subst e
  have hl:1<=l.length:=len1 (by simpa [xd] using hk)
  refine ⟨by omega,?_⟩
  refine ze [[0,0,0]] [] (jS (l.getD 0 default)) ?_
  simp -implicitDefEqProofs only [tabN,aV,↓zb,push_cast,simprocAttr,tte]
  refine ze [[0]] [] (c_etruth (y7 (l.getD 0 default)==1)) ?_
  simp -implicitDefEqProofs only [tabN,aV,↓zb,push_cast,simprocAttr,tte]
  exact zD (by first | trivial | (simp;done) | (simp;omega)) (by rw [<-hr]<;>first | rfl | (simp [zJ];done) | (simp_all [zJ];done)) (by simp [ends])
 refine za (fun h27=>?_) fun h27=>?_
 ·have e:op=27:=by simpa using h27
  subst e
  have hl:2<=l.length:=len2 (by simpa [xd] using hk)
  refine ⟨by omega,?_⟩
  refine za (fun g=>?_) fun g=>?_
  ·refine ⟨by omega,?_⟩
   have g1:(l.getD 0 default).kind=0:=by simpa using g
   have hM:zJ 27 l=(l.getD 1 default):=if_pos g1
   rw [hM] at hr
   exact zD (by first | trivial | (simp;done) | (simp;omega)) (by rw [<-hr]<;>first | rfl | (simp [zJ];done) | (simp_all [zJ];done)) (by simp [ends])
  ·refine ⟨by omega,?_⟩
   have g1: ¬(l.getD 0 default).kind=0:=by simpa using g
   have hM:zJ 27 l=(l.getD 0 default):=if_neg g1
   rw [hM] at hr
   exact zD (by first | trivial | (simp;done) | (simp;omega)) (by rw [<-hr]<;>first | rfl | (simp [zJ];done) | (simp_all [zJ];done)) (by simp [ends])
 refine za (fun h28=>?_) fun h28=>?_
 ·have e:op=28:=by simpa using h28
  subst e
  have hl:2≤l.length:=by have:(l.length:Int)≥2:=by simpa [xd] using hk
                         omega
  refine ze [[0]] [] (c_bool0) ?_
  simp -implicitDefEqProofs only [tabN,aV,↓zb,push_cast,simprocAttr,tte]
  refine ⟨by omega,?_⟩
  have hM:zJ 28 l=inM (l.getD 0 default) (ofV false) (l.drop 1):=rfl
  rw [hM] at hr
  have hdl:(l.drop 1).length<=1000:=by simp;omega
  simp only [List.take_length]
  generalize l.drop 1=r at hr hdl ⊢
  have hsn: ∀n,n<r.length->inM (l.getD 0 default) (ofV false) (r.take (n+1))=orM (inM (l.getD 0 default) (ofV false) (r.take n)) (vp (l.getD 0 default) (r.getD n default)):=fun n h=>by
   rw [zz _ _ h,inM_snoc]
  generalize hv0:l.getD 0 default=v0 at hr hsn
  generalize ha:(fun n:Nat=>inM v0 (ofV false) (r.take n))=acc
  have ha0:acc 0=ofV false:=by rw [<-ha];rfl
  have hsn: ∀n,n<r.length->acc (n+1)=orM (acc n) (vp v0 (r.getD n default)):=fun n h=>by rw [<-ha];exact hsn n h
  have haN:acc r.length=inM v0 (ofV false) r:=by rw [<-ha];simp
  rw [<-haN] at hr
  refine zo mixed ttok 170 [1,4,5,168,169] [4] (by simp only [zC,ends,push_cast,simprocAttr];rfl) (by simp only [zH,zp,ends,push_cast,simprocAttr];rfl) r.length (fun _=>True) (fun _=>[]) (fun n=>[(5,.var [.d (.lit (.int .i64 (acc n).kind)),.d (.lit (.int .i64 (acc n).num)),.d (.lit (.string (acc n).text))])]) trivial ?_ ?_
  ·exact Weak.keepL (by simp [cst,ha0,ends]) (by simp [cst,ha0,ends]) (by simp [cst,ha0,ends])
  intro I hI n hn hi
  simp -implicitDefEqProofs only [cst,↓zb,push_cast,simprocAttr,tte]
  refine za (fun h=>?_) fun h=>?_
  ·simp only [decide_eq_true_eq] at h
   have h':n<r.length:=by omega
   have hw:=zh h' (by omega)
   refine ⟨(by first | omega | trivial | (refine ⟨?_,?_⟩<;>first | omega | trivial | (refine ⟨?_,?_⟩<;>first | omega | trivial | (refine ⟨?_,?_⟩<;>first | omega | trivial | rfl)))),by omega,?_⟩
   rw [hv0]
   refine ze [[0,0,0],[0,0,0]] [] (c_equal v0 (r.getD n default)) ?_
   simp -implicitDefEqProofs only [tabN,aV,↓zb,push_cast,simprocAttr,tte]
   refine ze [[0,0,0],[0,0,0]] [] (c_or2 (acc n) (vp v0 (r.getD n default))) ?_
   simp -implicitDefEqProofs only [tabN,aV,↓zb,push_cast,simprocAttr,tte]
   refine ⟨zf (by kernel_rfl),?_⟩
   rw [<-hsn n h']
   exact zn hI n rfl h' trivial (by simp [hw,ends]) (by simp [hw,ends]) (by simp [hw,ends]) (by simp [hw,ends])
  ·have hn':n=r.length:=by simp at h;omega
   subst hn'
   exact zD (by first | trivial | (simp;done) | (simp;omega)) (by rw [<-hr]<;>first | rfl | (simp [zu];done) | (simp_all [zu];done)) (by simp [ends])
 ·have hM:zJ op l=zu:=by
   simp only [beq_eq_false_iff_ne,ne_eq] at h6 h7 h8 h9 h10 h11 h12 h13 h14 h15 h16 h17 h18 h19 h20 h21 h22 h23 h24 h25 h27 h28
   simp only [zJ, *,or_self,if_false]
  rw [hM] at hr
  exact zD (by first | trivial | (simp;done) | (simp;omega)) (by rw [<-hr]<;>first | rfl | (simp [zu];done) | (simp_all [zu];done)) (by simp [ends])
end
section
open Go.Am
attribute [local simp, local push_cast] num boo str ints aV aTab zx aS aT aC aRow aOp
def evalK (row:List Val) (e:Ex) (vs:List Val):Val:=
 if yM e=false then zu
 else if e.op=2 then ⟨1,e.num,ByteArray.empty⟩ else if e.op=3 then ⟨2,e.num,ByteArray.empty⟩ else if e.op=4 then ⟨3,0,e.text⟩
 else if e.op=5 then (if 0<=e.col/\e.col<row.length then row.getD e.col.toNat default else zu)
 else if e.op=26 then (if y7 (vs.getD 0 default)=1 then vs.getD 1 default else vs.getD 2 default)
 else zJ e.op vs
mutual
def y9 (row:List Val):Ex->Val
 | .mk a b c d g ks=>evalK row (.mk a b c d g ks) (evalL row ks)
def evalL (row:List Val):List Ex->List Val
 | []=>[]
 | e::l=>y9 row e::evalL row l
end
theorem evalL_eq (row:List Val): ∀l,evalL row l=l.map (y9 row)
 | []=>rfl
 | e::l=>by rw [evalL,evalL_eq row l];rfl
theorem evalM_eq (row:List Val) (e:Ex):y9 row e=evalK row e (e.kids.map (y9 row)):=by cases e;rw [y9,evalL_eq];rfl
def ja (row:List Val) (e:Ex) (n:Nat):List Val:=(e.kids.take n).map (y9 row)
theorem valsTo_succ (row:List Val) (e:Ex) (n:Nat) (h:n<e.kids.length):ja row e (n+1)=ja row e n++[y9 row (e.kids.getD n default)]:=by
 rw [ja,zz _ _ h,List.map_append];rfl
theorem valsTo_length (row:List Val) (e:Ex) (n:Nat) (h:n<=e.kids.length):(ja row e n).length=n:=by simp [ja];omega
theorem kids_op {e:Ex} (h:yM e=true):xd e.op e.kids.length=true:=by
 have:isOp e.op=true:=by simp only [yM,Bool.and_eq_true] at h;exact h.1
 rw [kids_count this];exact h
theorem u5 {α β:Type} [Inhabited α] [Inhabited β] (f:α->β) (l:List α) (n:Nat) (h:n<l.length):(l.map f).getD n default=f (l.getD n default):=by
 simp [List.getD_eq_getElem?_getD,h]
theorem c_eval (row:List Val): ∀e:Ex,Ok12 e→ACall Tryz.prog 61 [aE e,aRow row] [] (aV (y9 row e)) []:=
 jL (p:=fun e=>Ok12 e->ACall Tryz.prog 61 [aE e,aRow row] [] (aV (y9 row e)) []) fun e ih ho=>by
 refine zl mixed ttok Tryz.func61 Tryz.ntmps61 Tryz.results61 ?_
 generalize hr:aV (y9 row e)=R
 have hl:=ho.kids
 rw [evalM_eq] at hr
 unfold evalK at hr
 simp -implicitDefEqProofs only [argT,tabN,↓zb,push_cast,simprocAttr,tte]
 refine ze [[0,0,0,0,0,6]] [] (c_known e) ?_
 simp -implicitDefEqProofs only [tabN,aOp,↓zb,push_cast,simprocAttr,tte]
 refine za (fun hc=>?_) fun hc=>?_
 ·rw [if_pos (by simpa using hc)] at hr
  exact zD (by first | trivial | (simp;done) | (simp;omega)) (by rw [<-hr]<;>first | rfl | (simp [zu];done) | (simp_all [zu];done)) (by simp [ends])
 have hc':yM e=true:=by simpa using hc
 rw [if_neg (by rw [hc'];decide)] at hr
 have hkk:=kids_op hc'
 refine za (fun h2=>?_) fun h2=>?_
 ·rw [if_pos (by simpa using h2)] at hr
  exact zD (by first | trivial | (simp;done) | (simp;omega)) (by rw [<-hr]<;>first | rfl | (simp [zu];done) | (simp_all [zu];done)) (by simp [ends])
 rw [if_neg (by simpa using h2)] at hr
 refine za (fun h3=>?_) fun h3=>?_
 ·rw [if_pos (by simpa using h3)] at hr
  exact zD (by first | trivial | (simp;done) | (simp;omega)) (by rw [<-hr]<;>first | rfl | (simp [zu];done) | (simp_all [zu];done)) (by simp [ends])
 rw [if_neg (by simpa using h3)] at hr
 refine za (fun h4=>?_) fun h4=>?_
 ·rw [if_pos (by simpa using h4)] at hr
  exact zD (by first | trivial | (simp;done) | (simp;omega)) (by rw [<-hr]<;>first | rfl | (simp [zu];done) | (simp_all [zu];done)) (by simp [ends])
 rw [if_neg (by simpa using h4)] at hr
 refine za (fun h5=>?_) fun h5=>?_
 ·rw [if_pos (by simpa using h5)] at hr
  refine za (fun g1=>?_) fun g1=>?_
  ·simp only [ge_iff_le,decide_eq_true_eq] at g1
   refine za (fun g2=>?_) fun g2=>?_
   ·simp only [decide_eq_true_eq] at g2
    rw [if_pos ⟨g1,g2⟩] at hr
    refine ⟨⟨g1,g2⟩,?_⟩
    exact zD (by first | trivial | (simp;done) | (simp;omega)) (by rw [<-hr]<;>first | rfl | (simp [zu];done) | (simp_all [zu];done)) (by simp [ends])
   ·simp only [decide_eq_false_iff_not] at g2
    rw [if_neg (fun h=>g2 h.2)] at hr
    exact zD (by first | trivial | (simp;done) | (simp;omega)) (by rw [<-hr]<;>first | rfl | (simp [zu];done) | (simp_all [zu];done)) (by simp [ends])
  ·simp only [ge_iff_le,decide_eq_false_iff_not] at g1
   rw [if_neg (fun h=>g1 h.1)] at hr
   exact zD (by first | trivial | (simp;done) | (simp;omega)) (by rw [<-hr]<;>first | rfl | (simp [zu];done) | (simp_all [zu];done)) (by simp [ends])
 rw [if_neg (by simpa using h5)] at hr
 refine za (fun h26=>?_) fun h26=>?_
 ·have e26:e.op=26:=by simpa using h26
  rw [if_pos e26] at hr
  have hl3:e.kids.length=3:=by
   rw [e26] at hkk
   have:(e.kids.length:Int)=3:=by simpa [xd] using hkk
   omega
  rw [u5 _ _ _ (by omega),u5 _ _ _ (by omega),u5 _ _ _ (by omega)] at hr
  have hg: ∀n,n<3->e.kids.getD n default∈e.kids:=fun n h=>zk (by omega)
  refine ⟨by omega,?_⟩
  refine ze [[0,0,0,0,0,6],[3]] [] (ih _ (hg 0 (by omega)) (ho.kid (hg 0 (by omega)))) ?_
  simp -implicitDefEqProofs only [tabN,aV,↓zb,push_cast,simprocAttr,tte]
  refine ze [[0,0,0]] [] (jS (y9 row (e.kids.getD 0 default))) ?_
  simp -implicitDefEqProofs only [tabN,aV,↓zb,push_cast,simprocAttr,tte]
  refine za (fun g=>?_) fun g=>?_
  ·rw [if_pos (by simpa using g)] at hr
   refine ⟨by omega,?_⟩
   refine ze [[0,0,0,0,0,6],[3]] [] (ih _ (hg 1 (by omega)) (ho.kid (hg 1 (by omega)))) ?_
   simp -implicitDefEqProofs only [tabN,aV,↓zb,push_cast,simprocAttr,tte]
   exact zD (by first | trivial | (simp;done) | (simp;omega)) (by rw [<-hr]<;>first | rfl | (simp [zu];done) | (simp_all [zu];done)) (by simp [ends])
  ·rw [if_neg (by simpa using g)] at hr
   refine ⟨by omega,?_⟩
   refine ze [[0,0,0,0,0,6],[3]] [] (ih _ (hg 2 (by omega)) (ho.kid (hg 2 (by omega)))) ?_
   simp -implicitDefEqProofs only [tabN,aV,↓zb,push_cast,simprocAttr,tte]
   exact zD (by first | trivial | (simp;done) | (simp;omega)) (by rw [<-hr]<;>first | rfl | (simp [zu];done) | (simp_all [zu];done)) (by simp [ends])
 rw [if_neg (by simpa using h26)] at hr
 refine zo mixed ttok 80 [1,2,4,78,79] [2,4] (by simp only [zC,ends,push_cast,simprocAttr];rfl) (by simp only [zH,zp,ends,push_cast,simprocAttr];rfl) e.kids.length (fun _=>True) (fun n=>[(8,.vec 500 n)]) (fun n=>[(500,.vec 71 3 (zd rV (ja row e n)) 0)]) trivial ?_ ?_
 ·exact (Weak.nilL 8 500 71 3 rfl rfl).trans (Weak.keepL (by simp [cst,ends]) (by simp [cst,ja,ends]) (by simp [cst,ends]))
 intro I hI n hn hi
 have hl2:=valsTo_length row e n hn
 simp -implicitDefEqProofs only [cst,↓zb,push_cast,simprocAttr,tte]
 refine za (fun h=>?_) fun h=>?_
 ·simp only [decide_eq_true_eq] at h
  have h':n<e.kids.length:=by omega
  have hw:=zh h' (by omega)
  have hs:=valsTo_succ row e n h'
  refine ⟨(by first | omega | trivial | (refine ⟨?_,?_⟩<;>first | omega | trivial | (refine ⟨?_,?_⟩<;>first | omega | trivial | (refine ⟨?_,?_⟩<;>first | omega | trivial | rfl)))),?_⟩
  refine ze [[0,0,0,0,0,6],[3]] [] (ih _ (zk h') (ho.kid (zk h'))) ?_
  simp -implicitDefEqProofs only [tabN,aV,↓zb,push_cast,simprocAttr,tte]
  refine ⟨⟨hl2.symm,by rw [hl2];omega⟩,?_⟩
  exact zn hI n rfl h' trivial (by simp [hw,hs,hl2,zj,rV,ends]) (by simp [hw,hs,hl2,zj,rV,ends]) (by simp [hw,hs,hl2,zj,rV,ends]) (by simp [hw,hs,hl2,zj,rV,ends])
 simp only [decide_eq_false_iff_not] at h
 obtain rfl:n=e.kids.length:=by omega
 clear hI
 have hT:ja row e e.kids.length=e.kids.map (y9 row):=by rw [ja,List.take_length]
 rw [<-hT] at hr
 rw [<-hl2] at hkk hl
 generalize ja row e e.kids.length=l at hl2 hr hkk hl ⊢
 refine ze [[0],[3]] [] (c_apply e.op l hkk (by omega)) ?_
 simp -implicitDefEqProofs only [tabN,aV,↓zb,push_cast,simprocAttr,tte]
 exact zD (by first | trivial | (simp;done) | (simp;omega)) (by rw [<-hr]<;>first | rfl | (simp [zu];done) | (simp_all [zu];done)) (by simp [ends])
end
section
open Go.Am
attribute [local simp, local push_cast] num boo str ints aV aTab zx aS aT aC aRow aOp
end
section
open Go.Am
attribute [local simp, local push_cast] num boo str ints aV aTab zx aS aT aC aRow rRow
def cmpR:List Val->List Val->Int
 | [],[]=>0
 | [],_::_=> -1
 | _::_,[]=>1
 | x::a,y::b=>if cmpM x y≠0 then cmpM x y else cmpR a b
theorem cmpR_end {a b:List Val} {n:Nat} (ha:n<=a.length) (hb:n<=b.length) (h:n=a.length\/n=b.length):
 cmpR (a.drop n) (b.drop n)=if a.length<b.length then -1 else if a.length>b.length then 1 else 0:=by
 rcases h with rfl | rfl
 ·rw [List.drop_length]
  by_cases h2:a.length<b.length
  ·rw [zy _ _ h2,if_pos h2];rfl
  ·have:b.drop a.length=[]:=List.drop_eq_nil_of_le (by omega)
   rw [this,if_neg h2,if_neg (by omega)];rfl
 ·rw [List.drop_length]
  by_cases h2:b.length<a.length
  ·rw [zy _ _ h2,if_neg (by omega),if_pos h2];rfl
  ·have:a.drop b.length=[]:=List.drop_eq_nil_of_le (by omega)
   rw [this,if_neg (by omega),if_neg (by omega)];rfl
end
section
open Go.Am
attribute [local simp, local push_cast] num boo str ints aV aTab zx aS aT aC aRow rRow
theorem yz: ∀a:Row,cmpR a a=0
 | []=>rfl
 | x::a=>by rw [cmpR,(w9 x x).2 rfl,if_neg (by decide)];exact yz a
theorem vd: ∀(a b:Row),cmpR a b=0 ↔ a=b
 | [],[]=>by simp [cmpR]
 | [],_::_=>by simp [cmpR]
 | _::_,[]=>by simp [cmpR]
 | x::a,y::b=>by
   have ih:=vd a b
   have h1:=w9 x y
   simp only [cmpR,List.cons.injEq]
   by_cases h:cmpM x y=0
   ·rw [if_neg (by simpa using h),ih,<-h1];simp [h]
   ·rw [if_pos h]
    exact ⟨fun e=>absurd e h,fun e=>absurd (h1.2 e.1) h⟩
theorem cmpR_le: ∀a b:Row,cmpR a b<=0 ↔ ¬cmpR b a<0
 | [],[]=>by simp [cmpR]
 | [],_::_=>by simp [cmpR]
 | _::_,[]=>by simp [cmpR]
 | x::a,y::b=>by
   have ih:=cmpR_le a b
   have h1:=gf x y
   simp only [cmpR]
   by_cases h:cmpM x y=0
   ·have hxy:=(w9 x y).1 h
    subst hxy
    simp only [h,ne_eq,not_true_eq_false,if_false]
    exact ih
   ·have h':cmpM y x≠0:=fun e=>h ((w9 x y).2 ((w9 y x).1 e).symm)
    rw [if_pos h,if_pos h']
    exact h1
theorem qw: ∀a b c:Row,cmpR a b<0→cmpR b c<0→cmpR a c<0
 | [],[],_,h,_=>by simp [cmpR] at h
 | [],_::_,[],_,h=>by simp [cmpR] at h
 | [],_::_,_::_,_,_=>by simp [cmpR]
 | _::_,[],_,h,_=>by simp [cmpR] at h
 | _::_,_::_,[],_,h=>by simp [cmpR] at h
 | x::a,y::b,z::c,h1,h2=>by
   have ih:=qw a b c
   simp only [cmpR] at h1 h2 ⊢
   by_cases hxy:cmpM x y=0
   ·have e:=(w9 x y).1 hxy
    subst e
    rw [if_neg (by simpa using hxy)] at h1
    by_cases hyz:cmpM x z=0
    ·rw [if_neg (by simpa using hyz)] at h2 ⊢
     exact ih h1 h2
    ·rw [if_pos hyz] at h2 ⊢
     exact h2
   ·rw [if_pos hxy] at h1
    by_cases hyz:cmpM y z=0
    ·have e:=(w9 y z).1 hyz
     subst e
     rw [if_pos hxy]
     exact h1
    ·rw [if_pos hyz] at h2
     have h3:=uG h1 h2
     rw [if_pos (by omega)]
     exact h3
def leR (x y:Row):Bool:=decide (cmpR x y<=0)
theorem uh (a b:Row):leR a b=true ↔ cmpR a b<=0:=by simp [leR]
theorem leR_false (a b:Row):leR a b=false ↔ cmpR b a<0:=by
 have:=cmpR_le a b
 simp only [leR,decide_eq_false_iff_not]
 omega
theorem ordR:Ord leR where
 trans a b c h1 h2:=by
  rw [uh] at *
  by_cases e1:cmpR a b=0
  ·rw [(vd a b).1 e1];exact h2
  by_cases e2:cmpR b c=0
  ·rw [<-(vd b c).1 e2];exact h1
  have:=qw a b c (by omega) (by omega)
  omega
 total a b:=by
  cases h:leR a b with
  | true=>rfl
  | false=>
    have:=(leR_false a b).1 h
    simp only [Bool.false_or,uh]
    omega
theorem leR_anti {a b:Row} (h1:leR a b=true) (h2:leR b a=true):a=b:=by
 rw [uh] at *
 have:=cmpR_le b a
 exact (vd a b).1 (by omega)
abbrev srt (l:List Row):List Row:=zA leR l
theorem asc_uniq {a b:List Row} (ha:Asc leR a) (hb:Asc leR b) (h:a.Perm b):a=b:=
 h.eq_of_pairwise (fun x y _ _ h1 h2=>leR_anti h1 h2) ha hb
theorem srt_asc {a:List Row} (h:Asc leR a):srt a=a:=asc_uniq (yO ordR a) h (zS a)
structure Grp where
 row:Row
 m:Nat
 n:Nat
instance:Inhabited Grp:=⟨⟨[],0,0⟩⟩
def rG (g:Grp):List D:=[.sl 3 (zd rV g.row),.lit (.int .i64 g.m),.lit (.int .i64 g.n)]
def cntR (r:Row) (l:List Row):Nat:=(l.takeWhile fun x=>cmpR x r==0).length
theorem xH (r x:Row) (l:List Row):cntR r (x::l)=if cmpR x r=0 then cntR r l+1 else 0:=by
 unfold cntR
 rw [List.takeWhile_cons]
 by_cases h:cmpR x r=0<;>simp [h]
theorem xx (r:Row) (l:List Row):cntR r l<=l.length:=(List.takeWhile_prefix _).length_le
theorem cntR_in (r:Row): ∀(l:List Row) (j:Nat),j<cntR r l->cmpR (l.getD j default) r=0
 | [],j,h=>by simp [cntR] at h
 | x::l,j,h=>by
   rw [xH] at h
   split at h
   ·rename_i hx
    cases j with
    | zero=>simpa using hx
    | succ j=>simpa using cntR_in r l j (by omega)
   ·omega
theorem cntR_out (r:Row): ∀(l:List Row),cntR r l<l.length->cmpR (l.getD (cntR r l) default) r≠0
 | [],h=>by simp at h
 | x::l,h=>by
   rw [xH] at h ⊢
   split at h
   ·rename_i hx
    rw [if_pos hx]
    simpa using cntR_out r l (by simpa using h)
   ·rename_i hx
    rw [if_neg hx]
    simpa using hx
def yh:List Row->List Row->Row
 | [],[]=>[]
 | [],y::_=>y
 | x::_,[]=>x
 | x::_,y::_=>if leR x y=true then x else y
def grpF:Nat->List Row->List Row->List Grp
 | 0,_,_=>[]
 | n+1,X,Y=>if X.length=0/\Y.length=0 then [] else ⟨yh X Y,cntR (yh X Y) X,cntR (yh X Y) Y⟩::grpF n (X.drop (cntR (yh X Y) X)) (Y.drop (cntR (yh X Y) Y))
theorem vl (X Y:List Row) (h: ¬(X.length=0/\Y.length=0)):0<cntR (yh X Y) X+cntR (yh X Y) Y:=by
 match X,Y,h with
 | [],[],h=>exact absurd ⟨rfl,rfl⟩ h
 | [],y::Y,_=>rw [yh,xH,if_pos (yz y)];omega
 | x::X,[],_=>rw [yh,xH,if_pos (yz x)];omega
 | x::X,y::Y,_=>
   rw [yh]
   split
   ·rw [xH,if_pos (yz x)];omega
   ·rw [xH (x:=y),if_pos (yz y)];omega
theorem grpF_fuel: ∀(n m:Nat) (X Y:List Row),X.length+Y.length<=n->X.length+Y.length<=m->grpF n X Y=grpF m X Y
 | 0,0,_,_,_,_=>rfl
 | 0,m+1,X,Y,h1,_=>by rw [grpF,grpF,if_pos (by omega)]
 | n+1,0,X,Y,_,h2=>by rw [grpF,grpF,if_pos (by omega)]
 | n+1,m+1,X,Y,h1,h2=>by
   rw [grpF,grpF]
   split
   ·rfl
   ·rename_i h
    have h3:=vl X Y h
    have h4:=xx (yh X Y) X
    have h5:=xx (yh X Y) Y
    rw [grpF_fuel n m _ _ (by simp;omega) (by simp;omega)]
def grpM (X Y:List Row):List Grp:=grpF (X.length+Y.length) X Y
theorem grpM_nil:grpM [] []=[]:=rfl
theorem vn {X Y:List Row} (h: ¬(X.length=0/\Y.length=0)):
 grpM X Y=⟨yh X Y,cntR (yh X Y) X,cntR (yh X Y) Y⟩::grpM (X.drop (cntR (yh X Y) X)) (Y.drop (cntR (yh X Y) Y)):=by
 have h3:=vl X Y h
 have h4:=xx (yh X Y) X
 have h5:=xx (yh X Y) Y
 have e:X.length+Y.length=(X.length+Y.length-1)+1:=by omega
 unfold grpM
 rw [e,grpF,if_neg h]
 simp only [List.length_drop]
 rw [grpF_fuel (X.length+Y.length-1) (X.length-cntR (yh X Y) X+(Y.length-cntR (yh X Y) Y)) _ _ (by simp only [List.length_drop];omega) (by simp only [List.length_drop];omega)]
theorem grpM_length: ∀(n:Nat) (X Y:List Row),X.length+Y.length<=n->(grpM X Y).length<=X.length+Y.length
 | 0,X,Y,h=>by
   have h1:X=[]:=List.eq_nil_of_length_eq_zero (by omega)
   have h2:Y=[]:=List.eq_nil_of_length_eq_zero (by omega)
   subst h1 h2
   exact Nat.le_refl _
 | n+1,X,Y,h=>by
   by_cases h0:X.length=0/\Y.length=0
   ·have h1:X=[]:=List.eq_nil_of_length_eq_zero h0.1
    have h2:Y=[]:=List.eq_nil_of_length_eq_zero h0.2
    subst h1 h2
    exact Nat.le_refl _
   ·have h3:=vl X Y h0
    have h4:=xx (yh X Y) X
    have h5:=xx (yh X Y) Y
    have ih:=grpM_length n (X.drop (cntR (yh X Y) X)) (Y.drop (cntR (yh X Y) Y)) (by simp;omega)
    rw [vn h0]
    simp only [List.length_cons,List.length_drop] at ih ⊢
    omega
theorem pick2_mem (X Y:List Row) (h: ¬(X.length=0/\Y.length=0)):yh X Y∈X++Y:=by
 match X,Y,h with
 | [],[],h=>exact absurd ⟨rfl,rfl⟩ h
 | [],y::Y,_=>simp [yh]
 | x::X,[],_=>simp [yh]
 | x::X,y::Y,_=>rw [yh];split<;>simp
theorem grpM_mem: ∀(n:Nat) (X Y:List Row),X.length+Y.length≤n→ ∀g∈grpM X Y,g.row∈X++Y∧g.m≤X.length∧g.n≤Y.length
 | 0,X,Y,h,g,hg=>by
   have h1:X=[]:=List.eq_nil_of_length_eq_zero (by omega)
   have h2:Y=[]:=List.eq_nil_of_length_eq_zero (by omega)
   subst h1 h2
   cases hg
 | n+1,X,Y,h,g,hg=>by
   by_cases h0:X.length=0/\Y.length=0
   ·have h1:X=[]:=List.eq_nil_of_length_eq_zero h0.1
    have h2:Y=[]:=List.eq_nil_of_length_eq_zero h0.2
    subst h1 h2
    cases hg
   ·have h3:=vl X Y h0
    have h4:=xx (yh X Y) X
    have h5:=xx (yh X Y) Y
    rw [vn h0] at hg
    rcases List.mem_cons.1 hg with rfl | hg
    ·exact ⟨pick2_mem X Y h0,h4,h5⟩
    ·obtain ⟨g1,g2,g3⟩:=grpM_mem n _ _ (by simp;omega) g hg
     simp only [List.length_drop] at g2 g3
     refine ⟨?_,by omega,by omega⟩
     rcases List.mem_append.1 g1 with q | q
     ·exact List.mem_append_left _ (List.mem_of_mem_drop q)
     ·exact List.mem_append_right _ (List.mem_of_mem_drop q)
def uU (t:Grp->Nat) (a b:List Row):List Row:=(grpM (srt a) (srt b)).flatMap fun g=>List.replicate (t g) g.row
def jb (all:Bool) (g:Grp):Nat:=if all then g.m+g.n else 1
def exceptT (all:Bool) (g:Grp):Nat:=if all then g.m-g.n else if 0<g.m/\g.n=0 then 1 else 0
def interT (all:Bool) (g:Grp):Nat:=if all then min g.m g.n else if 0<g.m/\0<g.n then 1 else 0
def j4 (rows:List Row):List Row:=uU (jb false) rows []
theorem distM_eq (l:List Row):j4 l=(grpM (srt l) []).map (·.row):=by
 unfold j4 uU jb
 rw [show srt []=[] from rfl]
 generalize grpM (srt l) []=G
 simp only [Bool.false_eq_true,if_false,List.replicate_one]
 induction G with
 | nil=>rfl
 | cons g G ih=>rw [List.flatMap_cons,ih];rfl
end
section
open Go.Am
attribute [local simp, local push_cast] num boo str ints aV aTab zx aS aT aC aRow rRow
end
section
open Go.Am
attribute [local simp, local push_cast] num boo str ints aV aTab zx aS aT aC aRow rRow
end
section
open Go.Am
attribute [local simp, local push_cast] num boo str ints aV aTab zx aS aT aC aRow rRow rG
theorem kU (X:List Row) (i j:Nat):(X.drop i).getD j default=X.getD (i+j) default:=by simp [List.getD_eq_getElem?_getD]
theorem pick2_l {X Y:List Row} {i k:Nat} (hi:i<X.length) (hk:k=Y.length):yh (X.drop i) (Y.drop k)=X.getD i default:=by
 have:Y.drop k=[]:=List.drop_eq_nil_of_le (by omega)
 rw [this,zy X i hi,yh]
theorem pick2_r {X Y:List Row} {i k:Nat} (hi:i=X.length) (hk:k<Y.length):yh (X.drop i) (Y.drop k)=Y.getD k default:=by
 have:X.drop i=[]:=List.drop_eq_nil_of_le (by omega)
 rw [this,zy Y k hk,yh]
theorem pick2_lt {X Y:List Row} {i k:Nat} (hi:i<X.length) (hk:k<Y.length) (h:leR (X.getD i default) (Y.getD k default)=true):yh (X.drop i) (Y.drop k)=X.getD i default:=by
 rw [zy X i hi,zy Y k hk,yh,if_pos h]
theorem pick2_gt {X Y:List Row} {i k:Nat} (hi:i<X.length) (hk:k<Y.length) (h:leR (X.getD i default) (Y.getD k default)=false):yh (X.drop i) (Y.drop k)=Y.getD k default:=by
 rw [zy X i hi,zy Y k hk,yh,if_neg (by rw [h];decide)]
theorem cnt_lt {X:List Row} {i j:Nat} {r:Row} (h1:i+j<X.length) (h2:j<=cntR r (X.drop i)) (h:cmpR (X.getD (i+j) default) r=0):j<cntR r (X.drop i):=by
 rcases Nat.lt_or_ge j (cntR r (X.drop i)) with q | q
 ·exact q
 ·have e:cntR r (X.drop i)=j:=by omega
  have:=cntR_out r (X.drop i) (by rw [e,List.length_drop];omega)
  rw [e,kU] at this
  exact absurd h this
theorem cnt_eq {X:List Row} {i j:Nat} {r:Row} (h2:j<=cntR r (X.drop i)) (h:X.length<=i+j\/cmpR (X.getD (i+j) default) r≠0):j=cntR r (X.drop i):=by
 rcases Nat.lt_or_ge j (cntR r (X.drop i)) with q | q
 ·rcases h with h | h
  ·have:=xx r (X.drop i)
   rw [List.length_drop] at this
   omega
  ·have:=cntR_in r (X.drop i) j q
   rw [kU] at this
   exact absurd this h
 ·omega
end
section
open Go.Am
attribute [local simp, local push_cast] num boo str ints aV aTab zx aS aT aC aRow rRow rG
def vecT (l:List Row):Ob:= .vec 53 1 (zd rRow l) 0
attribute [local simp, local push_cast] vecT
theorem comb_snoc (t:Grp->Nat) (G:List Grp) (n:Nat) (h:n<G.length):((G.take (n+1)).flatMap fun g=>List.replicate (t g) g.row)=((G.take n).flatMap fun g=>List.replicate (t g) g.row)++List.replicate (t (G.getD n default)) (G.getD n default).row:=by
 rw [zz _ _ h,List.flatMap_append];simp
theorem grp_sum: ∀(n:Nat) (X Y:List Row),X.length+Y.length<=n->((grpM X Y).map fun g=>g.m+g.n).sum=X.length+Y.length
 | 0,X,Y,h=>by
   have h1:X=[]:=List.eq_nil_of_length_eq_zero (by omega)
   have h2:Y=[]:=List.eq_nil_of_length_eq_zero (by omega)
   subst h1 h2
   rfl
 | n+1,X,Y,h=>by
   by_cases h0:X.length=0/\Y.length=0
   ·have h1:X=[]:=List.eq_nil_of_length_eq_zero h0.1
    have h2:Y=[]:=List.eq_nil_of_length_eq_zero h0.2
    subst h1 h2
    rfl
   ·have h3:=vl X Y h0
    have h4:=xx (yh X Y) X
    have h5:=xx (yh X Y) Y
    have ih:=grp_sum n (X.drop (cntR (yh X Y) X)) (Y.drop (cntR (yh X Y) Y)) (by simp;omega)
    rw [vn h0,List.map_cons,List.sum_cons,ih]
    simp only [List.length_drop]
    omega
theorem comb_le (t:Grp->Nat): ∀(G:List Grp),(∀g∈G,t g<=g.m+g.n)->(G.flatMap fun g=>List.replicate (t g) g.row).length<=(G.map fun g=>g.m+g.n).sum
 | [],_=>by simp
 | g::G,h=>by
   have h1:=h g (by simp)
   have h2:=comb_le t G fun x hx=>h x (by simp [hx])
   rw [List.flatMap_cons,List.length_append,List.length_replicate,List.map_cons,List.sum_cons]
   omega
theorem grp_one: ∀(n:Nat) (X Y:List Row),X.length+Y.length<=n-> ∀g∈grpM X Y,1<=g.m+g.n
 | 0,X,Y,h,g,hg=>by
   have h1:X=[]:=List.eq_nil_of_length_eq_zero (by omega)
   have h2:Y=[]:=List.eq_nil_of_length_eq_zero (by omega)
   subst h1 h2
   cases hg
 | n+1,X,Y,h,g,hg=>by
   by_cases h0:X.length=0/\Y.length=0
   ·have h1:X=[]:=List.eq_nil_of_length_eq_zero h0.1
    have h2:Y=[]:=List.eq_nil_of_length_eq_zero h0.2
    subst h1 h2
    cases hg
   ·have h3:=vl X Y h0
    have h4:=xx (yh X Y) X
    have h5:=xx (yh X Y) Y
    rw [vn h0] at hg
    rcases List.mem_cons.1 hg with rfl | hg
    ·exact h3
    ·exact grp_one n _ _ (by simp;omega) g hg
theorem unionT_le (all:Bool) (a b:List Row): ∀g∈grpM a b,jb all g<=g.m+g.n:=fun g hg=>by
 have:=grp_one _ _ _ (Nat.le_refl _) g hg
 unfold jb
 split<;>omega
theorem combM_len {t:Grp->Nat} {a b:List Row} (h: ∀g∈grpM (srt a) (srt b),t g<=g.m+g.n):(uU t a b).length<=a.length+b.length:=by
 have:=comb_le t (grpM (srt a) (srt b)) h
 rw [grp_sum _ _ _ (Nat.le_refl _),zK,zK] at this
 exact this
theorem combM_mem {t:Grp->Nat} {a b:List Row} {r:Row} (h:r∈uU t a b):r∈a\/r∈b:=by
 unfold uU at h
 rw [List.mem_flatMap] at h
 obtain ⟨g,hg,hr⟩:=h
 rw [List.eq_of_mem_replicate hr]
 have:=(grpM_mem _ _ _ (Nat.le_refl _) g hg).1
 rcases List.mem_append.1 this with q | q
 ·exact .inl ((zS a).mem_iff.1 q)
 ·exact .inr ((zS b).mem_iff.1 q)
theorem flat_take {t:Grp->Nat} {G:List Grp} {n:Nat}:((G.take n).flatMap fun g=>List.replicate (t g) g.row).length<=(G.flatMap fun g=>List.replicate (t g) g.row).length:=by
 have:G.flatMap (fun g=>List.replicate (t g) g.row)=(G.take n).flatMap (fun g=>List.replicate (t g) g.row)++(G.drop n).flatMap (fun g=>List.replicate (t g) g.row):=by rw [<-List.flatMap_append,List.take_append_drop]
 rw [this,List.length_append]
 omega
theorem grpM_ok {a b:List Row} (hl:a.length<=100000) (hm:b.length<=100000) (ha: ∀r∈a,r.length<=1000) (hb: ∀r∈b,r.length<=1000): ∀g∈grpM (srt a) (srt b),g.row.length<=1000/\g.m<=100000/\g.n<=100000:=fun g hg=>by
 obtain ⟨q1,q2,q3⟩:=grpM_mem _ _ _ (Nat.le_refl _) g hg
 rw [zK] at q2 q3
 refine ⟨?_,by omega,by omega⟩
 rcases List.mem_append.1 q1 with q | q
 ·exact ha _ ((zS a).mem_iff.1 q)
 ·exact hb _ ((zS b).mem_iff.1 q)
end
end Go.Proofs.YtnmibokjpedkiaaGreatDoor
