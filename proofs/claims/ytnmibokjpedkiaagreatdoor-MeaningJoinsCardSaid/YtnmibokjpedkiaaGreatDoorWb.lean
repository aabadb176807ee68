/- Joins of two tables: a proof over an abstract machine of our own (part Wb) -/
import Derived.Test.YtnmibokjpedkiaaGreatDoorWa
set_option maxRecDepth 100000
set_option maxHeartbeats 4000000
set_option linter.all false
namespace Go.Proofs.YtnmibokjpedkiaaGreatDoor
section
open Go.Am
attribute [local simp, local push_cast] num boo str ints aV aTab zv aS aT aC
theorem zt {p:Prop} {k n:Int} {s:ByteArray} {t:List (Nat×A)} {o:List (Nat×Ob)} {R:A} (hp:p) (hr:aV ⟨k,n,s⟩=R) (ho:keepIn (inO []) o):
 retx (some (p,.agg [.d (.lit (.int .i64 k)),.d (.lit (.int .i64 n)),.d (.lit (.string s))])) ⟨t,o⟩ R []:=by
 subst hr
 exact zu [0,0,0] rfl hp (by simp) rfl rfl trivial ho
theorem tabN:Tab.tab 2=some [.lit (.int .i64 0),.lit (.int .i64 0),.lit (.string ByteArray.empty)]:=rfl
def zl:Val:=⟨0,0,ByteArray.empty⟩
def zS (n:Int):Val:=if n≠0/\n≠1 then zl else ⟨2,n,ByteArray.empty⟩
def ofV (b:Bool):Val:=⟨2,if b then 1 else 0,ByteArray.empty⟩
def zQ (v:Val):Int:=if v.kind≠2 then 2 else if v.num=1 then 1 else 0
theorem vZ (n:Int):ACall Tryz.prog 173 [num n] [] (aV (zS n)) []:=by
 refine zn mixed ttok Tryz.func173 Tryz.ntmps173 Tryz.results173 ?_
 generalize hr:aV (zS n)=R
 simp -implicitDefEqProofs only [argT,tabN,↓zb,push_cast,simprocAttr,tte]
 refine za (fun h1=>?_) fun h1=>?_
 ·refine za (fun h2=>?_) fun h2=>?_
  ·exact zt (by first | trivial | (simp;done) | (simp;omega)) (by rw [<-hr]<;>first | rfl | (simp [zS,zl];done) | (simp_all [zS,zl];done)) (by simp [ends])
  ·exact zt (by first | trivial | (simp;done) | (simp;omega)) (by rw [<-hr]<;>first | rfl | (simp [zS,zl];done) | (simp_all [zS,zl];done)) (by simp [ends])
 ·exact zt (by first | trivial | (simp;done) | (simp;omega)) (by rw [<-hr]<;>first | rfl | (simp [zS,zl];done) | (simp_all [zS,zl];done)) (by simp [ends])
theorem ww (n:Int):ACall Tryz.prog 93 [num n] [] (aV (zS n)) []:=by
 refine zn mixed ttok Tryz.func93 Tryz.ntmps93 Tryz.results93 ?_
 generalize hr:aV (zS n)=R
 simp -implicitDefEqProofs only [argT,tabN,↓zb,push_cast,simprocAttr,tte]
 refine za (fun h1=>?_) fun h1=>?_
 ·refine za (fun h2=>?_) fun h2=>?_
  ·exact zt (by first | trivial | (simp;done) | (simp;omega)) (by rw [<-hr]<;>first | rfl | (simp [zS,zl];done) | (simp_all [zS,zl];done)) (by simp [ends])
  ·exact zt (by first | trivial | (simp;done) | (simp;omega)) (by rw [<-hr]<;>first | rfl | (simp [zS,zl];done) | (simp_all [zS,zl];done)) (by simp [ends])
 ·exact zt (by first | trivial | (simp;done) | (simp;omega)) (by rw [<-hr]<;>first | rfl | (simp [zS,zl];done) | (simp_all [zS,zl];done)) (by simp [ends])
theorem c_truth (b:Bool):ACall Tryz.prog 200 [boo b] [] (aV (ofV b)) []:=by
 refine zn mixed ttok Tryz.func200 Tryz.ntmps200 Tryz.results200 ?_
 generalize hr:aV (ofV b)=R
 simp -implicitDefEqProofs only [argT,↓zb,push_cast,simprocAttr,tte]
 refine za (fun h1=>?_) fun h1=>?_
 ·refine ze [[0]] [] (vZ 1) ?_
  simp -implicitDefEqProofs only [aV,↓zb,push_cast,simprocAttr,tte]
  exact zt (by first | trivial | (simp;done) | (simp;omega)) (by rw [<-hr]<;>first | rfl | (simp [ofV,zS];done) | (simp_all [ofV,zS];done)) (by simp [ends])
 ·refine ze [[0]] [] (vZ 0) ?_
  simp -implicitDefEqProofs only [aV,↓zb,push_cast,simprocAttr,tte]
  exact zt (by first | trivial | (simp;done) | (simp;omega)) (by rw [<-hr]<;>first | rfl | (simp [ofV,zS];done) | (simp_all [ofV,zS];done)) (by simp [ends])
theorem c_etruth (b:Bool):ACall Tryz.prog 169 [boo b] [] (aV (ofV b)) []:=by
 refine zn mixed ttok Tryz.func169 Tryz.ntmps169 Tryz.results169 ?_
 generalize hr:aV (ofV b)=R
 simp -implicitDefEqProofs only [argT,↓zb,push_cast,simprocAttr,tte]
 refine za (fun h1=>?_) fun h1=>?_
 ·refine ze [[0]] [] (vZ 1) ?_
  simp -implicitDefEqProofs only [aV,↓zb,push_cast,simprocAttr,tte]
  exact zt (by first | trivial | (simp;done) | (simp;omega)) (by rw [<-hr]<;>first | rfl | (simp [ofV,zS];done) | (simp_all [ofV,zS];done)) (by simp [ends])
 ·refine ze [[0]] [] (vZ 0) ?_
  simp -implicitDefEqProofs only [aV,↓zb,push_cast,simprocAttr,tte]
  exact zt (by first | trivial | (simp;done) | (simp;omega)) (by rw [<-hr]<;>first | rfl | (simp [ofV,zS];done) | (simp_all [ofV,zS];done)) (by simp [ends])
theorem c_of (b:Bool):ACall Tryz.prog 137 [boo b] [] (aV (ofV b)) []:=by
 refine zn mixed ttok Tryz.func137 Tryz.ntmps137 Tryz.results137 ?_
 generalize hr:aV (ofV b)=R
 simp -implicitDefEqProofs only [argT,↓zb,push_cast,simprocAttr,tte]
 refine za (fun h1=>?_) fun h1=>?_
 ·refine ze [[0]] [] (ww 1) ?_
  simp -implicitDefEqProofs only [aV,↓zb,push_cast,simprocAttr,tte]
  exact zt (by first | trivial | (simp;done) | (simp;omega)) (by rw [<-hr]<;>first | rfl | (simp [ofV,zS];done) | (simp_all [ofV,zS];done)) (by simp [ends])
 ·refine ze [[0]] [] (ww 0) ?_
  simp -implicitDefEqProofs only [aV,↓zb,push_cast,simprocAttr,tte]
  exact zt (by first | trivial | (simp;done) | (simp;omega)) (by rw [<-hr]<;>first | rfl | (simp [ofV,zS];done) | (simp_all [ofV,zS];done)) (by simp [ends])
theorem uR (v:Val):ACall Tryz.prog 60 [aV v] [] (num (zQ v)) []:=by
 refine zn mixed ttok Tryz.func60 Tryz.ntmps60 Tryz.results60 ?_
 generalize hr:num (zQ v)=R
 simp -implicitDefEqProofs only [argT,↓zb,push_cast,simprocAttr,tte]
 refine za (fun h1=>?_) fun h1=>?_
 ·exact zi trivial (by rw [<-hr];simp at h1;simp [zQ,h1,num]) (by simp [ends])
 refine za (fun h2=>?_) fun h2=>?_
 ·exact zi trivial (by rw [<-hr];simp at h1 h2;simp [zQ,h1,h2,num]) (by simp [ends])
 ·exact zi trivial (by rw [<-hr];simp at h1 h2;simp [zQ,h1,h2,num]) (by simp [ends])
theorem vP (v:Val):ACall Tryz.prog 72 [aV v] [] (num (zQ v)) []:=by
 refine zn mixed ttok Tryz.func72 Tryz.ntmps72 Tryz.results72 ?_
 generalize hr:num (zQ v)=R
 simp -implicitDefEqProofs only [argT,↓zb,push_cast,simprocAttr,tte]
 refine za (fun h1=>?_) fun h1=>?_
 ·exact zi trivial (by rw [<-hr];simp at h1;simp [zQ,h1,num]) (by simp [ends])
 refine za (fun h2=>?_) fun h2=>?_
 ·exact zi trivial (by rw [<-hr];simp at h1 h2;simp [zQ,h1,h2,num]) (by simp [ends])
 ·exact zi trivial (by rw [<-hr];simp at h1 h2;simp [zQ,h1,h2,num]) (by simp [ends])
def notM (v:Val):Val:=if zQ v=2 then zl else ofV (zQ v==0)
theorem c_not (v:Val):ACall Tryz.prog 167 [aV v] [] (aV (notM v)) []:=by
 refine zn mixed ttok Tryz.func167 Tryz.ntmps167 Tryz.results167 ?_
 generalize hr:aV (notM v)=R
 simp -implicitDefEqProofs only [argT,tabN,↓zb,push_cast,simprocAttr,tte]
 refine ze [[0,0,0]] [] (uR v) ?_
 have ht:zQ v=0\/zQ v=1\/zQ v=2:=by unfold zQ;split<;>(try split)<;>simp
 simp -implicitDefEqProofs only [tabN,↓zb,push_cast,simprocAttr,tte]
 unfold notM at hr
 generalize zQ v=x at ht hr
 refine za (fun h1=>?_) fun h1=>?_
 ·have hw:IntKind.i64.wrap (1-x)=1-x:=zw (by omega) (by omega)
  simp only [hw]
  refine ze [[0]] [] (vZ (1-x)) ?_
  simp -implicitDefEqProofs only [aV,↓zb,push_cast,simprocAttr,tte]
  rcases ht with rfl | rfl | rfl
  ·exact zt (by first | trivial | (simp;done) | (simp;omega)) (by rw [<-hr]<;>first | rfl | (simp [ofV,zS];done) | (simp_all [ofV,zS];done)) (by simp [ends])
  ·exact zt (by first | trivial | (simp;done) | (simp;omega)) (by rw [<-hr]<;>first | rfl | (simp [ofV,zS];done) | (simp_all [ofV,zS];done)) (by simp [ends])
  ·simp at h1
 ·have hx:x=2:=by simpa using h1
  subst hx
  exact zt (by first | trivial | (simp;done) | (simp;omega)) (by rw [<-hr]<;>first | rfl | (simp [zl];done) | (simp_all [zl];done)) (by simp [ends])
theorem c_rnot (v:Val):ACall Tryz.prog 135 [aV v] [] (aV (notM v)) []:=by
 refine zn mixed ttok Tryz.func135 Tryz.ntmps135 Tryz.results135 ?_
 generalize hr:aV (notM v)=R
 simp -implicitDefEqProofs only [argT,tabN,↓zb,push_cast,simprocAttr,tte]
 refine ze [[0,0,0]] [] (vP v) ?_
 have ht:zQ v=0\/zQ v=1\/zQ v=2:=by unfold zQ;split<;>(try split)<;>simp
 simp -implicitDefEqProofs only [↓zb,push_cast,simprocAttr,tte]
 unfold notM at hr
 generalize zQ v=x at ht hr
 refine za (fun h1=>?_) fun h1=>?_
 ·refine ze [[0]] [] (ww 1) ?_
  have hx:x=0:=by simpa using h1
  subst hx
  simp -implicitDefEqProofs only [aV,↓zb,push_cast,simprocAttr,tte]
  exact zt (by first | trivial | (simp;done) | (simp;omega)) (by rw [<-hr]<;>first | rfl | (simp [ofV,zS];done) | (simp_all [ofV,zS];done)) (by simp [ends])
 refine za (fun h2=>?_) fun h2=>?_
 ·refine ze [[0]] [] (ww 0) ?_
  have hx:x=1:=by simpa using h2
  subst hx
  simp -implicitDefEqProofs only [aV,↓zb,push_cast,simprocAttr,tte]
  exact zt (by first | trivial | (simp;done) | (simp;omega)) (by rw [<-hr]<;>first | rfl | (simp [ofV,zS];done) | (simp_all [ofV,zS];done)) (by simp [ends])
 ·have hx:x=2:=by simp at h1 h2;omega
  subst hx
  exact zt (by first | trivial | (simp;done) | (simp;omega)) (by rw [<-hr]<;>first | rfl | (simp [zl];done) | (simp_all [zl];done)) (by simp [ends])
end
section
open Go.Am
attribute [local simp, local push_cast] num boo str ints aV aTab zv aS aT aC
def andM (a b:Val):Val:=if zQ a=0\/zQ b=0 then ofV false else if zQ a=2\/zQ b=2 then zl else ofV true
def orM (a b:Val):Val:=if zQ a=1\/zQ b=1 then ofV true else if zQ a=2\/zQ b=2 then zl else ofV false
theorem c_and (a b:Val):ACall Tryz.prog 171 [aV a,aV b] [] (aV (andM a b)) []:=by
 refine zn mixed ttok Tryz.func171 Tryz.ntmps171 Tryz.results171 ?_
 generalize hr:aV (andM a b)=R
 simp -implicitDefEqProofs only [argT,tabN,↓zb,push_cast,simprocAttr,tte]
 refine ze [[0,0,0]] [] (uR a) ?_
 simp -implicitDefEqProofs only [tabN,↓zb,push_cast,simprocAttr,tte]
 refine ze [[0,0,0]] [] (uR b) ?_
 simp -implicitDefEqProofs only [tabN,↓zb,push_cast,simprocAttr,tte]
 refine ⟨zf (by kernel_rfl),?_⟩
 unfold andM at hr
 generalize zQ a=x at hr
 generalize zQ b=y at hr
 refine za (fun h1=>?_) fun h1=>?_
 ·refine ze [[0]] [] (vZ 0) ?_
  simp -implicitDefEqProofs only [aV,↓zb,push_cast,simprocAttr,tte]
  exact zt (by first | trivial | (simp;done) | (simp;omega)) (by rw [<-hr]<;>first | rfl | (simp [ofV,zS];done) | (simp_all [ofV,zS];done)) (by simp [ends])
 refine za (fun h2=>?_) fun h2=>?_
 ·refine ze [[0]] [] (vZ 0) ?_
  simp -implicitDefEqProofs only [aV,↓zb,push_cast,simprocAttr,tte]
  exact zt (by first | trivial | (simp;done) | (simp;omega)) (by rw [<-hr]<;>first | rfl | (simp [ofV,zS];done) | (simp_all [ofV,zS];done)) (by simp [ends])
 refine za (fun h3=>?_) fun h3=>?_
 ·exact zt (by first | trivial | (simp;done) | (simp;omega)) (by rw [<-hr]<;>first | rfl | (simp [zl];done) | (simp_all [zl];done)) (by simp [ends])
 refine za (fun h4=>?_) fun h4=>?_
 ·exact zt (by first | trivial | (simp;done) | (simp;omega)) (by rw [<-hr]<;>first | rfl | (simp [zl];done) | (simp_all [zl];done)) (by simp [ends])
 ·refine ze [[0]] [] (vZ 1) ?_
  simp -implicitDefEqProofs only [aV,↓zb,push_cast,simprocAttr,tte]
  exact zt (by first | trivial | (simp;done) | (simp;omega)) (by rw [<-hr]<;>first | rfl | (simp [ofV,zS];done) | (simp_all [ofV,zS];done)) (by simp [ends])
theorem c_or2 (a b:Val):ACall Tryz.prog 172 [aV a,aV b] [] (aV (orM a b)) []:=by
 refine zn mixed ttok Tryz.func172 Tryz.ntmps172 Tryz.results172 ?_
 generalize hr:aV (orM a b)=R
 simp -implicitDefEqProofs only [argT,tabN,↓zb,push_cast,simprocAttr,tte]
 refine ze [[0,0,0]] [] (uR a) ?_
 simp -implicitDefEqProofs only [tabN,↓zb,push_cast,simprocAttr,tte]
 refine ze [[0,0,0]] [] (uR b) ?_
 simp -implicitDefEqProofs only [tabN,↓zb,push_cast,simprocAttr,tte]
 refine ⟨zf (by kernel_rfl),?_⟩
 unfold orM at hr
 generalize zQ a=x at hr
 generalize zQ b=y at hr
 refine za (fun h1=>?_) fun h1=>?_
 ·refine ze [[0]] [] (vZ 1) ?_
  simp -implicitDefEqProofs only [aV,↓zb,push_cast,simprocAttr,tte]
  exact zt (by first | trivial | (simp;done) | (simp;omega)) (by rw [<-hr]<;>first | rfl | (simp [ofV,zS];done) | (simp_all [ofV,zS];done)) (by simp [ends])
 refine za (fun h2=>?_) fun h2=>?_
 ·refine ze [[0]] [] (vZ 1) ?_
  simp -implicitDefEqProofs only [aV,↓zb,push_cast,simprocAttr,tte]
  exact zt (by first | trivial | (simp;done) | (simp;omega)) (by rw [<-hr]<;>first | rfl | (simp [ofV,zS];done) | (simp_all [ofV,zS];done)) (by simp [ends])
 refine za (fun h3=>?_) fun h3=>?_
 ·exact zt (by first | trivial | (simp;done) | (simp;omega)) (by rw [<-hr]<;>first | rfl | (simp [zl];done) | (simp_all [zl];done)) (by simp [ends])
 refine za (fun h4=>?_) fun h4=>?_
 ·exact zt (by first | trivial | (simp;done) | (simp;omega)) (by rw [<-hr]<;>first | rfl | (simp [zl];done) | (simp_all [zl];done)) (by simp [ends])
 ·refine ze [[0]] [] (vZ 0) ?_
  simp -implicitDefEqProofs only [aV,↓zb,push_cast,simprocAttr,tte]
  exact zt (by first | trivial | (simp;done) | (simp;omega)) (by rw [<-hr]<;>first | rfl | (simp [ofV,zS];done) | (simp_all [ofV,zS];done)) (by simp [ends])
theorem c_rand (a b:Val):ACall Tryz.prog 138 [aV a,aV b] [] (aV (andM a b)) []:=by
 refine zn mixed ttok Tryz.func138 Tryz.ntmps138 Tryz.results138 ?_
 generalize hr:aV (andM a b)=R
 simp -implicitDefEqProofs only [argT,tabN,↓zb,push_cast,simprocAttr,tte]
 refine ze [[0,0,0]] [] (vP a) ?_
 simp -implicitDefEqProofs only [↓zb,push_cast,simprocAttr,tte]
 refine ze [[0,0,0]] [] (vP b) ?_
 simp -implicitDefEqProofs only [↓zb,push_cast,simprocAttr,tte]
 refine ⟨zf (by kernel_rfl),?_⟩
 unfold andM at hr
 generalize zQ a=x at hr
 generalize zQ b=y at hr
 refine za (fun h1=>?_) fun h1=>?_
 ·refine ze [[0]] [] (ww 0) ?_
  simp -implicitDefEqProofs only [aV,↓zb,push_cast,simprocAttr,tte]
  exact zt (by first | trivial | (simp;done) | (simp;omega)) (by rw [<-hr]<;>first | rfl | (simp [ofV,zS];done) | (simp_all [ofV,zS];done)) (by simp [ends])
 refine za (fun h2=>?_) fun h2=>?_
 ·refine ze [[0]] [] (ww 0) ?_
  simp -implicitDefEqProofs only [aV,↓zb,push_cast,simprocAttr,tte]
  exact zt (by first | trivial | (simp;done) | (simp;omega)) (by rw [<-hr]<;>first | rfl | (simp [ofV,zS];done) | (simp_all [ofV,zS];done)) (by simp [ends])
 refine za (fun h3=>?_) fun h3=>?_
 ·exact zt (by first | trivial | (simp;done) | (simp;omega)) (by rw [<-hr]<;>first | rfl | (simp [zl];done) | (simp_all [zl];done)) (by simp [ends])
 refine za (fun h4=>?_) fun h4=>?_
 ·exact zt (by first | trivial | (simp;done) | (simp;omega)) (by rw [<-hr]<;>first | rfl | (simp [zl];done) | (simp_all [zl];done)) (by simp [ends])
 ·refine ze [[0]] [] (ww 1) ?_
  simp -implicitDefEqProofs only [aV,↓zb,push_cast,simprocAttr,tte]
  exact zt (by first | trivial | (simp;done) | (simp;omega)) (by rw [<-hr]<;>first | rfl | (simp [ofV,zS];done) | (simp_all [ofV,zS];done)) (by simp [ends])
theorem c_ror (a b:Val):ACall Tryz.prog 139 [aV a,aV b] [] (aV (orM a b)) []:=by
 refine zn mixed ttok Tryz.func139 Tryz.ntmps139 Tryz.results139 ?_
 generalize hr:aV (orM a b)=R
 simp -implicitDefEqProofs only [argT,tabN,↓zb,push_cast,simprocAttr,tte]
 refine ze [[0,0,0]] [] (vP a) ?_
 simp -implicitDefEqProofs only [↓zb,push_cast,simprocAttr,tte]
 refine ze [[0,0,0]] [] (vP b) ?_
 simp -implicitDefEqProofs only [↓zb,push_cast,simprocAttr,tte]
 refine ⟨zf (by kernel_rfl),?_⟩
 unfold orM at hr
 generalize zQ a=x at hr
 generalize zQ b=y at hr
 refine za (fun h1=>?_) fun h1=>?_
 ·refine ze [[0]] [] (ww 1) ?_
  simp -implicitDefEqProofs only [aV,↓zb,push_cast,simprocAttr,tte]
  exact zt (by first | trivial | (simp;done) | (simp;omega)) (by rw [<-hr]<;>first | rfl | (simp [ofV,zS];done) | (simp_all [ofV,zS];done)) (by simp [ends])
 refine za (fun h2=>?_) fun h2=>?_
 ·refine ze [[0]] [] (ww 1) ?_
  simp -implicitDefEqProofs only [aV,↓zb,push_cast,simprocAttr,tte]
  exact zt (by first | trivial | (simp;done) | (simp;omega)) (by rw [<-hr]<;>first | rfl | (simp [ofV,zS];done) | (simp_all [ofV,zS];done)) (by simp [ends])
 refine za (fun h3=>?_) fun h3=>?_
 ·exact zt (by first | trivial | (simp;done) | (simp;omega)) (by rw [<-hr]<;>first | rfl | (simp [zl];done) | (simp_all [zl];done)) (by simp [ends])
 refine za (fun h4=>?_) fun h4=>?_
 ·exact zt (by first | trivial | (simp;done) | (simp;omega)) (by rw [<-hr]<;>first | rfl | (simp [zl];done) | (simp_all [zl];done)) (by simp [ends])
 ·refine ze [[0]] [] (ww 0) ?_
  simp -implicitDefEqProofs only [aV,↓zb,push_cast,simprocAttr,tte]
  exact zt (by first | trivial | (simp;done) | (simp;omega)) (by rw [<-hr]<;>first | rfl | (simp [ofV,zS];done) | (simp_all [ofV,zS];done)) (by simp [ends])
def cmpI (x y:Int):Int:=if x<y then -1 else if x>y then 1 else 0
def cmpS (x y:ByteArray):Int:=if Op.bytesLess x.toList y.toList then -1 else if x.toList=y.toList then 0 else 1
def cmpM (a b:Val):Int:=if cmpI a.kind b.kind≠0 then cmpI a.kind b.kind else if cmpI a.num b.num≠0 then cmpI a.num b.num else cmpS a.text b.text
theorem c_isNaN (x:Int):ACall Tryz.prog 222 [num x] [] (boo false) []:=by
 refine zn mixed ttok Tryz.func222 Tryz.ntmps222 Tryz.results222 ?_
 generalize hr:boo false=R
 simp -implicitDefEqProofs only [argT,↓zb,push_cast,simprocAttr,tte]
 exact zi trivial (by rw [<-hr];rfl) (by simp [ends])
theorem c_isNaN64 (x:Int):ACall Tryz.prog 223 [num x] [] (boo false) []:=by
 refine zn mixed ttok Tryz.func223 Tryz.ntmps223 Tryz.results223 ?_
 generalize hr:boo false=R
 simp -implicitDefEqProofs only [argT,↓zb,push_cast,simprocAttr,tte]
 exact zi trivial (by rw [<-hr];rfl) (by simp [ends])
theorem c_isNaNs (x:ByteArray):ACall Tryz.prog 224 [str x] [] (boo false) []:=by
 refine zn mixed ttok Tryz.func224 Tryz.ntmps224 Tryz.results224 ?_
 generalize hr:boo false=R
 simp -implicitDefEqProofs only [argT,↓zb,push_cast,simprocAttr,tte]
 exact zi trivial (by rw [<-hr];simp [boo]) (by simp [ends])
theorem c_cmpI (x y:Int):ACall Tryz.prog 204 [num x,num y] [] (num (cmpI x y)) []:=by
 refine zn mixed ttok Tryz.func204 Tryz.ntmps204 Tryz.results204 ?_
 generalize hr:num (cmpI x y)=R
 simp -implicitDefEqProofs only [argT,↓zb,push_cast,simprocAttr,tte]
 refine ze [[0]] [] (c_isNaN x) ?_
 simp -implicitDefEqProofs only [↓zb,push_cast,simprocAttr,tte]
 refine ze [[0]] [] (c_isNaN y) ?_
 simp -implicitDefEqProofs only [↓zb,push_cast,simprocAttr,tte]
 unfold cmpI at hr
 refine za (fun h1=>?_) fun h1=>?_
 ·exact zi trivial (by rw [<-hr];simp_all [num]) (by simp [ends])
 refine za (fun h2=>?_) fun h2=>?_
 ·exact zi trivial (by rw [<-hr];simp at h1 h2;rw [if_neg (by omega),if_pos (by omega)];rfl) (by simp [ends])
 ·exact zi trivial (by rw [<-hr];simp at h1 h2;rw [if_neg (by omega),if_neg (by omega)];rfl) (by simp [ends])
theorem c_cmpI64 (x y:Int):ACall Tryz.prog 205 [num x,num y] [] (num (cmpI x y)) []:=by
 refine zn mixed ttok Tryz.func205 Tryz.ntmps205 Tryz.results205 ?_
 generalize hr:num (cmpI x y)=R
 simp -implicitDefEqProofs only [argT,↓zb,push_cast,simprocAttr,tte]
 refine ze [[0]] [] (c_isNaN64 x) ?_
 simp -implicitDefEqProofs only [↓zb,push_cast,simprocAttr,tte]
 refine ze [[0]] [] (c_isNaN64 y) ?_
 simp -implicitDefEqProofs only [↓zb,push_cast,simprocAttr,tte]
 unfold cmpI at hr
 refine za (fun h1=>?_) fun h1=>?_
 ·exact zi trivial (by rw [<-hr];simp_all [num]) (by simp [ends])
 refine za (fun h2=>?_) fun h2=>?_
 ·exact zi trivial (by rw [<-hr];simp at h1 h2;rw [if_neg (by omega),if_pos (by omega)];rfl) (by simp [ends])
 ·exact zi trivial (by rw [<-hr];simp at h1 h2;rw [if_neg (by omega),if_neg (by omega)];rfl) (by simp [ends])
theorem c_cmpS (x y:ByteArray):ACall Tryz.prog 206 [str x,str y] [] (num (cmpS x y)) []:=by
 refine zn mixed ttok Tryz.func206 Tryz.ntmps206 Tryz.results206 ?_
 generalize hr:num (cmpS x y)=R
 simp -implicitDefEqProofs only [argT,↓zb,push_cast,simprocAttr,tte]
 refine ze [[0]] [] (c_isNaNs x) ?_
 simp -implicitDefEqProofs only [↓zb,push_cast,simprocAttr,tte]
 refine ze [[0]] [] (c_isNaNs y) ?_
 simp -implicitDefEqProofs only [↓zb,push_cast,simprocAttr,tte]
 unfold cmpS at hr
 refine za (fun h1=>?_) fun h1=>?_
 ·exact zi trivial (by rw [<-hr];simp_all [num]) (by simp [ends])
 refine za (fun h2=>?_) fun h2=>?_
 ·exact zi trivial (by rw [<-hr];rw [h1];simp [h1] at h2;simp [h2,num]) (by simp [ends])
 ·exact zi trivial (by rw [<-hr];rw [h1];simp [h1] at h2;simp [h2,num]) (by simp [ends])
def kr:List Int->Int
 | []=>0
 | x::l=>if x≠0 then x else kr l
theorem c_cor (l:List Int) (hl:l.length<=1000):ACall Tryz.prog 203 [ints l] [] (num (kr l)) []:=by
 refine zn mixed ttok Tryz.func203 Tryz.ntmps203 Tryz.results203 ?_
 generalize hr:num (kr l)=R
 simp -implicitDefEqProofs only [argT,↓zb,push_cast,simprocAttr,tte]
 refine zo mixed ttok 8 [3,6,7] [] (by simp only [zC,ends,push_cast,simprocAttr];rfl) (by simp only [zH,zp,ends,push_cast,simprocAttr];rfl) l.length (fun n=>kr (l.drop n)=kr l) (fun _=>[]) (fun _=>[]) rfl ?_ ?_
 ·exact Weak.keepL (by simp [cst,ends]) (by simp [cst,ends]) (by simp [cst,ends])
 intro I hI n hn hi
 simp -implicitDefEqProofs only [cst,↓zb,push_cast,simprocAttr,tte]
 refine za (fun h=>?_) fun h=>?_
 ·simp only [decide_eq_true_eq] at h
  have h':n<l.length:=by omega
  have hw:=zj h' (by omega)
  rw [z8 _ n h',kr] at hi
  refine ⟨(by first | omega | trivial | (refine ⟨?_,?_⟩<;>first | omega | trivial | (refine ⟨?_,?_⟩<;>first | omega | trivial | (refine ⟨?_,?_⟩<;>first | omega | trivial | rfl)))),?_⟩
  refine za (fun h2=>?_) fun h2=>?_
  ·exact zi trivial (by rw [<-hr,<-hi,if_pos (by simpa using h2)];rfl) (by simp [ends])
  ·rw [if_neg (by simpa using h2)] at hi
   exact zq hI n rfl h' hi (by simp [hw,ends]) (by simp [hw,ends]) (by simp [hw,ends]) (by simp [hw,ends])
 ·have hn':n=l.length:=by simp at h;omega
  subst hn'
  rw [List.drop_length] at hi
  exact zi trivial (by rw [<-hr,<-hi];rfl) (by simp [ends])
theorem c_compare (a b:Val):ACall Tryz.prog 178 [aV a,aV b] [] (num (cmpM a b)) []:=by
 refine zn mixed ttok Tryz.func178 Tryz.ntmps178 Tryz.results178 ?_
 generalize hr:num (cmpM a b)=R
 simp -implicitDefEqProofs only [argT,↓zb,push_cast,simprocAttr,tte]
 refine ze [[0],[0]] [] (c_cmpI a.kind b.kind) ?_
 simp -implicitDefEqProofs only [↓zb,push_cast,simprocAttr,tte]
 refine ze [[0],[0]] [] (c_cmpI64 a.num b.num) ?_
 simp -implicitDefEqProofs only [↓zb,push_cast,simprocAttr,tte]
 refine ze [[0],[0]] [] (c_cmpS a.text b.text) ?_
 simp -implicitDefEqProofs only [↓zb,push_cast,simprocAttr,tte]
 refine ze [[1]] [] (c_cor [cmpI a.kind b.kind,cmpI a.num b.num,cmpS a.text b.text] (by simp)) ?_
 simp -implicitDefEqProofs only [↓zb,push_cast,simprocAttr,tte]
 refine ⟨zf (by kernel_rfl),?_⟩
 have he:kr [cmpI a.kind b.kind,cmpI a.num b.num,cmpS a.text b.text]=cmpM a b:=by
  simp only [kr,cmpM]
  repeat' split
  all_goals simp_all
 rw [he]
 exact zi trivial (by rw [<-hr];rfl) (by simp [ends])
end
section
open Go.Am
attribute [local simp, local push_cast] num boo str ints aV aTab zv aS aT aC
theorem bl_eq: ∀(x y:List UInt8),Op.bytesLess x y=decide (x<y)
 | [],[]=>by simp [Op.bytesLess]
 | _::_,[]=>by simp [Op.bytesLess]
 | [],_::_=>by simp [Op.bytesLess]
 | a::x,b::y=>by
   rw [Op.bytesLess,bl_eq x y]
   simp only [List.cons_lt_cons_iff]
   by_cases h1:a<b<;>by_cases h2:a=b<;>by_cases h3:x<y<;>simp [h1,h2,h3]
def wW (a b:Val):Bool:=(a.kind==b.kind&&a.num==b.num)&&(a.text.toList==b.text.toList)
theorem wO (x y:Int):cmpI x y=0 ↔ x=y:=by unfold cmpI;split<;>(try split)<;>omega
theorem cmpS_zero (x y:ByteArray):cmpS x y=0 ↔ x.toList=y.toList:=by
 unfold cmpS
 split
 ·rename_i h
  refine ⟨fun h=>absurd h (by decide),fun e=>?_⟩
  rw [e] at h
  exact absurd h (by rw [bl_eq,decide_eq_true_eq];exact List.lt_irrefl _)
 ·split
  ·rename_i h;simp [h]
  ·rename_i h;simp [h]
theorem cmpM_zero (a b:Val):(cmpM a b==0)=wW a b:=by
 unfold cmpM wW
 rw [Bool.eq_iff_iff]
 simp only [beq_iff_eq,Bool.and_eq_true]
 by_cases h1:cmpI a.kind b.kind=0
 ·rw [if_neg (by simpa using h1)]
  have h1':=(wO _ _).1 h1
  by_cases h2:cmpI a.num b.num=0
  ·rw [if_neg (by simpa using h2),cmpS_zero]
   simp [h1',(wO _ _).1 h2]
  ·rw [if_pos h2]
   simp [h1',h2,mt (wO _ _).2 h2]
 ·rw [if_pos h1]
  simp [h1,mt (wO _ _).2 h1]
theorem qD (a b:Val):ACall Tryz.prog 53 [aV a,aV b] [] (num (cmpM a b)) []:=by
 refine zn mixed ttok Tryz.func53 Tryz.ntmps53 Tryz.results53 ?_
 generalize hr:num (cmpM a b)=R
 simp -implicitDefEqProofs only [argT,↓zb,push_cast,simprocAttr,tte]
 unfold cmpM cmpI cmpS at hr
 refine za (fun h1=>?_) fun h1=>?_
 ·simp at h1
  exact zi trivial (by rw [<-hr,if_pos (by rw [if_pos h1];decide),if_pos h1];rfl) (by simp [ends])
 refine za (fun h2=>?_) fun h2=>?_
 ·simp at h1 h2
  exact zi trivial (by rw [<-hr,if_pos (by rw [if_neg (by omega),if_pos (by omega)];decide),if_neg (by omega),if_pos (by omega)];rfl) (by simp [ends])
 simp at h1 h2
 rw [if_neg (by rw [if_neg (by omega),if_neg (by omega)];decide)] at hr
 refine za (fun h3=>?_) fun h3=>?_
 ·simp at h3
  exact zi trivial (by rw [<-hr,if_pos (by rw [if_pos h3];decide),if_pos h3];rfl) (by simp [ends])
 refine za (fun h4=>?_) fun h4=>?_
 ·simp at h3 h4
  exact zi trivial (by rw [<-hr,if_pos (by rw [if_neg (by omega),if_pos (by omega)];decide),if_neg (by omega),if_pos (by omega)];rfl) (by simp [ends])
 simp at h3 h4
 rw [if_neg (by rw [if_neg (by omega),if_neg (by omega)];decide)] at hr
 refine za (fun h5=>?_) fun h5=>?_
 ·exact zi trivial (by rw [<-hr,if_pos h5];rfl) (by simp [ends])
 rw [h5] at hr ⊢
 refine za (fun h6=>?_) fun h6=>?_
 ·simp at h6
  exact zi trivial (by rw [<-hr];simp [h6,num]) (by simp [ends])
 ·simp at h6
  exact zi trivial (by rw [<-hr];simp [h6,num]) (by simp [ends])
theorem c_same (a b:Val):ACall Tryz.prog 170 [aV a,aV b] [] (boo (wW a b)) []:=by
 refine zn mixed ttok Tryz.func170 Tryz.ntmps170 Tryz.results170 ?_
 generalize hr:boo (wW a b)=R
 simp -implicitDefEqProofs only [argT,↓zb,push_cast,simprocAttr,tte]
 exact zi trivial (by rw [<-hr];simp [wW,boo,Bool.and_assoc]) (by simp [ends])
theorem c_rsame (a b:Val):ACall Tryz.prog 27 [aV a,aV b] [] (boo (wW a b)) []:=by
 refine zn mixed ttok Tryz.func27 Tryz.ntmps27 Tryz.results27 ?_
 generalize hr:boo (wW a b)=R
 simp -implicitDefEqProofs only [argT,↓zb,push_cast,simprocAttr,tte]
 refine ze [[0,0,0],[0,0,0]] [] (qD a b) ?_
 simp -implicitDefEqProofs only [↓zb,push_cast,simprocAttr,tte]
 exact zi trivial (by rw [<-hr,<-cmpM_zero];rfl) (by simp [ends])
def yE (a b:Val):Val:=if a.kind=0\/b.kind=0 then zl else ofV (wW a b)
def wI (a b:Val):Val:=if a.kind=0\/b.kind=0 then zl else ofV (decide (cmpM a b<0))
theorem c_equal (a b:Val):ACall Tryz.prog 166 [aV a,aV b] [] (aV (yE a b)) []:=by
 refine zn mixed ttok Tryz.func166 Tryz.ntmps166 Tryz.results166 ?_
 generalize hr:aV (yE a b)=R
 simp -implicitDefEqProofs only [argT,tabN,↓zb,push_cast,simprocAttr,tte]
 unfold yE at hr
 refine za (fun h1=>?_) fun h1=>?_
 ·exact zt (by first | trivial | (simp;done) | (simp;omega)) (by rw [<-hr]<;>first | rfl | (simp [zl];done) | (simp_all [zl];done)) (by simp [ends])
 refine za (fun h2=>?_) fun h2=>?_
 ·exact zt (by first | trivial | (simp;done) | (simp;omega)) (by rw [<-hr]<;>first | rfl | (simp [zl];done) | (simp_all [zl];done)) (by simp [ends])
 refine ze [[0,0,0],[0,0,0]] [] (c_same a b) ?_
 simp -implicitDefEqProofs only [↓zb,push_cast,simprocAttr,tte]
 refine ze [[0]] [] (c_truth (wW a b)) ?_
 simp -implicitDefEqProofs only [aV,↓zb,push_cast,simprocAttr,tte]
 simp at h1 h2
 exact zt (by first | trivial | (simp;done) | (simp;omega)) (by rw [<-hr]<;>first | rfl | (simp [h1,h2];done) | (simp_all [h1,h2];done)) (by simp [ends])
theorem gy (a b:Val):ACall Tryz.prog 134 [aV a,aV b] [] (aV (yE a b)) []:=by
 refine zn mixed ttok Tryz.func134 Tryz.ntmps134 Tryz.results134 ?_
 generalize hr:aV (yE a b)=R
 simp -implicitDefEqProofs only [argT,tabN,↓zb,push_cast,simprocAttr,tte]
 unfold yE at hr
 refine za (fun h1=>?_) fun h1=>?_
 ·exact zt (by first | trivial | (simp;done) | (simp;omega)) (by rw [<-hr]<;>first | rfl | (simp [zl];done) | (simp_all [zl];done)) (by simp [ends])
 refine za (fun h2=>?_) fun h2=>?_
 ·exact zt (by first | trivial | (simp;done) | (simp;omega)) (by rw [<-hr]<;>first | rfl | (simp [zl];done) | (simp_all [zl];done)) (by simp [ends])
 refine ze [[0,0,0],[0,0,0]] [] (c_rsame a b) ?_
 simp -implicitDefEqProofs only [↓zb,push_cast,simprocAttr,tte]
 refine ze [[0]] [] (c_of (wW a b)) ?_
 simp -implicitDefEqProofs only [aV,↓zb,push_cast,simprocAttr,tte]
 simp at h1 h2
 exact zt (by first | trivial | (simp;done) | (simp;omega)) (by rw [<-hr]<;>first | rfl | (simp [h1,h2];done) | (simp_all [h1,h2];done)) (by simp [ends])
theorem c_less (a b:Val):ACall Tryz.prog 168 [aV a,aV b] [] (aV (wI a b)) []:=by
 refine zn mixed ttok Tryz.func168 Tryz.ntmps168 Tryz.results168 ?_
 generalize hr:aV (wI a b)=R
 simp -implicitDefEqProofs only [argT,tabN,↓zb,push_cast,simprocAttr,tte]
 unfold wI at hr
 refine za (fun h1=>?_) fun h1=>?_
 ·exact zt (by first | trivial | (simp;done) | (simp;omega)) (by rw [<-hr]<;>first | rfl | (simp [zl];done) | (simp_all [zl];done)) (by simp [ends])
 refine za (fun h2=>?_) fun h2=>?_
 ·exact zt (by first | trivial | (simp;done) | (simp;omega)) (by rw [<-hr]<;>first | rfl | (simp [zl];done) | (simp_all [zl];done)) (by simp [ends])
 refine ze [[0,0,0],[0,0,0]] [] (c_compare a b) ?_
 simp -implicitDefEqProofs only [↓zb,push_cast,simprocAttr,tte]
 refine ze [[0]] [] (c_truth (decide (cmpM a b<0))) ?_
 simp -implicitDefEqProofs only [aV,↓zb,push_cast,simprocAttr,tte]
 simp at h1 h2
 exact zt (by first | trivial | (simp;done) | (simp;omega)) (by rw [<-hr]<;>first | rfl | (simp [h1,h2];done) | (simp_all [h1,h2];done)) (by simp [ends])
theorem c_rless (a b:Val):ACall Tryz.prog 136 [aV a,aV b] [] (aV (wI a b)) []:=by
 refine zn mixed ttok Tryz.func136 Tryz.ntmps136 Tryz.results136 ?_
 generalize hr:aV (wI a b)=R
 simp -implicitDefEqProofs only [argT,tabN,↓zb,push_cast,simprocAttr,tte]
 unfold wI at hr
 refine za (fun h1=>?_) fun h1=>?_
 ·exact zt (by first | trivial | (simp;done) | (simp;omega)) (by rw [<-hr]<;>first | rfl | (simp [zl];done) | (simp_all [zl];done)) (by simp [ends])
 refine za (fun h2=>?_) fun h2=>?_
 ·exact zt (by first | trivial | (simp;done) | (simp;omega)) (by rw [<-hr]<;>first | rfl | (simp [zl];done) | (simp_all [zl];done)) (by simp [ends])
 refine ze [[0,0,0],[0,0,0]] [] (qD a b) ?_
 simp -implicitDefEqProofs only [↓zb,push_cast,simprocAttr,tte]
 refine ze [[0]] [] (c_of (decide (cmpM a b<0))) ?_
 simp -implicitDefEqProofs only [aV,↓zb,push_cast,simprocAttr,tte]
 simp at h1 h2
 exact zt (by first | trivial | (simp;done) | (simp;omega)) (by rw [<-hr]<;>first | rfl | (simp [h1,h2];done) | (simp_all [h1,h2];done)) (by simp [ends])
theorem cmpI_neg (x y:Int):cmpI x y<0 ↔ x<y:=by unfold cmpI;split<;>(try split)<;>omega
theorem cmpS_neg (x y:ByteArray):cmpS x y<0 ↔ x.toList<y.toList:=by
 unfold cmpS
 rw [bl_eq]
 split
 ·rename_i h;simpa using h
 ·rename_i h
  simp only [decide_eq_true_eq] at h
  split<;>simp [h]
theorem toList_inj {x y:ByteArray} (h:x.toList=y.toList):x=y:=by
 cases x;cases y
 simpa [ByteArray.toList_eq] using h
theorem cmpM_neg (a b:Val):cmpM a b<0 ↔ a.kind<b.kind\/a.kind=b.kind/\(a.num<b.num\/a.num=b.num/\a.text.toList<b.text.toList):=by
 unfold cmpM
 by_cases h1:cmpI a.kind b.kind=0
 ·rw [if_neg (by simpa using h1)]
  have h1':=(wO _ _).1 h1
  by_cases h2:cmpI a.num b.num=0
  ·rw [if_neg (by simpa using h2),cmpS_neg]
   simp [h1',(wO _ _).1 h2]
  ·rw [if_pos h2,cmpI_neg]
   have:=mt (wO _ _).2 h2
   simp [h1',this]
 ·rw [if_pos h1,cmpI_neg]
  have:=mt (wO _ _).2 h1
  simp [this]
theorem val_ext {a b:Val} (h1:a.kind=b.kind) (h2:a.num=b.num) (h3:a.text.toList=b.text.toList):a=b:=by
 cases a;cases b
 simp only at h1 h2 h3
 rw [h1,h2,toList_inj h3]
theorem wv (a b:Val):cmpM a b=0 ↔ a=b:=by
 have:=cmpM_zero a b
 refine ⟨fun h=>?_,fun h=>?_⟩
 ·rw [h] at this
  simp only [wW,beq_self_eq_true] at this
  have h2:=this.symm
  simp only [Bool.and_eq_true,beq_iff_eq] at h2
  exact val_ext h2.1.1 h2.1.2 h2.2
 ·subst h
  rw [show wW a a=true by simp [wW]] at this
  simpa using this
theorem cmpM_irrefl (a:Val): ¬cmpM a a<0:=by rw [(wv a a).2 rfl];decide
theorem qC {a b c:Val} (h1:cmpM a b<0) (h2:cmpM b c<0):cmpM a c<0:=by
 rw [cmpM_neg] at *
 rcases h1 with h1 | ⟨h1,h1'⟩<;>rcases h2 with h2 | ⟨h2,h2'⟩
 ·left;omega
 ·left;omega
 ·left;omega
 ·right
  refine ⟨by omega,?_⟩
  rcases h1' with h1' | ⟨h1',h3⟩<;>rcases h2' with h2' | ⟨h2',h4⟩
  ·left;omega
  ·left;omega
  ·left;omega
  ·exact .inr ⟨by omega,List.lt_trans h3 h4⟩
theorem cmpM_tri (a b:Val) (h1: ¬cmpM a b<0) (h2: ¬cmpM b a<0):a=b:=by
 rw [cmpM_neg] at *
 simp only [not_or,not_and,Int.not_lt] at h1 h2
 have hk:a.kind=b.kind:=by omega
 have h1':=h1.2 hk
 have h2':=h2.2 hk.symm
 have hn:a.num=b.num:=by omega
 have h1'':=h1'.2 hn
 have h2'':=h2'.2 hn.symm
 exact val_ext hk hn (List.le_antisymm (List.not_lt.1 h2'') (List.not_lt.1 h1''))
theorem gp (a b:Val):cmpM a b<=0 ↔ ¬cmpM b a<0:=by
 refine ⟨fun h h2=>?_,fun h=>?_⟩
 ·rcases Int.lt_or_eq_of_le h with h | h
  ·exact cmpM_irrefl _ (qC h h2)
  ·rw [wv] at h;subst h;exact cmpM_irrefl _ h2
 ·by_cases h3:cmpM a b<0
  ·omega
  ·rw [(wv a b).2 (cmpM_tri a b h3 h)];decide
end
section
open Go.Am
attribute [local simp, local push_cast] num boo str ints aV aTab zv aS aT aC
def okN (a:Int):Prop:= -1000000000000<=a/\a<=1000000000000
def absI (a:Int):Int:=if a<0 then -a else a
def numM (op a b:Int):Int×Bool:=
 if op=6 then (a+b,true) else if op=7 then (a-b,true)
 else if op=8 then (if a≠0/\b≠0/\absI a>(1000000000000:Int).tdiv (absI b) then (0,false) else (a * b,true))
 else if op=9 then (if b≠0 then (a.tdiv b,true) else (0,false))
 else if op=10 then (if b≠0 then (a.tmod b,true) else (0,false)) else (0,false)
theorem gD {a:Int} (h:a≠0):0<absI a:=by unfold absI;split<;>omega
theorem abs_max {a:Int} (h:okN a):(if -a>a then -a else a)=absI a:=by unfold okN at h;unfold absI;split<;>split<;>omega
theorem tdiv_le {a b:Int} (ha:0<=a) (hb:0<b):0<=a.tdiv b/\a.tdiv b<=a:=by
 rw [Int.tdiv_eq_ediv_of_nonneg ha]
 exact ⟨Int.ediv_nonneg ha (Int.le_of_lt hb),Int.ediv_le_self _ ha⟩
theorem mul_ok {a b:Int} (ha:okN a) (hb:okN b) (h: ¬(a≠0/\b≠0/\absI a>(1000000000000:Int).tdiv (absI b))):okN (a * b):=by
 by_cases h1:a=0
 ·subst h1;simp [okN]
 by_cases h2:b=0
 ·subst h2;simp [okN]
 have h3:absI a<=(1000000000000:Int).tdiv (absI b):=by
  have: ¬absI a>(1000000000000:Int).tdiv (absI b):=fun h4=>h ⟨h1,h2,h4⟩
  omega
 have hp:=gD h2
 rw [Int.tdiv_eq_ediv_of_nonneg (by decide),Int.le_ediv_iff_mul_le hp] at h3
 have e:a * b=absI a * absI b\/a * b= -(absI a * absI b):=by
  unfold absI
  split<;>split
  ·left;simp [Int.neg_mul,Int.mul_neg]
  ·right;simp [Int.neg_mul]
  ·right;simp [Int.mul_neg]
  ·left;rfl
 have hq:0<=absI a * absI b:=Int.mul_nonneg (Int.le_of_lt (gD h1)) (Int.le_of_lt hp)
 unfold okN
 omega
theorem tdiv_ok {a b:Int} (ha:okN a) (hb:b≠0):okN (a.tdiv b):=by
 have h:=Int.natAbs_tdiv_le_natAbs a b
 unfold okN at *
 omega
theorem tmod_ok {a b:Int} (ha:okN a) (hb:b≠0):okN (a.tmod b):=by
 have h:(a.tmod b).natAbs<=a.natAbs:=by
  rw [Int.natAbs_tmod];exact Nat.mod_le _ _
 unfold okN at *
 omega
theorem uu {a:Int} (h: -9000000000000<=a/\a<=9000000000000):IntKind.i64.wrap a=a:=zw (by omega) (by omega)
theorem c_numbers (op a b:Int) (ha:okN a) (hb:okN b):ACall Tryz.prog 199 [num op,num a,num b] [] (.tup [num (numM op a b).1,boo (numM op a b).2]) []:=by
 refine zn mixed ttok Tryz.func199 Tryz.ntmps199 Tryz.results199 ?_
 generalize hr:A.tup [num (numM op a b).1,boo (numM op a b).2]=R
 have ha':=ha
 have hb':=hb
 unfold okN at ha' hb'
 have w1:=uu (a:=a+b) (by omega)
 have w2:=uu (a:=a-b) (by omega)
 have w3:=uu (a:= -a) (by omega)
 have w4:=uu (a:= -b) (by omega)
 have e3:(0:Int)-a= -a:=by omega
 have e4:(0:Int)-b= -b:=by omega
 unfold numM at hr
 simp -implicitDefEqProofs only [argT,w1,w2,w3,w4,e3,e4,abs_max ha,abs_max hb,↓zb,push_cast,simprocAttr,tte]
 refine za (fun h6=>?_) fun h6=>?_
 ·exact zN trivial (by rw [<-hr,if_pos (by simpa using h6)];rfl) (by simp [ends])
 rw [if_neg (by simpa using h6)] at hr
 refine za (fun h7=>?_) fun h7=>?_
 ·exact zN trivial (by rw [<-hr,if_pos (by simpa using h7)];rfl) (by simp [ends])
 rw [if_neg (by simpa using h7)] at hr
 refine za (fun h8=>?_) fun h8=>?_
 ·rw [if_pos (by simpa using h8)] at hr
  by_cases hz:a≠0/\b≠0
  ·have hp:=gD hz.2
   have hd:=tdiv_le (a:=1000000000000) (by decide) hp
   have w5:=uu (a:=(1000000000000:Int).tdiv (absI b)) (by omega)
   refine za (fun h1=>?_) fun h1=>?_
   ·refine za (fun h2=>?_) fun h2=>?_
    ·refine ⟨by omega,?_⟩
     simp only [w5]
     refine za (fun h3=>?_) fun h3=>?_
     ·simp only [decide_eq_true_eq] at h3
      exact zN trivial (by rw [<-hr,if_pos ⟨hz.1,hz.2,h3⟩];rfl) (by simp [ends])
     ·simp only [decide_eq_false_iff_not] at h3
      have hn: ¬(a≠0/\b≠0/\absI a>(1000000000000:Int).tdiv (absI b)):=fun h=>h3 h.2.2
      have hm:=mul_ok ha hb hn
      unfold okN at hm
      have w6:=uu (a:=a * b) (by omega)
      simp only [w6]
      exact zN trivial (by rw [<-hr,if_neg hn];rfl) (by simp [ends])
    ·simp at h2;omega
   ·simp at h1;omega
  ·have hn: ¬(a≠0∧b≠0∧absI a>(1000000000000:Int).tdiv (absI b)):=fun h=>hz ⟨h.1,h.2.1⟩
   have hm:=mul_ok ha hb hn
   unfold okN at hm
   have w6:=uu (a:=a * b) (by omega)
   rw [if_neg hn] at hr
   refine za (fun h1=>?_) fun h1=>?_
   ·refine za (fun h2=>?_) fun h2=>?_
    ·simp at h1 h2;omega
    ·simp only [w6]
     exact zN trivial (by rw [<-hr];rfl) (by simp [ends])
   ·simp only [w6]
    exact zN trivial (by rw [<-hr];rfl) (by simp [ends])
 rw [if_neg (by simpa using h8)] at hr
 refine za (fun h9=>?_) fun h9=>?_
 ·rw [if_pos (by simpa using h9)] at hr
  refine za (fun h1=>?_) fun h1=>?_
  ·have h1':b≠0:=by simpa using h1
   have hm:=tdiv_ok ha h1'
   unfold okN at hm
   have w6:=uu (a:=a.tdiv b) (by omega)
   simp only [w6]
   exact ⟨h1',zN trivial (by rw [<-hr,if_pos h1'];rfl) (by simp [ends])⟩
  ·have h1': ¬b≠0:=by simpa using h1
   exact zN trivial (by rw [<-hr,if_neg h1'];rfl) (by simp [ends])
 rw [if_neg (by simpa using h9)] at hr
 refine za (fun h10=>?_) fun h10=>?_
 ·rw [if_pos (by simpa using h10)] at hr
  refine za (fun h1=>?_) fun h1=>?_
  ·have h1':b≠0:=by simpa using h1
   exact ⟨h1',zN trivial (by rw [<-hr,if_pos h1'];rfl) (by simp [ends])⟩
  ·have h1': ¬b≠0:=by simpa using h1
   exact zN trivial (by rw [<-hr,if_neg h1'];rfl) (by simp [ends])
 rw [if_neg (by simpa using h10)] at hr
 exact zN trivial (by rw [<-hr];rfl) (by simp [ends])
end
section
open Go.Am
attribute [local simp, local push_cast] num boo str ints aV aTab zv aS aT aC
theorem c_ne (x t:Int):ACall Tryz.prog 236 [num x,.ptr 1000 0] [(1000,.var [num t])] (boo (x !=t)) [(1000,.var [num t])]:=by
 refine zn mixed ttok Tryz.func236 Tryz.ntmps236 Tryz.results236 ?_
 generalize hr:boo (x !=t)=R
 simp -implicitDefEqProofs only [argT,↓zb,push_cast,simprocAttr,tte]
 refine zu [0] rfl (by simp) (by simp [zc]<;>omega) ?_ (by first | rfl | simp [ends] | (subst_vars;simp [ends])) (by simp [ends]) (by simp [ends])
 exact hr
theorem c_idxN (l:List Int) (t:Int) (hl:l.length<=1000000000):
 ACall Tryz.prog 197 [ints l,.clo 236 [.ptr 1000 0]] [(1000,.var [num t])] (num (fidx (fun x=>x !=t) l)) [(1000,.var [num t])]:=by
 refine zn mixed ttok Tryz.func197 Tryz.ntmps197 Tryz.results197 ?_
 generalize hr:num (fidx (fun x=>x !=t) l)=R
 simp -implicitDefEqProofs only [argT,↓zb,push_cast,simprocAttr,tte]
 refine zo mixed ttok 8 [0,1,6,7] [1000] (by simp only [zC,ends,push_cast,simprocAttr];rfl) (by simp only [zH,zp,ends,push_cast,simprocAttr];rfl) l.length (fun n=> ∀i,i<n->(l.getD i default !=t)=false) (fun _=>[]) (fun _=>[]) (fun i h=>absurd h (Nat.not_lt_zero _)) ?_ ?_
 ·exact Weak.keepL (by simp [cst,ends]) (by simp [cst,ends]) (by simp [cst,ends])
 intro I hI n hn hi
 simp -implicitDefEqProofs only [cst,↓zb,push_cast,simprocAttr,tte]
 refine za (fun h=>?_) fun h=>?_
 ·simp only [decide_eq_true_eq] at h
  have h':n<l.length:=by omega
  have hw:=zj h' (by omega)
  refine ⟨(by first | omega | trivial | (refine ⟨?_,?_⟩<;>first | omega | trivial | (refine ⟨?_,?_⟩<;>first | omega | trivial | (refine ⟨?_,?_⟩<;>first | omega | trivial | rfl)))),?_⟩
  refine ze [[0],[]] [(1000,1000)] (c_ne (l.getD n default) t) ?_
  simp -implicitDefEqProofs only [↓zb,push_cast,simprocAttr,tte]
  refine za (fun g=>?_) fun g=>?_
  ·refine zu [0] rfl (by simp) (by simp [zc]<;>omega) ?_ (by first | rfl | simp [ends] | (subst_vars;simp [ends])) (by simp [ends]) (by simp [ends])
   rw [<-hr,vA _ l n h' hi g];rfl
  ·exact zq hI n rfl h' (fun i h2=>if h3:i=n then by rw [h3];exact g else hi i (by omega)) (by simp [hw,ends]) (by simp [hw,ends]) (by simp [hw,ends]) (by simp [hw,ends])
 ·simp only [decide_eq_false_iff_not] at h
  obtain rfl:n=l.length:=by omega
  refine zu [0] rfl (by simp) (by simp [zc]<;>omega) ?_ (by first | rfl | simp [ends] | (subst_vars;simp [ends])) (by simp [ends]) (by simp [ends])
  rw [<-hr,xE _ l hi];rfl
theorem c_containsN (l:List Int) (t:Int) (hl:l.length<=1000000000):
 ACall Tryz.prog 160 [ints l,.clo 236 [.ptr 1000 0]] [(1000,.var [num t])] (boo (l.any fun x=>x !=t)) [(1000,.var [num t])]:=by
 refine zn mixed ttok Tryz.func160 Tryz.ntmps160 Tryz.results160 ?_
 generalize hr:boo (l.any fun x=>x !=t)=R
 simp -implicitDefEqProofs only [argT,↓zb,push_cast,simprocAttr,tte]
 refine ze [[1],[]] [(1000,1000)] (c_idxN l t hl) ?_
 simp -implicitDefEqProofs only [↓zb,push_cast,simprocAttr,tte]
 refine zu [0] rfl (by simp) (by simp [zc]<;>omega) ?_ (by first | rfl | simp [ends] | (subst_vars;simp [ends])) (by simp [ends]) (by simp [ends])
 rw [<-hr,<-any_fidx];rfl
theorem c_every (l:List Int) (t:Int) (hl:l.length<=1000000000):ACall Tryz.prog 235 [num t,ints l] [] (boo (l.all fun x=>x==t)) []:=by
 refine zn mixed ttok Tryz.func235 Tryz.ntmps235 Tryz.results235 ?_
 generalize hr:boo (l.all fun x=>x==t)=R
 simp -implicitDefEqProofs only [argT,↓zb,push_cast,simprocAttr,tte]
 refine ze [[1],[]] [(1000,2)] (c_containsN l t hl) ?_
 simp -implicitDefEqProofs only [↓zb,push_cast,simprocAttr,tte]
 have:(l.all fun x=>x==t)= !(l.any fun x=>x !=t):=by
  rw [List.not_any_eq_all_not];simp [bne]
 exact zi trivial (by rw [<-hr,this];rfl) (by simp [ends])
def fitM (o:OpD) (l:List Int):Bool:=
 if o.types=1 then l.all (fun x=>x==1) else if o.types=2 then l.all (fun x=>x==3) else if o.types=3 then l.all (fun x=>x==2)
 else if o.types=4 then l.all (fun x=>x==l.getD 0 default) else if o.types=6 then (l.getD 0 default==2)&&(l.getD 1 default==l.getD 2 default) else true
theorem c_fit (o:OpD) (l:List Int) (hl:l.length<=1000000000) (h4:o.types=4->0<l.length) (h6:o.types=6->l.length=3):ACall Tryz.prog 218 [aOp o,ints l] [] (boo (fitM o l)) []:=by
 refine zn mixed ttok Tryz.func218 Tryz.ntmps218 Tryz.results218 ?_
 generalize hr:boo (fitM o l)=R
 simp -implicitDefEqProofs only [argT,aOp,↓zb,push_cast,simprocAttr,tte]
 refine za (fun k1=>?_) fun k1=>?_
 ·have hk:o.types=1:=by simpa using k1
  have hM:fitM o l=l.all (fun x=>x==1):=by rw [fitM,if_pos hk]
  refine ze [[0],[1]] [] (c_every l 1 hl) ?_
  simp -implicitDefEqProofs only [↓zb,push_cast,simprocAttr,tte]
  exact zi trivial (by rw [<-hr,hM];rfl) (by simp [ends])
 have hk1: ¬o.types=1:=by simpa using k1
 refine za (fun k2=>?_) fun k2=>?_
 ·have hk:o.types=2:=by simpa using k2
  have hM:fitM o l=l.all (fun x=>x==3):=by rw [fitM,if_neg hk1,if_pos hk]
  refine ze [[0],[1]] [] (c_every l 3 hl) ?_
  simp -implicitDefEqProofs only [↓zb,push_cast,simprocAttr,tte]
  exact zi trivial (by rw [<-hr,hM];rfl) (by simp [ends])
 have hk2: ¬o.types=2:=by simpa using k2
 refine za (fun k3=>?_) fun k3=>?_
 ·have hk:o.types=3:=by simpa using k3
  have hM:fitM o l=l.all (fun x=>x==2):=by rw [fitM,if_neg hk1,if_neg hk2,if_pos hk]
  refine ze [[0],[1]] [] (c_every l 2 hl) ?_
  simp -implicitDefEqProofs only [↓zb,push_cast,simprocAttr,tte]
  exact zi trivial (by rw [<-hr,hM];rfl) (by simp [ends])
 have hk3: ¬o.types=3:=by simpa using k3
 refine za (fun k4=>?_) fun k4=>?_
 ·have hk:o.types=4:=by simpa using k4
  have hM:fitM o l=l.all (fun x=>x==l.getD 0 default):=by rw [fitM,if_neg hk1,if_neg hk2,if_neg hk3,if_pos hk]
  have:=h4 hk
  refine ⟨(by first | omega | trivial | (refine ⟨?_,?_⟩<;>first | omega | trivial | (refine ⟨?_,?_⟩<;>first | omega | trivial | (refine ⟨?_,?_⟩<;>first | omega | trivial | rfl)))),?_⟩
  refine ze [[0],[1]] [] (c_every l (l.getD 0 default) hl) ?_
  simp -implicitDefEqProofs only [↓zb,push_cast,simprocAttr,tte]
  exact zi trivial (by rw [<-hr,hM];rfl) (by simp [ends])
 have hk4: ¬o.types=4:=by simpa using k4
 refine za (fun k6=>?_) fun k6=>?_
 ·have hk:o.types=6:=by simpa using k6
  have hM:fitM o l=((l.getD 0 default==2)&&(l.getD 1 default==l.getD 2 default)):=by rw [fitM,if_neg hk1,if_neg hk2,if_neg hk3,if_neg hk4,if_pos hk]
  have:=h6 hk
  refine ⟨(by first | omega | trivial | (refine ⟨?_,?_⟩<;>first | omega | trivial | (refine ⟨?_,?_⟩<;>first | omega | trivial | (refine ⟨?_,?_⟩<;>first | omega | trivial | rfl)))),?_⟩
  refine za (fun g=>?_) fun g=>?_
  ·refine ⟨(by first | omega | trivial | (refine ⟨?_,?_⟩<;>first | omega | trivial | (refine ⟨?_,?_⟩<;>first | omega | trivial | (refine ⟨?_,?_⟩<;>first | omega | trivial | rfl)))),(by first | omega | trivial | (refine ⟨?_,?_⟩<;>first | omega | trivial | (refine ⟨?_,?_⟩<;>first | omega | trivial | (refine ⟨?_,?_⟩<;>first | omega | trivial | rfl)))),zf (by kernel_rfl),?_⟩
   exact zi trivial (by rw [<-hr,hM,g,Bool.true_and];rfl) (by simp [ends])
  ·refine ⟨zf (by kernel_rfl),?_⟩
   exact zi trivial (by rw [<-hr,hM,g,Bool.false_and];rfl) (by simp [ends])
 ·have hk6: ¬o.types=6:=by simpa using k6
  have hM:fitM o l=true:=by rw [fitM,if_neg hk1,if_neg hk2,if_neg hk3,if_neg hk4,if_neg hk6]
  exact zi trivial (by rw [<-hr,hM];rfl) (by simp [ends])
end
section
open Go.Am
attribute [local simp, local push_cast] num boo str ints aV aTab zv aS aT aC aOp
def kT (k:Int):Bool:=(k==1 || k==2) || k==3
def ownM (ts:List Int) (e:Ex) (l:List Int):Int×Int:=
 if (!isOp e.op || !yd e) then (0,1)
 else if !yA e then (0,9)
 else if (e.op==5&&(decide (e.col<0) || decide (e.col≥ts.length))) then (0,3)
 else if ((e.op==5&& !kT (ts.getD e.col.toNat default)) || !fitM (y9 e.op) l) then (0,4)
 else if e.op==5 then (ts.getD e.col.toNat default,0)
 else if e.op==1 then (e.type,0)
 else if (y9 e.op).own==0 then (l.getD (l.length-1) default,0)
 else ((y9 e.op).own,0)
def typK (f:Ex->List Int->Int×Int) (e:Ex) (rs:List (Int×Int)):Int×Int:=if ferr Prod.snd rs=0 then f e (rs.map Prod.fst) else (0,ferr Prod.snd rs)
mutual
def typG (f:Ex->List Int->Int×Int):Ex->Int×Int
 | .mk a b c d g ks=>typK f (.mk a b c d g ks) (typL f ks)
def typL (f:Ex->List Int->Int×Int):List Ex->List (Int×Int)
 | []=>[]
 | e::l=>typG f e::typL f l
end
theorem typL_eq (f:Ex->List Int->Int×Int): ∀l,typL f l=l.map (typG f)
 | []=>rfl
 | e::l=>by rw [typL,typL_eq f l];rfl
theorem jy (f:Ex->List Int->Int×Int) (e:Ex):typG f e=typK f e (e.kids.map (typG f)):=by cases e;rw [typG,typL_eq];rfl
theorem wp {α β:Type} (g:β->Int) (h:α->β): ∀l:List α,ferr g (l.map h)=ferr (fun x=>g (h x)) l
 | []=>rfl
 | x::l=>by simp only [List.map_cons,ferr,wp g h l]
theorem xK {α:Type} [Inhabited α] (g:α->Int): ∀(l:List α) (n:Nat),n<l.length->(∀i,i<n->g (l.getD i default)=0)->g (l.getD n default)≠0->ferr g l=g (l.getD n default)
 | [],n,h,_,_=>by simp at h
 | x::l,0,_,_,hg=>by simp at hg;simp [ferr,hg]
 | x::l,n+1,h,hb,hg=>by
   have h0:=hb 0 (by omega)
   simp at h0
   simp only [ferr,h0,if_true]
   rw [xK g l n (by simpa using h) (fun i hi=>by simpa using hb (i+1) (by omega)) (by simpa using hg)]
   simp
theorem yT {α:Type} [Inhabited α] (g:α->Int): ∀(l:List α),(∀i,i<l.length->g (l.getD i default)=0)->ferr g l=0
 | [],_=>rfl
 | x::l,hb=>by
   have h0:=hb 0 (by simp)
   simp at h0
   simp only [ferr,h0,if_true]
   exact yT g l (fun i hi=>by simpa using hb (i+1) (by simpa using hi))
def vE (f:Ex->List Int->Int×Int) (e:Ex) (n:Nat):List Int:=(e.kids.take n).map fun k=>(typG f k).1
theorem qF (f:Ex->List Int->Int×Int) (e:Ex) (n:Nat) (h:n<=e.kids.length):(vE f e n).length=n:=by simp [vE];omega
theorem tysTo_succ (f:Ex->List Int->Int×Int) (e:Ex) (n:Nat) (h:n<e.kids.length):vE f e (n+1)=vE f e n++[(typG f (e.kids.getD n default)).1]:=by rw [vE,z7 _ _ h,List.map_append];rfl
def zL (p:Int×Int):A:= .tup [num p.1,num p.2]
theorem tab_alike: ∀op:Int,isOp op=true->(y9 op).types=4->2<=(y9 op).kids:=by
 have h:(List.range 29).all (fun n=> !decide ((opTab.getD n default).types=4) || decide (2<=(opTab.getD n default).kids))=true:=by decide
 intro op ho ht
 rw [y9,ho,if_pos rfl,opAt] at ht ⊢
 simp only [isOp,Bool.and_eq_true,decide_eq_true_eq] at ho
 have:=all_range.1 h op.toNat (by omega)
 rw [ht] at this
 simpa using this
theorem tab_choice: ∀op:Int,isOp op=true->(y9 op).types=6->(y9 op).kids=3/\op≠28:=by
 have h:(List.range 29).all (fun n=> !decide ((opTab.getD n default).types=6) || (decide ((opTab.getD n default).kids=3)&&decide (n≠28)))=true:=by decide
 intro op ho ht
 rw [y9,ho,if_pos rfl,opAt] at ht ⊢
 simp only [isOp,Bool.and_eq_true,decide_eq_true_eq] at ho
 have:=all_range.1 h op.toNat (by omega)
 rw [ht] at this
 simp only [decide_true,Bool.not_true,Bool.false_or,Bool.and_eq_true,decide_eq_true_eq] at this
 exact ⟨this.1,by omega⟩
theorem tab_own: ∀op:Int,isOp op=true->(y9 op).own=0->op=1\/op=5\/1<=(y9 op).kids:=by
 have h:(List.range 29).all (fun n=> !decide ((opTab.getD n default).own=0) || (decide (n=0) || decide (n=1) || decide (n=5) || decide (1<=(opTab.getD n default).kids)))=true:=by decide
 intro op ho ht
 rw [y9,ho,if_pos rfl,opAt] at ht ⊢
 simp only [isOp,Bool.and_eq_true,decide_eq_true_eq] at ho
 have:=all_range.1 h op.toNat (by omega)
 rw [ht] at this
 simp only [decide_true,Bool.not_true,Bool.false_or,Bool.or_eq_true,decide_eq_true_eq] at this
 omega
theorem uG {e:Ex} (h:yA e=true):(y9 e.op).kids<=e.kids.length/\(e.op≠28->(e.kids.length:Int)=(y9 e.op).kids):=by
 simp only [yA,Bool.and_eq_true,Bool.or_eq_true,beq_iff_eq,decide_eq_true_eq] at h
 omega
theorem c_typ (ts:List Int) (hts:ts.length<=1000000000): ∀e:Ex,Ok12 e->ACall Tryz.prog 192 [ints ts,aE e] [] (zL (typG (ownM ts) e)) []:=
 uY (p:=fun e=>Ok12 e->ACall Tryz.prog 192 [ints ts,aE e] [] (zL (typG (ownM ts) e)) []) fun e ih ho=>by
 refine zn mixed ttok Tryz.func192 Tryz.ntmps192 Tryz.results192 ?_
 generalize hr:zL (typG (ownM ts) e)=R
 have hl:=ho.kids
 simp -implicitDefEqProofs only [argT,↓zb,push_cast,simprocAttr,tte]
 refine zo mixed ttok 17 [0,3,15,16] [3] (by simp only [zC,ends,push_cast,simprocAttr];rfl) (by simp only [zH,zp,ends,push_cast,simprocAttr];rfl) e.kids.length (fun n=> ∀i,i<n->(typG (ownM ts) (e.kids.getD i default)).2=0) (fun n=>[(6,.vec 500 n)]) (fun n=>[(500,.vec 3 1 (zd rI (vE (ownM ts) e n)) 0)]) (fun i h=>absurd h (Nat.not_lt_zero _)) ?_ ?_
 ·exact (Weak.nilL 6 500 3 1 rfl rfl).trans (Weak.keepL (by simp [cst,ends]) (by simp [cst,vE,ends]) (by simp [cst,ends]))
 intro I hI n hn hi
 have hl2:=qF (ownM ts) e n hn
 simp -implicitDefEqProofs only [cst,↓zb,push_cast,simprocAttr,tte]
 refine za (fun h=>?_) fun h=>?_
 ·simp only [decide_eq_true_eq] at h
  have h':n<e.kids.length:=by omega
  have hw:=zj h' (by omega)
  have hs:=tysTo_succ (ownM ts) e n h'
  refine ⟨(by first | omega | trivial | (refine ⟨?_,?_⟩<;>first | omega | trivial | (refine ⟨?_,?_⟩<;>first | omega | trivial | (refine ⟨?_,?_⟩<;>first | omega | trivial | rfl)))),?_⟩
  refine ze [[1],[0,0,0,0,0,6]] [] (ih _ (zk h') (ho.kid (zk h'))) ?_
  simp -implicitDefEqProofs only [zL,↓zb,push_cast,simprocAttr,tte]
  refine za (fun g=>?_) fun g=>?_
  ·have g':(typG (ownM ts) (e.kids.getD n default)).2≠0:=by simpa using g
   have hf:ferr Prod.snd (e.kids.map (typG (ownM ts)))=(typG (ownM ts) (e.kids.getD n default)).2:=by rw [wp];exact xK _ _ n h' hi g'
   have hE:typG (ownM ts) e=(0,(typG (ownM ts) (e.kids.getD n default)).2):=by rw [jy (ownM ts) e,typK,hf,if_neg g']
   exact zN trivial (by rw [<-hr,hE];rfl) (by simp [ends])
  ·have g':(typG (ownM ts) (e.kids.getD n default)).2=0:=by simpa using g
   refine ⟨⟨hl2.symm,by rw [hl2];omega⟩,?_⟩
   exact zq hI n rfl h' (fun i h2=>if h3:i=n then by rw [h3];exact g' else hi i (by omega)) (by simp [hw,hs,hl2,zh,ends]) (by simp [hw,hs,hl2,zh,ends]) (by simp [hw,hs,hl2,zh,ends]) (by simp [hw,hs,hl2,zh,ends])
 simp only [decide_eq_false_iff_not] at h
 obtain rfl:n=e.kids.length:=by omega
 clear hI
 have hf:ferr Prod.snd (e.kids.map (typG (ownM ts)))=0:=by rw [wp];exact yT _ _ hi
 have hT:vE (ownM ts) e e.kids.length=(e.kids.map (typG (ownM ts))).map Prod.fst:=by rw [vE,List.take_length,List.map_map];rfl
 have hM:typG (ownM ts) e=ownM ts e (vE (ownM ts) e e.kids.length):=by rw [jy (ownM ts) e,typK,if_pos hf,hT]
 rw [hM] at hr
 generalize vE (ownM ts) e e.kids.length=l at hl2 hr ⊢
 refine ze [[0,0,0,0,0,6]] [] (c_known e) ?_
 simp -implicitDefEqProofs only [aOp,↓zb,push_cast,simprocAttr,tte]
 have hf4:isOp e.op=true->yA e=true->(y9 e.op).types=4->0<l.length:=fun a b c=>by
  have:=tab_alike _ a c;have:=uG b;omega
 have hf6:isOp e.op=true->yA e=true->(y9 e.op).types=6->l.length=3:=fun a b c=>by
  have h9:=tab_choice _ a c;have h8:=(uG b).2 h9.2;omega
 have hf0:isOp e.op=true->yA e=true-> ¬e.op=1-> ¬e.op=5->(y9 e.op).own=0->0<l.length:=fun a b c d f=>by
  have h9:=tab_own _ a f;have h8:=uG b;omega
 refine za (fun h1=>?_) fun h1=>?_
 ·have h1':isOp e.op=false:=by simpa using h1
  have hv:ownM ts e l=(0,1):=by simp only [ownM,h1',Bool.not_true,Bool.not_false,Bool.or_false,Bool.false_or,Bool.true_or,Bool.or_true,Bool.and_true,Bool.true_and,Bool.false_and,Bool.and_false,Bool.false_eq_true,Bool.or_self,Bool.and_self,if_true,if_false]
  exact zN trivial (by rw [<-hr,hv];rfl) (by simp [ends])
 have h1':isOp e.op=true:=by simpa using h1
 refine ze [[0,0,0,0,0,6]] [] (c_clean e) ?_
 simp -implicitDefEqProofs only [↓zb,push_cast,simprocAttr,tte]
 refine za (fun h2=>?_) fun h2=>?_
 ·have h2':yd e=false:=by simpa using h2
  have hv:ownM ts e l=(0,1):=by simp only [ownM,h2',Bool.not_true,Bool.not_false,Bool.or_false,Bool.false_or,Bool.true_or,Bool.or_true,Bool.and_true,Bool.true_and,Bool.false_and,Bool.and_false,Bool.false_eq_true,Bool.or_self,Bool.and_self,if_true,if_false]
  exact zN trivial (by rw [<-hr,hv];rfl) (by simp [ends])
 have h2':yd e=true:=by simpa using h2
 refine za (fun h3=>?_) fun h3=>?_
 ·have h3':yA e=false:=by simpa using h3
  have hv:ownM ts e l=(0,9):=by simp only [ownM,h1',h2',h3',Bool.not_true,Bool.not_false,Bool.or_false,Bool.false_or,Bool.true_or,Bool.or_true,Bool.and_true,Bool.true_and,Bool.false_and,Bool.and_false,Bool.false_eq_true,Bool.or_self,Bool.and_self,if_true,if_false]
  exact zN trivial (by rw [<-hr,hv];rfl) (by simp [ends])
 have h3':yA e=true:=by simpa using h3
 replace hf4:=hf4 h1' h3'
 replace hf6:=hf6 h1' h3'
 replace hf0:=hf0 h1' h3'
 refine za (fun h4=>?_) fun h4=>?_
 ·refine za (fun h5=>?_) fun h5=>?_
  ·have hv:ownM ts e l=(0,3):=by simp only [ownM,h1',h2',h3',h4,h5,Bool.not_true,Bool.not_false,Bool.or_false,Bool.false_or,Bool.true_or,Bool.or_true,Bool.and_true,Bool.true_and,Bool.false_and,Bool.and_false,Bool.false_eq_true,Bool.or_self,Bool.and_self,if_true,if_false]
   exact zN trivial (by rw [<-hr,hv];rfl) (by simp [ends])
  refine za (fun h6=>?_) fun h6=>?_
  ·have hv:ownM ts e l=(0,3):=by simp only [ownM,h1',h2',h3',h4,h5,h6,Bool.not_true,Bool.not_false,Bool.or_false,Bool.false_or,Bool.true_or,Bool.or_true,Bool.and_true,Bool.true_and,Bool.false_and,Bool.and_false,Bool.false_eq_true,Bool.or_self,Bool.and_self,if_true,if_false]
   exact zN trivial (by rw [<-hr,hv];rfl) (by simp [ends])
  rw [h4,yn]
  refine ⟨by simp only [decide_eq_false_iff_not] at h5 h6;omega,?_⟩
  refine ze [[0]] [] (c_isType (ts.getD e.col.toNat default)) ?_
  simp -implicitDefEqProofs only [↓zb,push_cast,simprocAttr,tte]
  rw [show (((ts.getD e.col.toNat default==1) || (ts.getD e.col.toNat default==2)) || (ts.getD e.col.toNat default==3))=kT (ts.getD e.col.toNat default) from rfl]
  refine za (fun h7=>?_) fun h7=>?_
  ·have h7':kT (ts.getD e.col.toNat default)=false:=by simpa using h7
   have hv:ownM ts e l=(0,4):=by simp only [ownM,h1',h2',h3',h4,h5,h6,h7',Bool.not_true,Bool.not_false,Bool.or_false,Bool.false_or,Bool.true_or,Bool.or_true,Bool.and_true,Bool.true_and,Bool.false_and,Bool.and_false,Bool.false_eq_true,Bool.or_self,Bool.and_self,if_true,if_false]
   exact zN trivial (by rw [<-hr,hv];rfl) (by simp [ends])
  have h7':kT (ts.getD e.col.toNat default)=true:=by simpa using h7
  refine ze [[0,0,0,0],[1]] [] (c_fit (y9 e.op) l (by omega) hf4 hf6) ?_
  simp -implicitDefEqProofs only [↓zb,push_cast,simprocAttr,tte]
  refine za (fun h8=>?_) fun h8=>?_
  ·have h8':fitM (y9 e.op) l=false:=by simpa using h8
   have hv:ownM ts e l=(0,4):=by simp only [ownM,h1',h2',h3',h4,h5,h6,h7',h8',Bool.not_true,Bool.not_false,Bool.or_false,Bool.false_or,Bool.true_or,Bool.or_true,Bool.and_true,Bool.true_and,Bool.false_and,Bool.and_false,Bool.false_eq_true,Bool.or_self,Bool.and_self,if_true,if_false]
   exact zN trivial (by rw [<-hr,hv];rfl) (by simp [ends])
  have h8':fitM (y9 e.op) l=true:=by simpa using h8
  rw [h4,yn]
  refine ⟨by simp only [decide_eq_false_iff_not] at h5 h6;omega,?_⟩
  have hv:ownM ts e l=(ts.getD e.col.toNat default,0):=by simp only [ownM,h1',h2',h3',h4,h5,h6,h7',h8',Bool.not_true,Bool.not_false,Bool.or_false,Bool.false_or,Bool.true_or,Bool.or_true,Bool.and_true,Bool.true_and,Bool.false_and,Bool.and_false,Bool.false_eq_true,Bool.or_self,Bool.and_self,if_true,if_false]
  exact zN trivial (by rw [<-hr,hv];rfl) (by simp [ends])
 rw [h4,uU]
 refine ze [[0,0,0,0],[1]] [] (c_fit (y9 e.op) l (by omega) hf4 hf6) ?_
 simp -implicitDefEqProofs only [↓zb,push_cast,simprocAttr,tte]
 refine za (fun h8=>?_) fun h8=>?_
 ·have h8':fitM (y9 e.op) l=false:=by simpa using h8
  have hv:ownM ts e l=(0,4):=by simp only [ownM,h1',h2',h3',h4,h8',Bool.not_true,Bool.not_false,Bool.or_false,Bool.false_or,Bool.true_or,Bool.or_true,Bool.and_true,Bool.true_and,Bool.false_and,Bool.and_false,Bool.false_eq_true,Bool.or_self,Bool.and_self,if_true,if_false]
  exact zN trivial (by rw [<-hr,hv];rfl) (by simp [ends])
 have h8':fitM (y9 e.op) l=true:=by simpa using h8
 rw [h4,uU]
 refine za (fun h5=>?_) fun h5=>?_
 ·have hv:ownM ts e l=(e.type,0):=by simp only [ownM,h1',h2',h3',h4,h8',h5,Bool.not_true,Bool.not_false,Bool.or_false,Bool.false_or,Bool.true_or,Bool.or_true,Bool.and_true,Bool.true_and,Bool.false_and,Bool.and_false,Bool.false_eq_true,Bool.or_self,Bool.and_self,if_true,if_false]
  exact zN trivial (by rw [<-hr,hv];rfl) (by simp [ends])
 refine za (fun h6=>?_) fun h6=>?_
 ·have h5': ¬e.op=1:=by simpa using h5
  have h4': ¬e.op=5:=by simpa using h4
  have h6':(y9 e.op).own=0:=by simpa using h6
  have hp:=hf0 h5' h4' h6'
  have hw:IntKind.i64.wrap ((e.kids.length:Int)-1)=((l.length-1:Nat):Int):=by rw [zw (by omega) (by omega)];omega
  rw [hw]
  have hv:ownM ts e l=(l.getD (l.length-1) default,0):=by simp only [ownM,h1',h2',h3',h4,h8',h5,h6,Bool.not_true,Bool.not_false,Bool.or_false,Bool.false_or,Bool.true_or,Bool.or_true,Bool.and_true,Bool.true_and,Bool.false_and,Bool.and_false,Bool.false_eq_true,Bool.or_self,Bool.and_self,if_true,if_false]
  refine ⟨hl2.symm,⟨⟨by omega,by omega⟩,hl2.symm⟩,by omega,hl2.symm,?_⟩
  exact zN trivial (by rw [<-hr,hv];rfl) (by simp [ends])
 have hv:ownM ts e l=((y9 e.op).own,0):=by simp only [ownM,h1',h2',h3',h4,h8',h5,h6,Bool.not_true,Bool.not_false,Bool.or_false,Bool.false_or,Bool.true_or,Bool.or_true,Bool.and_true,Bool.true_and,Bool.false_and,Bool.and_false,Bool.false_eq_true,Bool.or_self,Bool.and_self,if_true,if_false]
 exact zN trivial (by rw [<-hr,hv];rfl) (by simp [ends])
end
section
open Go.Am
attribute [local simp, local push_cast] num boo str ints aV aTab zv aS aT aC zR zL
def yC (f:Ex->List Int->Int×Int) (e:Ex):Int×Int:=if wD e>200 then (0,8) else if xA e>24 then (0,13) else typG f e
theorem c_type (ts:List Int) (hts:ts.length<=1000000000) (e:Ex) (ho:Ok12 e):ACall Tryz.prog 148 [ints ts,aE e] [] (zL (yC (ownM ts) e)) []:=by
 refine zn mixed ttok Tryz.func148 Tryz.ntmps148 Tryz.results148 ?_
 generalize hr:zL (yC (ownM ts) e)=R
 simp -implicitDefEqProofs only [argT,↓zb,push_cast,simprocAttr,tte]
 refine ze [[0,0,0,0,0,6]] [] (c_size e ho) ?_
 simp -implicitDefEqProofs only [↓zb,push_cast,simprocAttr,tte]
 refine za (fun h=>?_) fun h=>?_
 ·have hv:yC (ownM ts) e=(0,8):=if_pos (of_decide_eq_true h)
  exact zN trivial (by rw [<-hr,hv];rfl) (by simp [ends])
 have h': ¬wD e>200:=of_decide_eq_false h
 refine ze [[0,0,0,0,0,6]] [] (c_depth e ho) ?_
 simp -implicitDefEqProofs only [↓zb,push_cast,simprocAttr,tte]
 refine za (fun g=>?_) fun g=>?_
 ·have hv:yC (ownM ts) e=(0,13):=by rw [yC,if_neg h',if_pos (of_decide_eq_true g)]
  exact zN trivial (by rw [<-hr,hv];rfl) (by simp [ends])
 have g': ¬xA e>24:=of_decide_eq_false g
 refine ze [[1],[0,0,0,0,0,6]] [] (c_typ ts hts e ho) ?_
 have hv:yC (ownM ts) e=typG (ownM ts) e:=by rw [yC,if_neg h',if_neg g']
 simp -implicitDefEqProofs only [zL,↓zb,push_cast,simprocAttr,tte]
 exact zN trivial (by rw [<-hr,hv];rfl) (by simp [ends])
def ve (f:Nat->Int) (N:Nat):Int:=ferr f (List.range N)
theorem u0 {N i:Nat} (h:i<N):(List.range N).getD i default=i:=by rw [List.getD_eq_getElem?_getD,List.getElem?_range h];rfl
theorem jq {f:Nat->Int} {N n:Nat} (h:n<N) (hi: ∀i,i<n->f i=0) (hn:f n≠0):ve f N=f n:=by
 have:=xK f (List.range N) n (by simpa using h) (fun i h2=>by rw [u0 (by omega)];exact hi i h2) (by rw [u0 h];exact hn)
 rwa [u0 h] at this
theorem vr {f:Nat->Int} {N:Nat} (hi: ∀i,i<N->f i=0):ve f N=0:=
 yT f (List.range N) fun i h=>by rw [List.length_range] at h;rw [u0 h];exact hi i h
def vj (k:Int):Bool:=(k !=1&&k !=2)&&k !=3
def vH (k:Int):Int:=if 0>k then 0 else k
def yH (t:Tbl) (i:Nat):Int:=
 if !ud (t.columns.getD i default).name then 3 else if vH (byC t.columns (t.columns.getD i default).name)<i then 5 else if vj (t.columns.getD i default).type then 4 else 0
def xg (t:Tbl) (e:Ex):Int:=if (yC (ownM (zD t)) e).2≠0 then (yC (ownM (zD t)) e).2 else if (yC (ownM (zD t)) e).1≠2 then 4 else 0
def bigT (t:Tbl):Bool:=((decide ((t.columns.length:Int)>8) || decide ((t.uniques.length:Int)>3)) || decide ((t.foreigns.length:Int)>3)) || decide ((t.checks.length:Int)>4)
def yZ (t:Tbl):Int:=
 if bigT t then 8 else if t.columns.length=0 then 9
 else if ve (yH t) t.columns.length≠0 then ve (yH t) t.columns.length
 else if xm t≠0 then xm t else ferr (xg t) t.checks
theorem c_table (t:Tbl) (ht:SmallT t):ACall Tryz.prog 84 [aT t] [] (num (yZ t)) []:=by
 refine zn mixed ttok Tryz.func84 Tryz.ntmps84 Tryz.results84 ?_
 generalize hr:num (yZ t)=R
 simp -implicitDefEqProofs only [argT,↓zb,push_cast,simprocAttr,tte]
 have hcl:=ht.cols
 have hkl:=ht.chk
 have hbig:bigT t=true->retx (some (True,A.d (D.lit (Value.int .i64 8)))) ⟨[],[(1,vT t)]⟩ R []:=fun hb=>zi trivial (by rw [<-hr,yZ,if_pos hb];rfl) (by simp [ends])
 simp only [vT] at hbig
 refine za (fun h1=>?_) fun h1=>?_
 ·exact hbig (by rw [bigT,h1];simp only [Bool.true_or])
 refine za (fun h2=>?_) fun h2=>?_
 ·exact hbig (by rw [bigT,h2];simp only [Bool.or_true,Bool.true_or])
 refine za (fun h3=>?_) fun h3=>?_
 ·exact hbig (by rw [bigT,h3];simp only [Bool.or_true,Bool.true_or])
 refine za (fun h4=>?_) fun h4=>?_
 ·exact hbig (by rw [bigT,h4];simp only [Bool.or_true])
 clear hbig
 have hb: ¬bigT t=true:=by rw [bigT,h1,h2,h3,h4];decide
 refine za (fun h5=>?_) fun h5=>?_
 ·have h5':t.columns.length=0:=by simpa using h5
  exact zi trivial (by rw [<-hr,yZ,if_neg hb,if_pos h5'];rfl) (by simp [ends])
 have h5': ¬t.columns.length=0:=by simpa using h5
 have hM:yZ t=if ve (yH t) t.columns.length≠0 then ve (yH t) t.columns.length
  else if xm t≠0 then xm t else ferr (xg t) t.checks:=by rw [yZ,if_neg hb,if_neg h5']
 clear h1 h2 h3 h4 h5
 refine zo mixed ttok 43 [1,41,42] [1] (by simp only [zC,ends,push_cast,simprocAttr];rfl) (by simp only [zH,zp,ends,push_cast,simprocAttr];rfl) t.columns.length (fun n=> ∀i,i<n->yH t i=0) (fun _=>[]) (fun _=>[]) (fun i h=>absurd h (Nat.not_lt_zero _)) ?_ ?_
 ·exact Weak.keepL (by simp [cst,ends]) (by simp [cst,ends]) (by simp [cst,ends])
 intro I hI n hn hi
 simp -implicitDefEqProofs only [cst,↓zb,push_cast,simprocAttr,tte]
 refine za (fun h=>?_) fun h=>?_
 ·simp only [decide_eq_true_eq] at h
  have h':n<t.columns.length:=by omega
  have hw:=zj h' (by omega)
  have hE:yH t n≠0->num (yH t n)=R:=fun hne=>by
   have:=jq h' hi hne
   rw [<-hr,hM,this,if_pos hne]
  refine ⟨(by first | omega | trivial | (refine ⟨?_,?_⟩<;>first | omega | trivial | (refine ⟨?_,?_⟩<;>first | omega | trivial | (refine ⟨?_,?_⟩<;>first | omega | trivial | rfl)))),?_⟩
  refine ze [[0]] [] (c_name (t.columns.getD n default).name) ?_
  simp -implicitDefEqProofs only [↓zb,push_cast,simprocAttr,tte]
  refine za (fun g1=>?_) fun g1=>?_
  ·have hc:yH t n=3:=if_pos g1
   exact zi trivial (by rw [<-hE (by rw [hc];decide),hc];rfl) (by simp [ends])
  refine ze [[0,3,1,1,2,6],[0]] [] (c_column t (t.columns.getD n default).name (by omega)) ?_
  simp -implicitDefEqProofs only [↓zb,push_cast,simprocAttr,tte]
  refine za (fun g2=>?_) fun g2=>?_
  ·have hc:yH t n=5:=by rw [yH,if_neg (by rw [g1];decide)];exact if_pos (of_decide_eq_true g2)
   exact zi trivial (by rw [<-hE (by rw [hc];decide),hc];rfl) (by simp [ends])
  have hcB:yH t n=if vj (t.columns.getD n default).type then 4 else 0:=by rw [yH,if_neg (by rw [g1];decide)];exact if_neg (of_decide_eq_false g2)
  have hinv:vj (t.columns.getD n default).type=false-> ∀i,i<n+1->yH t i=0:=fun hb i h2=>if h3:i=n then by rw [h3,hcB,hb];rfl else hi i (by omega)
  refine za (fun g3=>?_) fun g3=>?_
  ·refine za (fun g4=>?_) fun g4=>?_
   ·refine za (fun g5=>?_) fun g5=>?_
    ·have hc:yH t n=4:=by rw [hcB,vj,g3,g4,g5];rfl
     exact zi trivial (by rw [<-hE (by rw [hc];decide),hc];rfl) (by simp [ends])
    ·exact zq hI n rfl h' (hinv (by rw [vj,g5,Bool.and_false])) (by simp [hw,ends]) (by simp [hw,ends]) (by simp [hw,ends]) (by simp [hw,ends])
   ·exact zq hI n rfl h' (hinv (by rw [vj,g4,Bool.and_false,Bool.false_and])) (by simp [hw,ends]) (by simp [hw,ends]) (by simp [hw,ends]) (by simp [hw,ends])
  ·exact zq hI n rfl h' (hinv (by rw [vj,g3,Bool.false_and,Bool.false_and])) (by simp [hw,ends]) (by simp [hw,ends]) (by simp [hw,ends]) (by simp [hw,ends])
 simp only [decide_eq_false_iff_not] at h
 obtain rfl:n=t.columns.length:=by omega
 clear hI
 have hM2:yZ t=if xm t≠0 then xm t else ferr (xg t) t.checks:=by rw [hM,vr hi,if_neg (by decide)]
 clear hM h
 refine ze [[0,3,1,1,2,6]] [] (c_keys t ht) ?_
 simp -implicitDefEqProofs only [↓zb,push_cast,simprocAttr,tte]
 refine za (fun k1=>?_) fun k1=>?_
 ·have k1':xm t≠0:=by simpa using k1
  exact zi trivial (by rw [<-hr,hM2,if_pos k1'];rfl) (by simp [ends])
 have k1': ¬xm t≠0:=by simpa using k1
 rw [if_neg k1'] at hM2
 refine zo mixed ttok 84 [1,82,83] [1] (by simp only [zC,ends,push_cast,simprocAttr];rfl) (by simp only [zH,zp,ends,push_cast,simprocAttr];rfl) t.checks.length (fun n=> ∀i,i<n->xg t (t.checks.getD i default)=0) (fun _=>[]) (fun _=>[]) (fun i h=>absurd h (Nat.not_lt_zero _)) ?_ ?_
 ·exact Weak.keepL (by simp [cst,ends]) (by simp [cst,ends]) (by simp [cst,ends])
 clear hi hn I
 intro I hI n hn hi
 simp -implicitDefEqProofs only [cst,↓zb,push_cast,simprocAttr,tte]
 refine za (fun h=>?_) fun h=>?_
 ·simp only [decide_eq_true_eq] at h
  have h':n<t.checks.length:=by omega
  have hw:=zj h' (by omega)
  have hE:xg t (t.checks.getD n default)≠0->num (xg t (t.checks.getD n default))=R:=fun hne=>by
   have:=xK (xg t) t.checks n h' hi hne
   rw [<-hr,hM2,this]
  have hl:(zD t).length<=1000000000:=by rw [zD,List.length_map];omega
  refine ⟨(by first | omega | trivial | (refine ⟨?_,?_⟩<;>first | omega | trivial | (refine ⟨?_,?_⟩<;>first | omega | trivial | (refine ⟨?_,?_⟩<;>first | omega | trivial | rfl)))),?_⟩
  refine ze [[0,3,1,1,2,6]] [] (c_types t (by omega)) ?_
  simp -implicitDefEqProofs only [↓zb,push_cast,simprocAttr,tte]
  refine ze [[1],[0,0,0,0,0,6]] [] (c_type (zD t) hl (t.checks.getD n default) (ht.chks _ (zk h'))) ?_
  simp -implicitDefEqProofs only [zL,↓zb,push_cast,simprocAttr,tte]
  refine ⟨zf (by kernel_rfl),?_⟩
  refine za (fun g1=>?_) fun g1=>?_
  ·have g1':(yC (ownM (zD t)) (t.checks.getD n default)).2≠0:=by simpa using g1
   have hc:xg t (t.checks.getD n default)=(yC (ownM (zD t)) (t.checks.getD n default)).2:=if_pos g1'
   exact zi trivial (by rw [<-hE (by rw [hc];exact g1'),hc];rfl) (by simp [ends])
  have g1': ¬(yC (ownM (zD t)) (t.checks.getD n default)).2≠0:=by simpa using g1
  refine za (fun g2=>?_) fun g2=>?_
  ·have g2':(yC (ownM (zD t)) (t.checks.getD n default)).1≠2:=by simpa using g2
   have hc:xg t (t.checks.getD n default)=4:=by rw [xg,if_neg g1',if_pos g2']
   exact zi trivial (by rw [<-hE (by rw [hc];decide),hc];rfl) (by simp [ends])
  have g2': ¬(yC (ownM (zD t)) (t.checks.getD n default)).1≠2:=by simpa using g2
  have hc:xg t (t.checks.getD n default)=0:=by rw [xg,if_neg g1',if_neg g2']
  exact zq hI n rfl h' (fun i h2=>if h3:i=n then by rw [h3];exact hc else hi i (by omega)) (by simp [hw,ends]) (by simp [hw,ends]) (by simp [hw,ends]) (by simp [hw,ends])
 simp only [decide_eq_false_iff_not] at h
 obtain rfl:n=t.checks.length:=by omega
 exact zi trivial (by rw [<-hr,hM2,yT _ _ hi];rfl) (by simp [ends])
end
section
open Go.Am
attribute [local simp, local push_cast] num boo str ints aV aTab zv aS aT aC zR zL vT
theorem ne_nat {a b:Nat} (h:((a:Int) !=(b:Int))=true): ¬a=b:=fun e=>by rw [e] at h;simp at h
theorem ky {a b:Nat} (h:((a:Int) !=(b:Int))=false):a=b:=by simp only [bne_eq_false_iff_eq] at h;omega
def aFk (f:Fk):A:= .agg [.d (.sl 1 (zd rI f.columns)),.d (.lit (.string f.table))]
attribute [local simp, local push_cast] aFk
def yX (t:Tbl) (k:Int):Int:=(t.columns.getD k.toNat default).type
theorem c_ref1 (t u:Tbl) (i j:Int) (hi:inC t i) (hj:inC u j):ACall Tryz.prog 150 [num i,num j,.ptr 1000 0,.ptr 1001 0] [(1000,vT t),(1001,vT u)] (boo (yX t i==yX u j)) [(1000,vT t),(1001,vT u)]:=by
 refine zn mixed ttok Tryz.func150 Tryz.ntmps150 Tryz.results150 ?_
 generalize hr:boo (yX t i==yX u j)=R
 obtain ⟨hi0,hi1⟩:=hi
 obtain ⟨hj0,hj1⟩:=hj
 simp -implicitDefEqProofs only [argT,vT,↓zb,push_cast,simprocAttr,tte]
 refine ⟨⟨hi0,hi1⟩,⟨hj0,hj1⟩,zf (by kernel_rfl),?_⟩
 refine zu [0] rfl (by simp) (by simp [zc]<;>omega) ?_ (by first | rfl | simp [ends] | (subst_vars;simp [ends])) (by simp [ends]) (by simp [ends])
 exact hr
def vX (t u:Tbl) (a b:List Int):Bool:=a.length==b.length&&(List.range a.length).all fun i=>yX t (a.getD i default)==yX u (b.getD i default)
theorem c_eqF (t u:Tbl) (a b:List Int) (ha: ∀k∈a,inC t k) (hb: ∀k∈b,inC u k) (hl:a.length<=1000):
 ACall Tryz.prog 149 [ints a,ints b,.clo 150 [.ptr 1000 0,.ptr 1001 0]] [(1000,vT t),(1001,vT u)] (boo (vX t u a b)) [(1000,vT t),(1001,vT u)]:=by
 refine zn mixed ttok Tryz.func149 Tryz.ntmps149 Tryz.results149 ?_
 generalize hr:boo (vX t u a b)=R
 simp -implicitDefEqProofs only [argT,vT,↓zb,push_cast,simprocAttr,tte]
 refine za (fun h0=>?_) fun h0=>?_
 ·have h0': ¬a.length=b.length:=ne_nat h0
  refine zu [0] rfl (by simp) (by simp [zc]<;>omega) ?_ (by first | rfl | simp [ends] | (subst_vars;simp [ends])) (by simp [ends]) (by simp [ends])
  rw [<-hr,vX,beq_false_of_ne h0'];rfl
 have h0':a.length=b.length:=ky h0
 refine zo mixed ttok 17 [0,1,2,15,16] [1000,1001] (by simp only [zC,ends,push_cast,simprocAttr];rfl) (by simp only [zH,zp,ends,push_cast,simprocAttr];rfl) a.length (fun n=> ∀i,i<n->(yX t (a.getD i default)==yX u (b.getD i default))=true) (fun _=>[]) (fun _=>[]) (fun i h=>absurd h (Nat.not_lt_zero _)) ?_ ?_
 ·exact Weak.keepL (by simp [cst,ends]) (by simp [cst,ends]) (by simp [cst,ends])
 intro I hI n hn hi
 simp -implicitDefEqProofs only [cst,↓zb,push_cast,simprocAttr,tte]
 refine za (fun h=>?_) fun h=>?_
 ·simp only [decide_eq_true_eq] at h
  have h':n<a.length:=by omega
  have hw:=zj h' (by omega)
  refine ⟨(by first | omega | trivial | (refine ⟨?_,?_⟩<;>first | omega | trivial | (refine ⟨?_,?_⟩<;>first | omega | trivial | (refine ⟨?_,?_⟩<;>first | omega | trivial | rfl)))),?_⟩
  refine ⟨by omega,?_⟩
  have hc:=c_ref1 t u (a.getD n default) (b.getD n default) (ha _ (zk h')) (hb _ (zk (by omega)))
  unfold vT at hc
  refine ze [[0],[0],[],[]] [(1000,1000),(1001,1001)] (hc) ?_
  simp -implicitDefEqProofs only [↓zb,push_cast,simprocAttr,tte]
  refine za (fun g=>?_) fun g=>?_
  ·have g':(yX t (a.getD n default)==yX u (b.getD n default))=false:=by simpa using g
   refine zu [0] rfl (by simp) (by simp [zc]<;>omega) ?_ (by first | rfl | simp [ends] | (subst_vars;simp [ends])) (by simp [ends]) (by simp [ends])
   have hbad:((List.range a.length).all fun i=>yX t (a.getD i default)==yX u (b.getD i default))=false:=xG h' g'
   rw [<-hr,vX,hbad,Bool.and_false];rfl
  ·have g':(yX t (a.getD n default)==yX u (b.getD n default))=true:=by simpa using g
   exact zq hI n rfl h' (fun i h2=>if h3:i=n then by rw [h3];exact g' else hi i (by omega)) (by simp [hw,ends]) (by simp [hw,ends]) (by simp [hw,ends]) (by simp [hw,ends])
 ·simp only [decide_eq_false_iff_not] at h
  obtain rfl:n=a.length:=by omega
  refine zu [0] rfl (by simp) (by simp [zc]<;>omega) ?_ (by first | rfl | simp [ends] | (subst_vars;simp [ends])) (by simp [ends]) (by simp [ends])
  rw [<-hr,vX,all_range.2 hi,h0',beq_self_eq_true];rfl
def refM (s:Sch) (t:Tbl) (f:Fk):Int:=
 if byT s f.table<0 then 11 else if vX t (s.getD (byT s f.table).toNat default) f.columns (s.getD (byT s f.table).toNat default).primary then 0 else 6
theorem c_reference (s:Sch) (t:Tbl) (f:Fk) (hs:s.length<=1000) (hl:f.columns.length<=1000) (hf: ∀k∈f.columns,inC t k) (hp: ∀u∈s,∀k∈u.primary,inC u k):
 ACall Tryz.prog 85 [aS s,aT t,aFk f] [] (num (refM s t f)) []:=by
 refine zn mixed ttok Tryz.func85 Tryz.ntmps85 Tryz.results85 ?_
 generalize hr:num (refM s t f)=R
 simp -implicitDefEqProofs only [argT,↓zb,push_cast,simprocAttr,tte]
 refine ze [[6],[0]] [] (c_find s f.table (by omega)) ?_
 simp -implicitDefEqProofs only [↓zb,push_cast,simprocAttr,tte]
 refine za (fun h=>?_) fun h=>?_
 ·have h':byT s f.table<0:=by simpa using h
  exact zi trivial (by rw [<-hr,refM,if_pos h'];rfl) (by simp [ends])
 have h': ¬byT s f.table<0:=by simpa using h
 have hlt:=xZ (fun t=>t.name.toList==f.table.toList) s
 have hM:refM s t f=if vX t (s.getD (byT s f.table).toNat default) f.columns (s.getD (byT s f.table).toNat default).primary then 0 else 6:=if_neg h'
 have hk:byT s f.table<s.length:=hlt
 clear hlt h
 generalize byT s f.table=k at h' hM hk ⊢
 simp only [if_neg (show¬0>k by omega)]
 refine ⟨⟨by omega,hk⟩,?_⟩
 have hu:s.getD k.toNat default∈s:=zk (by omega)
 have hc:=c_eqF t (s.getD k.toNat default) f.columns (s.getD k.toNat default).primary hf (hp _ hu) hl
 unfold vT at hc
 refine ze [[1],[1],[]] [(1000,4),(1001,9)] (hc) ?_
 simp -implicitDefEqProofs only [↓zb,push_cast,simprocAttr,tte]
 refine za (fun g=>?_) fun g=>?_
 ·have g':vX t (s.getD k.toNat default) f.columns (s.getD k.toNat default).primary=false:=by simpa using g
  exact zi trivial (by rw [<-hr,hM,g'];rfl) (by simp [ends])
 ·have g':vX t (s.getD k.toNat default) f.columns (s.getD k.toNat default).primary=true:=by simpa using g
  exact zi trivial (by rw [<-hr,hM,g'];rfl) (by simp [ends])
end
section
open Go.Am
attribute [local simp, local push_cast] num boo str ints aV aTab zv aS aT aC zR zL aFk vT
theorem c_order1n:ACall Tryz.prog 152 [.d (.lit (.map none))] [] (boo false) []:=by
 refine zn mixed ttok Tryz.func152 Tryz.ntmps152 Tryz.results152 ?_
 generalize hr:boo false=R
 simp -implicitDefEqProofs only [argT,↓zb,push_cast,simprocAttr,tte]
 refine zu [0] rfl (by simp) (by simp [zc]<;>omega) ?_ (by first | rfl | simp [ends] | (subst_vars;simp [ends])) (by simp [ends]) (by simp [ends])
 exact hr
theorem c_order1 (ks:List Int):ACall Tryz.prog 152 [.mp 1000] [(1000,.mp (encM ks))] (boo (ks.length==0)) [(1000,.mp (encM ks))]:=by
 refine zn mixed ttok Tryz.func152 Tryz.ntmps152 Tryz.results152 ?_
 generalize hr:boo (ks.length==0)=R
 simp -implicitDefEqProofs only [argT,encM_length,↓zb,push_cast,simprocAttr,tte]
 subst hr
 refine zu [0] rfl (by simp) (by simp [zc]<;>omega) ?_ (by first | rfl | simp [ends] | (subst_vars;simp [ends])) (by simp [ends]) (by simp [ends])
 have:((ks.length:Int)==0)=(ks.length==0):=by rw [Bool.eq_iff_iff];simp
 rw [this];rfl
def gj:Option (List Int)->Bool
 | none=>false
 | some ks=>ks.length==0
def mobs (a b:Nat) (ms:List (Option (List Int))):List (Nat×Ob):=(a,.var (yW b ms))::y4 b ms
theorem mapsL_mk: ∀(b:Nat) (ms:List (Option (List Int))),b+ms.length<=1000000->noMk (y4 b ms)=true
 | b,[],_=>rfl
 | b,none::ms,h=>by
   simp only [y4]
   exact mapsL_mk (b+1) ms (by simp only [List.length_cons] at h;omega)
 | b,some ks::ms,h=>by
   simp only [y4,noMk,List.all_cons,Bool.and_eq_true,decide_eq_true_eq]
   simp only [List.length_cons] at h
   exact ⟨by omega,mapsL_mk (b+1) ms (by omega)⟩
theorem mobs_mk {ms:List (Option (List Int))} (h:ms.length<=6):noMk (mobs 1000 1001 ms)=true:=by
 simp only [mobs,noMk,List.all_cons,Bool.and_eq_true,decide_eq_true_eq]
 exact ⟨by omega,mapsL_mk 1001 ms (by omega)⟩
theorem mobs_at {a b:Nat} {ms:List (Option (List Int))} {n:Nat} {ks:List Int} (hab:a<b) (h:ms[n]? =some (some ks)):lookO (mobs a b ms) (b+n)=some (.mp (encM ks)):=by
 rw [mobs,y6 (by omega)];exact yh b h
theorem qW {a b:Nat} {ms:List (Option (List Int))} {n:Nat} {ks:List Int} (h:ms[n]? =some (some ks)):inO (mobs a b ms) (b+n)=true:=xR (inO_maps b h)
theorem kQ {a b:Nat} {ms:List (Option (List Int))} (hab:a<b):keepO (lookO (mobs a b ms)) (inO (mobs a b ms)) (mobs a b ms):=
 ⟨⟨by simp [mobs,lookO],wP fun n ks h=>qW h⟩,vp fun n ks h=>mobs_at hab h⟩
theorem qX {a b:Nat} {ms:List (Option (List Int))}:keepIn (inO (mobs a b ms)) (mobs a b ms):=
 ⟨.inr inO_cons_l,uO fun n ks h=> .inr (qW h)⟩
theorem c_idxM (ms:List (Option (List Int))) (hl:ms.length<=6):
 ACall Tryz.prog 151 [.vs 1000 ms.length,.clo 152 []] (mobs 1000 1001 ms) (num (fidx gj ms)) (mobs 1000 1001 ms):=by
 refine zn mixed ttok Tryz.func151 Tryz.ntmps151 Tryz.results151 ?_ (hmk:=mobs_mk hl)
 generalize hr:num (fidx gj ms)=R
 unfold mobs
 simp -implicitDefEqProofs only [argT,↓zb,push_cast,simprocAttr,tte]
 have hend: ∀(t:List (Nat×A)) (v:Int),num v=R->retx (some (True,A.d (D.lit (Value.int IntKind.i64 v)))) ⟨t,(1000,.var (yW 1001 ms))::y4 1001 ms⟩ R ((1000,.var (yW 1001 ms))::y4 1001 ms):=fun t v hv=>by
  refine zu [0] rfl trivial trivial hv (by rw [<-hv];rfl) ?_ ?_
  ·exact kQ (by omega)
  ·exact qX
 refine vI mixed ttok 8 [0,1,7] (by simp only [zC,ends,ite_true,ite_false,reduceIte,Nat.reduceEqDiff,Nat.reduceLeDiff,Nat.reduceLT,Nat.reduceAdd,reduceCtorEq,num,boo,str,ints,aV,aTab,zv,aS,aT,aC,zR,zL,aFk,vT];rfl) (mobs 1000 1001 ms) ms.length (fun n=> ∀i,i<n->gj (ms.getD i default)=false) (fun _=>[]) (fun _=>[]) (fun i h=>absurd h (Nat.not_lt_zero _)) ?_ ?_
 ·refine Weak.keepL (by simp [cst,mobs,ends]) (kQ (by omega)) qX
 intro I hI n hn hi
 unfold mobs at hI ⊢
 simp -implicitDefEqProofs only [cst,↓zb,push_cast,simprocAttr,tte]
 refine za (fun h=>?_) fun h=>?_
 ·simp only [decide_eq_true_eq] at h
  have h':n<ms.length:=by omega
  have hw:=zj h' (by omega)
  refine ⟨by omega,?_⟩
  have hm:ms[n]? =some (ms.getD n default):=by rw [List.getD_eq_getElem?_getD,List.getElem?_eq_getElem h'];rfl
  rw [ur,hm]
  generalize ms.getD n default=m at hm
  have hfi:ms.getD n default=m:=by rw [List.getD_eq_getElem?_getD,hm];rfl
  have hinv:gj m=false-> ∀i,i<n+1->gj (ms.getD i default)=false:=fun hf i h2=>if h3:i=n then by rw [h3,hfi,hf] else hi i (by omega)
  cases m with
  | none=>
    simp -implicitDefEqProofs only [ql,Option.map_some,↓zb,push_cast,simprocAttr,tte]
    refine ze [[0]] [] (c_order1n) ?_
    simp -implicitDefEqProofs only [↓zb,push_cast,simprocAttr,tte]
    refine wA hI n rfl h' (hinv rfl) (Weak.keepL (by simp [cst,hw,ends]) (kQ (by omega)) qX)
  | some ks=>
    simp -implicitDefEqProofs only [ql,Option.map_some,↓zb,push_cast,simprocAttr,tte]
    refine callx_same [[]] (fun _=>1001+n) rfl (c_order1 ks) rfl (by simp) rfl rfl ⟨⟨?_,rfl⟩,trivial⟩ (by simp) (by simp) (by simp) ?_
    ·exact mobs_at (by omega) hm
    simp -implicitDefEqProofs only [↓zb,push_cast,simprocAttr,tte]
    refine za (fun g=>?_) fun g=>?_
    ·exact hend _ _ (by rw [<-hr,vA gj ms n h' hi (by rw [hfi];exact g)])
    ·refine wA hI n rfl h' (hinv g) (Weak.keepL (by simp [cst,hw,ends]) (kQ (by omega)) qX)
 ·simp only [decide_eq_false_iff_not] at h
  obtain rfl:n=ms.length:=by omega
  exact hend _ _ (by rw [<-hr,xE gj ms hi])
end
section
open Go.Am
attribute [local simp, local push_cast] num boo str ints aV aTab zv aS aT aC zR zL aFk vT
def w9 (s:Sch) (l:List Fk):List Int:=l.foldl (fun acc f=>addK acc (byT s f.table)) []
def ms1 (s:Sch) (n:Nat):List (Option (List Int)):=(List.range s.length).map fun i=>if i<n then some (w9 s (s.getD i default).foreigns) else none
theorem xP (s:Sch) (n:Nat):(ms1 s n).length=s.length:=by simp [ms1]
theorem ms1_zero (s:Sch):ms1 s 0=List.replicate s.length none:=by
 apply List.ext_getElem?
 intro j
 simp only [ms1,Nat.not_lt_zero,if_false,List.getElem?_map,List.getElem?_replicate]
 by_cases hj:j<s.length
 ·rw [List.getElem?_range hj,if_pos hj];rfl
 ·rw [List.getElem?_eq_none (by simp;omega),if_neg hj];rfl
theorem ms1_succ (s:Sch) (n:Nat) (h:n<s.length):(ms1 s n).set n (some (w9 s (s.getD n default).foreigns))=ms1 s (n+1):=by
 apply List.ext_getElem?
 intro j
 rw [List.getElem?_set,xP]
 by_cases hj:n=j
 ·subst hj;simp [ms1,h]
 ·simp only [hj,if_false,ms1,List.getElem?_map]
  by_cases hl:j<s.length
  ·rw [List.getElem?_range hl]
   simp only [Option.map_some]
   congr 1
   by_cases h1:j<n
   ·rw [if_pos h1,if_pos (by omega)]
   ·rw [if_neg h1,if_neg (by omega)]
  ·rw [List.getElem?_eq_none (by simp;omega)];rfl
theorem depsTo_succ (s:Sch) (l:List Fk) (n:Nat) (h:n<l.length):w9 s (l.take (n+1))=addK (w9 s (l.take n)) (byT s (l.getD n default).table):=by
 rw [z7 _ _ h,w9,List.foldl_append];rfl
theorem yr {ms:List (Option (List Int))} {k:Nat} (h:k<700):lookO (y4 700 ms) k=none:=lookO_maps_lt ms h
attribute [local simp, local push_cast] yr
theorem closedL_set {dom:Nat->Bool} {a:A} (ha:a.closed dom=true): ∀(l:List A) (n:Nat),closedL dom l=true->closedL dom (l.set n a)=true
 | [],_,h=>h
 | x::l,0,h=>by simp only [closedL,List.set_cons_zero,Bool.and_eq_true] at h ⊢;exact ⟨ha,h.2⟩
 | x::l,n+1,h=>by simp only [closedL,List.set_cons_succ,Bool.and_eq_true] at h ⊢;exact ⟨h.1,closedL_set ha l n h.2⟩
theorem renL_set (r:Nat->Nat) (a:A): ∀(l:List A) (n:Nat),renL r (l.set n a)=(renL r l).set n (a.ren r)
 | [],_=>rfl
 | x::l,0=>rfl
 | x::l,n+1=>by simp only [List.set_cons_succ,renL];rw [renL_set r a l n]
theorem renO_maps {a b:Nat}: ∀{ms:List (Option (List Int))} {c:Nat},a<c->renO a b (y4 c ms)=y4 c ms
 | [],_,_=>rfl
 | none::l,c,h=>by rw [y4];exact renO_maps (by omega)
 | some ks::l,c,h=>by rw [y4,renO,renO_maps (by omega)];simp only [zU,Ob.ren];rw [if_neg (by omega)]
theorem kk {dom:Nat->Bool} {ms:List (Option (List Int))} (h:ms.length<=6):keepIn dom (y4 700 ms):=uO fun n ks hn=> .inl (by have:=(List.getElem?_eq_some_iff.1 hn).1;omega)
theorem splice_set {α:Type} (l:List α) (n:Nat) (x:α) (h:n<l.length):l.take n++[x]++l.drop (n+1)=l.set n x:=by rw [List.set_eq_take_append_cons_drop,if_pos h,List.append_assoc];rfl
def vS (s:Sch):Ob:= .var [.d (.sl 6 (zd rT s))]
theorem keep_a {f:Nat->Option Ob} {s:Sch} {ms:List (Option (List Int))} (h1:f 1=some (vS s)) (h2:f 18=some (.var (yW 700 ms))) (h3: ∀n ks,ms[n]? =some (some ks)->f (700+n)=some (.mp (encM ks))):
 keepO f (inO ((1,vS s)::mobs 18 700 ms)) ((1,vS s)::mobs 18 700 ms):=
 ⟨⟨h1,rfl⟩,⟨h2,wP fun n ks h=>xR (qW h)⟩,vp h3⟩
def rM (i:Nat):Nat:=if i=1000 then 18 else i-301
theorem rM_at (n:Nat):rM (1001+n)=700+n:=by simp only [rM];rw [if_neg (by omega)];omega
theorem mobs_big {ms:List (Option (List Int))}: ∀x∈(mobs 1000 1001 ms).map (·.1),1000<=x:=by
 intro x hx
 rw [mobs,List.map_cons,List.mem_cons] at hx
 rcases hx with hx | hx
 ·omega
 ·obtain ⟨n,_,rfl,_⟩:=km hx;omega
theorem mobs_nodup {ms:List (Option (List Int))} (h:ms.length≤6):(((mobs 1000 1001 ms).map (·.1)).map rM).Nodup:=by
 rw [mobs,List.map_cons,List.map_cons]
 refine List.nodup_cons.2 ⟨fun hm=>?_,?_⟩
 ·obtain ⟨x,hx,he⟩:=List.mem_map.1 hm
  obtain ⟨n,_,rfl,_⟩:=km hx
  rw [rM_at] at he
  simp [rM] at he
  omega
 ·have hN: ∀{ms:List (Option (List Int))} {b:Nat},1001≤b→(((y4 b ms).map (·.1)).map rM).Nodup:=by
   intro ms
   induction ms with
   | nil=>intro b _;exact List.Pairwise.nil
   | cons m l ih=>
     intro b hb
     cases m with
     | none=>rw [y4];exact ih (by omega)
     | some ks=>
       rw [y4,List.map_cons,List.map_cons]
       refine List.nodup_cons.2 ⟨fun hm=>?_,ih (by omega)⟩
       obtain ⟨x,hx,he⟩:=List.mem_map.1 hm
       obtain ⟨n,_,rfl,_⟩:=km hx
       simp only [rM] at he
       rw [if_neg (by omega),if_neg (by omega)] at he
       omega
  exact hN (Nat.le_refl _)
theorem mobs_nodup0 {ms:List (Option (List Int))} (h:ms.length<=6):((mobs 1000 1001 ms).map (·.1)).Nodup:=by
 have:=mobs_nodup h
 generalize (mobs 1000 1001 ms).map (·.1)=l at this
 induction l with
 | nil=>exact List.Pairwise.nil
 | cons x l ih=>
   rw [List.map_cons] at this
   obtain ⟨h1,h2⟩:=List.nodup_cons.1 this
   exact List.nodup_cons.2 ⟨fun hm=>h1 (List.mem_map.2 ⟨x,hm,rfl⟩),ih h2⟩
theorem keep_c {f:Nat->Option Ob} {s:Sch} {ms:List (Option (List Int))} {x:Nat×Ob} (h1:f 1=some (vS s)) (h2:f 18=some (.var (yW 700 ms))) (h3: ∀n ks,ms[n]? =some (some ks)->f (700+n)=some (.mp (encM ks))):
 keepO f (inO (x::(1,vS s)::mobs 18 700 ms)) ((1,vS s)::mobs 18 700 ms):=
 ⟨⟨h1,rfl⟩,⟨h2,wP fun n ks h=>xR (xR (qW h))⟩,vp h3⟩
theorem keep_b {f:Nat->Option Ob} {s:Sch} {ms:List (Option (List Int))} {es:List (Value×Value)} {k:Nat} (h1:f 1=some (vS s)) (h29:f 29=some (.mp es)) (h2:f 18=some (.var ((yW 700 ms).set k (.mp 29)))) (h3: ∀n ks,ms[n]? =some (some ks)->f (700+n)=some (.mp (encM ks))):
 keepO f (inO ((1,vS s)::(29,.mp es)::(18,.var ((yW 700 ms).set k (.mp 29)))::y4 700 ms)) ((1,vS s)::(29,.mp es)::(18,.var ((yW 700 ms).set k (.mp 29)))::y4 700 ms):=
 ⟨⟨h1,rfl⟩,⟨h29,rfl⟩,⟨h2,closedL_set (a:= .mp 29) (by simp only [A.closed];exact xR inO_cons_l) _ _ (wP fun n ks h=>xR (xR (xR (inO_maps 700 h))))⟩,vp h3⟩
def fks (s:Sch) (i:Nat):List Fk:=(s.getD i default).foreigns
def vd (s:Sch) (p:List Int) (i:Nat):Bool:= !p.contains (i:Int)&&(fks s i).all fun f=>p.contains (byT s f.table)
def yS (s:Sch) (p:List Int):Int:=fidx (vd s p) (List.range s.length)
def yw (s:Sch):Nat->List Int
 | 0=>[]
 | n+1=>yw s n++[yS s (yw s n)]
theorem j8 (s:Sch): ∀n,(yw s n).length=n
 | 0=>rfl
 | n+1=>by rw [yw,List.length_append,j8 s n];rfl
def jA (s:Sch):Bool:=(List.range s.length).all fun n=>decide (0<=yS s (yw s n))
def wY (s:Sch):Int:=if jA s then 0 else 7
def j9 (s:Sch):List Int:=if jA s then yw s s.length else []
def msA (s:Sch) (p:List Int):List (Option (List Int)):=(List.range s.length).map fun i:Nat=>if p.contains (i:Int) then none else some ((w9 s (fks s i)).filter fun k=> !p.contains k)
theorem yz (s:Sch) (p:List Int):(msA s p).length=s.length:=by simp [msA]
theorem msA_nil (s:Sch):ms1 s s.length=msA s []:=by
 unfold ms1 msA
 apply List.map_congr_left
 intro i hi
 rw [if_pos (by simpa using hi)]
 have:((w9 s (fks s i)).filter fun k=> !([]:List Int).contains k)=w9 s (fks s i):=List.filter_eq_self.2 fun _ _=>rfl
 rw [if_neg (by simp),this]
 rfl
theorem fidx_map {α β:Type} (p:β->Bool) (g:α->β): ∀l:List α,fidx p (l.map g)=fidx (fun x=>p (g x)) l
 | []=>rfl
 | x::l=>by simp only [List.map_cons,fidx,fidx_map p g l]
theorem fidx_congr {α:Type} {p q:α->Bool}: ∀l:List α,(∀x∈l,p x=q x)->fidx p l=fidx q l
 | [],_=>rfl
 | x::l,h=>by simp only [fidx,h x (by simp),fidx_congr l fun y hy=>h y (by simp [hy])]
theorem addK_mem (ks:List Int) (k x:Int):x∈addK ks k ↔ x∈ks\/x=k:=by
 unfold addK
 by_cases h:ks.contains k=true
 ·rw [if_pos h]
  have:k∈ks:=by simpa using h
  exact ⟨.inl,fun hx=>hx.elim id fun e=>e ▸ this⟩
 ·rw [if_neg h];simp
theorem addK_nodup {ks:List Int} (h:ks.Nodup) (k:Int):(addK ks k).Nodup:=by
 unfold addK
 by_cases h2:ks.contains k=true
 ·rwa [if_pos h2]
 ·rw [if_neg h2]
  have:k ∉ ks:=by simpa using h2
  exact List.nodup_append.2 ⟨h,List.nodup_cons.2 ⟨by simp,List.Pairwise.nil⟩,fun a ha b hb=>by simp at hb;subst hb;exact fun e=>this (e ▸ ha)⟩
theorem depsTo_mem (s:Sch) (l:List Fk) (x:Int):x∈w9 s l ↔ ∃f∈l,byT s f.table=x:=by
 have: ∀(l:List Fk) (acc:List Int),x∈l.foldl (fun acc f=>addK acc (byT s f.table)) acc ↔ x∈acc\/ ∃f∈l,byT s f.table=x:=by
  intro l
  induction l with
  | nil=>intro acc;simp
  | cons f l ih=>intro acc;rw [List.foldl_cons,ih,addK_mem];simp [eq_comm,or_assoc]
 rw [w9,this];simp
theorem depsTo_nodup (s:Sch) (l:List Fk):(w9 s l).Nodup:=by
 have: ∀(l:List Fk) (acc:List Int),acc.Nodup->(l.foldl (fun acc f=>addK acc (byT s f.table)) acc).Nodup:=by
  intro l
  induction l with
  | nil=>intro acc h;exact h
  | cons f l ih=>intro acc h;exact ih _ (addK_nodup h _)
 exact this l [] List.Pairwise.nil
theorem pick_msA (s:Sch) (p:List Int):fidx gj (msA s p)=yS s p:=by
 rw [msA,fidx_map,yS]
 refine fidx_congr _ fun i _=>?_
 rw [vd]
 by_cases h:p.contains (i:Int)=true
 ·rw [if_pos h,h];rfl
 ·have h2:p.contains (i:Int)=false:=by simpa using h
  rw [if_neg h,h2]
  simp only [gj,Bool.not_false,Bool.true_and]
  rw [Bool.eq_iff_iff]
  simp only [beq_iff_eq,List.length_eq_zero_iff,List.filter_eq_nil_iff,List.all_eq_true,Bool.not_eq_true',Bool.not_eq_false]
  constructor
  ·intro hh f hf;exact hh _ ((depsTo_mem s _ _).2 ⟨f,hf,rfl⟩)
  ·intro hh k hk;obtain ⟨f,hf,rfl⟩:=(depsTo_mem s _ _).1 hk;exact hh f hf
def dropK (k:Int) (m:Option (List Int)):Option (List Int):=m.map (·.erase k)
def msJ (k:Int) (ms:List (Option (List Int))) (j:Nat):List (Option (List Int)):=(ms.take j).map (dropK k)++ms.drop j
theorem msJ_length (k:Int) (ms:List (Option (List Int))) (j:Nat):(msJ k ms j).length=ms.length:=by simp [msJ];omega
theorem msJ_get (k:Int) (ms:List (Option (List Int))) (j:Nat) (h:j<ms.length):(msJ k ms j)[j]? =ms[j]? :=by
 rw [msJ,List.getElem?_append_right (by simp;omega),List.getElem?_drop]
 congr 1
 simp;omega
theorem msJ_succ (k:Int) (ms:List (Option (List Int))) (j:Nat) (m:Option (List Int)) (h:j<ms.length) (hm:ms[j]? =some m):msJ k ms (j+1)=(msJ k ms j).set j (dropK k m):=by
 have hg:ms[j]=m:=by rw [List.getElem?_eq_getElem h] at hm;simpa using hm
 rw [msJ,msJ,List.take_succ_eq_append_getElem h,List.drop_eq_getElem_cons h,hg,List.map_append,List.set_append_right (h:=by simp;omega)]
 have:j-(List.map (dropK k) (List.take j ms)).length=0:=by simp;omega
 rw [this]
 simp
theorem msJ_all (s:Sch) (p:List Int) (k:Int) (h0:0≤k):msJ k ((msA s p).set k.toNat none) s.length=msA s (p++[k]):=by
 have hl:((msA s p).set k.toNat none).length=s.length:=by rw [List.length_set,yz]
 rw [msJ,<-hl,List.take_length,List.drop_length,List.append_nil]
 apply List.ext_getElem?
 intro i
 simp only [List.getElem?_map,List.getElem?_set,yz]
 by_cases hi:i<s.length
 ·have he:k.toNat=i ↔ k=(i:Int):=by omega
  have hg:(msA s p)[i]? =some (if p.contains (i:Int) then none else some ((w9 s (fks s i)).filter fun k=> !p.contains k)):=by simp only [msA,List.getElem?_map];rw [List.getElem?_range hi];rfl
  have hg2:(msA s (p++[k]))[i]? =some (if (p++[k]).contains (i:Int) then none else some ((w9 s (fks s i)).filter fun x=> !(p++[k]).contains x)):=by simp only [msA,List.getElem?_map];rw [List.getElem?_range hi];rfl
  rw [hg2,hg]
  by_cases hk:k=(i:Int)
  ·have hc:(p++[k]).contains (i:Int)=true:=by simp [hk]
   rw [if_pos (he.2 hk),if_pos (by omega),hc];rfl
  ·have hc:(p++[k]).contains (i:Int)=p.contains (i:Int):=by rw [Bool.eq_iff_iff];simp;exact fun e=>absurd e.symm hk
   rw [if_neg (fun e=>hk (he.1 e)),hc]
   by_cases hp:p.contains (i:Int)=true
   ·rw [if_pos hp,if_pos hp];rfl
   ·rw [if_neg hp,if_neg hp]
    simp only [Option.map_some,dropK]
    rw [List.Nodup.erase_eq_filter ((depsTo_nodup s (fks s i)).filter _),List.filter_filter]
    congr 2
    apply List.filter_congr
    intro x _
    rw [Bool.eq_iff_iff];simp [and_comm]
 ·have e1:(msA s p)[i]? =none:=List.getElem?_eq_none (by rw [yz];omega)
  have e2:(msA s (p++[k]))[i]? =none:=List.getElem?_eq_none (by rw [yz];omega)
  rw [e1,e2]
  split
  ·rw [if_neg (by omega)];rfl
  ·rfl
theorem c_order (s:Sch) (hs:s.length≤6) (hf: ∀t∈s,t.foreigns.length≤1000) (hall: ∀t∈s,∀f∈t.foreigns,0≤byT s f.table):
 ACall Tryz.prog 86 [aS s] [] (.tup [ints (j9 s),num (wY s)]) []:=by
 refine zn mixed ttok Tryz.func86 Tryz.ntmps86 Tryz.results86 ?_
 generalize hr:A.tup [ints (j9 s),num (wY s)]=R
 simp -implicitDefEqProofs only [argT,↓zb,push_cast,simprocAttr,tte]
 refine ⟨by omega,?_⟩
 refine vI mixed ttok 22 [1,4,20,21] (by simp only [zC,ends,ite_true,ite_false,reduceIte,Nat.reduceEqDiff,Nat.reduceLeDiff,Nat.reduceLT,Nat.reduceAdd,reduceCtorEq,num,boo,str,ints,aV,aTab,zv,aS,aT,aC,zR,zL,aFk,vT,yr];rfl) [] s.length (fun _=>True) (fun _=>[]) (fun n=>(1,vS s)::mobs 18 700 (ms1 s n)) trivial ?_ ?_
 ·refine Weak.keepL (by simp [cst,mobs,ends]) ?_ (by simp [cst,ends])
  simp only [cst,List.append_nil]
  refine keep_a rfl ?_ fun n ks h=>?_
  ·rw [ms1_zero,mapsA_none];rfl
  ·rw [ms1_zero,List.getElem?_replicate] at h;split at h<;>cases h
 intro I hI n hn hi
 simp -implicitDefEqProofs only [cst,mobs,vS,List.append_nil,↓zb,push_cast,simprocAttr,tte]
 refine za (fun h=>?_) fun h=>?_
 ·simp only [decide_eq_true_eq] at h
  have h':n<s.length:=by omega
  refine ⟨(by first | omega | trivial | (refine ⟨?_,?_⟩<;>first | omega | trivial | (refine ⟨?_,?_⟩<;>first | omega | trivial | (refine ⟨?_,?_⟩<;>first | omega | trivial | rfl)))),?_⟩
  refine ⟨⟨by omega,by omega⟩,by rw [x9,xP];omega,?_⟩
  have hml:n<(yW 700 (ms1 s n)).length:=by rw [x9,xP];omega
  rw [splice_set _ _ _ hml]
  have hlF:=hf _ (zk h')
  have hallF:=hall _ (zk h')
  generalize hF:(List.getD s n default).foreigns=F at hlF hallF
  refine vI mixed ttok 34 [1,4,5,20,21,22,32,33] (by simp only [zC,ends,ite_true,ite_false,reduceIte,Nat.reduceEqDiff,Nat.reduceLeDiff,Nat.reduceLT,Nat.reduceAdd,reduceCtorEq,num,boo,str,ints,aV,aTab,zv,aS,aT,aC,zR,zL,aFk,vT,yr];rfl) [] F.length (fun _=>True) (fun _=>[])
   (fun k=>(1,vS s)::(29,.mp (encM (w9 s (F.take k))))::(18,.var ((yW 700 (ms1 s n)).set n (.mp 29)))::y4 700 (ms1 s n)) trivial ?_ ?_
  ·refine (Weak.mpAny 29 rfl).trans (Weak.keepL (by simp [cst,ends]) ?_ ?_)
   ·simp only [cst,List.append_nil]
    exact keep_b rfl rfl rfl fun i ks hi=>by simp only [ends,ite_true,ite_false,reduceIte,Nat.reduceEqDiff,Nat.reduceLeDiff,Nat.reduceLT,Nat.reduceAdd,reduceCtorEq,num,boo,str,ints,aV,aTab,zv,aS,aT,aC,zR,zL,aFk,vT,yr,vS];rw [if_neg (by omega),if_neg (by omega),if_neg (by omega),if_neg (by omega),if_neg (by omega),if_neg (by omega),if_neg (by omega)];exact yh 700 hi
   ·simp [cst,keepIn,kk (show (ms1 s n).length<=6 by rw [xP];exact hs)]
  intro J hJ k hk _
  simp -implicitDefEqProofs only [cst,vS,List.append_nil,↓zb,push_cast,simprocAttr,tte]
  refine za (fun g=>?_) fun g=>?_
  ·simp only [decide_eq_true_eq] at g
   have k':k<F.length:=by omega
   have hw:=zj k' (by omega)
   refine ⟨(by first | omega | trivial | (refine ⟨?_,?_⟩<;>first | omega | trivial | (refine ⟨?_,?_⟩<;>first | omega | trivial | (refine ⟨?_,?_⟩<;>first | omega | trivial | rfl)))),?_⟩
   refine ze [[6],[0]] [] (c_find s (F.getD k default).table (by omega)) ?_
   simp -implicitDefEqProofs only [↓zb,push_cast,simprocAttr,tte]
   have hge:=hallF _ (zk k')
   refine za (fun h=>absurd h (by rw [decide_eq_true hge];decide)) fun _=>?_
   refine ⟨⟨by omega,by omega⟩,?_⟩
   rw [List.getElem?_set_self hml]
   simp -implicitDefEqProofs only [if_neg (show¬0>byT s (F.getD k default).table by omega),mput_enc,↓zb,push_cast,simprocAttr,tte]
   refine wA hJ k rfl k' trivial (Weak.keepL (by simp [cst,hw,ends]) ?_ ?_)
   ·simp only [cst,List.append_nil]
    exact keep_b rfl (by rw [depsTo_succ s F k k'];rfl) rfl fun i ks hi=>by simp only [ends,ite_true,ite_false,reduceIte,Nat.reduceEqDiff,Nat.reduceLeDiff,Nat.reduceLT,Nat.reduceAdd,reduceCtorEq,num,boo,str,ints,aV,aTab,zv,aS,aT,aC,zR,zL,aFk,vT,yr,vS];rw [if_neg (by omega),if_neg (by omega),if_neg (by omega),if_neg (by omega),if_neg (by omega),if_neg (by omega)];exact yh 700 hi
   ·simp [cst,keepIn,kk (show (ms1 s n).length<=6 by rw [xP];exact hs)]
  ·simp only [decide_eq_false_iff_not] at g
   obtain rfl:k=F.length:=by omega
   clear hJ
   have hwn:=zj h' (by omega)
   rw [List.take_length]
   refine wA hI n rfl h' trivial ?_
   refine (Weak.keepL (σ:=⟨[(22,.d (.lit (.int .i64 (n+1:Nat)))),(1,.ptr 1 0),(4,.vs 18 s.length),(20,.d (.sl 6 (zd rT s))),(21,.d (.lit (.int .i64 s.length)))],
    (1,vS s)::(29,.mp (encM (w9 s F)))::(18,.var ((yW 700 (ms1 s n)).set n (.mp 29)))::y4 700 (ms1 s n)⟩) (by simp [hwn,ends]) ?_ ?_).trans ?_
   ·exact keep_b rfl rfl rfl fun i ks hi=>by simp only [ends,ite_true,ite_false,reduceIte,Nat.reduceEqDiff,Nat.reduceLeDiff,Nat.reduceLT,Nat.reduceAdd,reduceCtorEq,num,boo,str,ints,aV,aTab,zv,aS,aT,aC,zR,zL,aFk,vT,yr];rw [if_neg (by omega),if_neg (by omega),if_neg (by omega)];exact yh 700 hi
   ·simp [keepIn,kk (show (ms1 s n).length<=6 by rw [xP];exact hs)]
   refine (Weak.ren 29 (700+n) (by omega) (by omega) ?_).trans ?_
   ·rw [y6 (by omega),y6 (by omega),y6 (by omega),u7,if_pos (by omega),show 700+n-700=n by omega,show (ms1 s n)[n]? =some none by simp [ms1,h']]
   have hrn: ∀i,i<(ms1 s n).length->zU 29 (700+n) (700+i)=700+i:=fun i _=>by simp only [zU];rw [if_neg (by omega)]
   have hset:(yW 700 (ms1 s n)).set n (.mp (700+n))=yW 700 (ms1 s (n+1)):=by
    rw [<-ms1_succ s n h',<-mapsA_set];rfl
   simp only [renT,renO,A.ren,Ob.ren,renL_set,renL_maps hrn,renO_maps (show 29<700 by omega),hF,vS,renL]
   have e1:zU 29 (700+n) 29=700+n:=by simp [zU]
   have e2:zU 29 (700+n) 1=1:=by simp [zU]
   have e3:zU 29 (700+n) 18=18:=by simp [zU]
   rw [e1,e2,e3,hset]
   refine Weak.keepL (by simp [cst,mobs,ends]) ?_ ?_
   ·simp only [cst,List.append_nil]
    refine keep_a rfl (by simp only [ends,ite_true,ite_false,reduceIte,Nat.reduceEqDiff,Nat.reduceLeDiff,Nat.reduceLT,Nat.reduceAdd,reduceCtorEq,num,boo,str,ints,aV,aTab,zv,aS,aT,aC,zR,zL,aFk,vT,yr];rw [if_neg (by omega)]) fun i ks hi=>?_
    rw [<-ms1_succ s n h',List.getElem?_set] at hi
    simp only [ends,ite_true,ite_false,reduceIte,Nat.reduceEqDiff,Nat.reduceLeDiff,Nat.reduceLT,Nat.reduceAdd,reduceCtorEq,num,boo,str,ints,aV,aTab,zv,aS,aT,aC,zR,zL,aFk,vT,yr]
    rw [if_neg (by omega)]
    by_cases hin:n=i
    ·subst hin
     rw [if_pos rfl,xP,if_pos h',hF] at hi
     rw [if_pos rfl]
     simp only [Option.some.injEq] at hi
     rw [hi]
    ·rw [if_neg hin] at hi
     rw [if_neg (by omega),if_neg (by omega)]
     exact yh 700 hi
   ·refine ⟨.inl (by omega),.inl (by omega),.inl (by omega),kk (by rw [xP];exact hs)⟩
 simp only [decide_eq_false_iff_not] at h
 obtain rfl:n=s.length:=by omega
 clear hI hi hn h I
 rw [msA_nil]
 refine vI mixed ttok 57 [1,4,55,56] (by simp only [zC,ends,ite_true,ite_false,reduceIte,Nat.reduceEqDiff,Nat.reduceLeDiff,Nat.reduceLT,Nat.reduceAdd,reduceCtorEq,num,boo,str,ints,aV,aTab,zv,aS,aT,aC,zR,zL,aFk,vT,yr];rfl) [] s.length (fun n=> ∀i,i<n->0<=yS s (yw s i)) (fun n=>[(11,.vec 500 n)])
  (fun n=>(500,.vec 3 1 (zd rI (yw s n)) 0)::(1,vS s)::mobs 18 700 (msA s (yw s n))) (fun i h=>absurd h (Nat.not_lt_zero _)) ?_ ?_
 ·refine (Weak.nilL 11 500 3 1 rfl (by simp [lookO,yr])).trans (Weak.keepL (by simp [cst,mobs,ends]) ?_ ?_)
  ·simp only [cst,List.append_nil]
   refine ⟨⟨rfl,rfl⟩,keep_c rfl rfl fun i ks hi=>?_⟩
   simp only [ends,ite_true,ite_false,reduceIte,Nat.reduceEqDiff,Nat.reduceLeDiff,Nat.reduceLT,Nat.reduceAdd,reduceCtorEq,num,boo,str,ints,aV,aTab,zv,aS,aT,aC,zR,zL,aFk,vT,yr]
   rw [if_neg (by omega),if_neg (by omega),if_neg (by omega)]
   exact yh 700 hi
  ·simp [cst,keepIn,kk (show (msA s []).length<=6 by rw [yz];exact hs)]
 intro I hI n hn hi
 have hpl:=j8 s n
 simp -implicitDefEqProofs only [cst,mobs,vS,List.append_nil,List.cons_append,List.nil_append,↓zb,push_cast,simprocAttr,tte]
 refine za (fun h=>?_) fun h=>?_
 ·simp only [decide_eq_true_eq] at h
  have h':n<s.length:=by omega
  refine callx_same [[],[]] rM rfl (c_idxM (msA s (yw s n)) (by rw [yz];exact hs)) rfl (by simp) (by simp only [yz];rfl) rfl ?_ ?_ ?_ ?_ ?_
  ·refine ⟨⟨?_,wP fun i ks hi=>qW hi⟩,hosL_maps fun i ks hi=>?_⟩
   ·simp only [Ob.ren]
    rw [renL_maps (b':=700) fun i _=>rM_at i]
    rfl
   ·rw [rM_at,y6 (by omega),y6 (by omega),y6 (by omega)];exact yh 700 hi
  ·exact mobs_big
  ·exact mobs_nodup (by rw [yz];exact hs)
  ·exact mobs_nodup0 (by rw [yz];exact hs)
  rw [pick_msA]
  simp -implicitDefEqProofs only [↓zb,push_cast,simprocAttr,tte]
  have hM6:(msA s (yw s n)).length<=6:=by rw [yz];exact hs
  refine za (fun hneg=>?_) fun hneg=>?_
  ·have hneg': ¬0≤yS s (yw s n):=by have:=of_decide_eq_true hneg;omega
   have hno:jA s=false:=xG h' (decide_eq_false hneg')
   have hR:A.tup [ints [],num 7]=R:=by rw [<-hr,j9,wY,hno];rfl
   subst hR
   refine zx [[1],[0]] rfl trivial ⟨trivial,trivial,trivial⟩ rfl rfl trivial ?_
   exact ⟨.inl (by omega),.inl (by omega),.inl (by omega),kk hM6⟩
  have hge:0<=yS s (yw s n):=by have:=of_decide_eq_false hneg;omega
  have hlt:yS s (yw s n)<s.length:=by have:=xZ (vd s (yw s n)) (List.range s.length);rw [List.length_range] at this;exact this
  have hinv: ∀i,i<n+1->0<=yS s (yw s i):=fun i h2=>if h3:i=n then by rw [h3];exact hge else hi i (by omega)
  have hpk:yw s (n+1)=yw s n++[yS s (yw s n)]:=rfl
  refine ⟨⟨hpl.symm,by omega⟩,⟨hge,hlt⟩,by rw [x9,yz];omega,?_⟩
  have hfin:=msJ_all s (yw s n) (yS s (yw s n)) hge
  rw [splice_set _ _ _ (by rw [x9,yz];omega),show A.d (D.lit (Value.map none))=ql (700+(yS s (yw s n)).toNat) none from rfl,mapsA_set]
  have hq: ∀(i:Nat) (ks:List Int),((msA s (yw s n)).set (yS s (yw s n)).toNat none)[i]? =some (some ks)->(msA s (yw s n))[i]? =some (some ks):=by
   intro i ks hq
   rw [List.getElem?_set] at hq
   split at hq
   ·split at hq<;>cases hq
   ·exact hq
  have hQ6:((msA s (yw s n)).set (yS s (yw s n)).toNat none).length=s.length:=by rw [List.length_set,yz]
  rw [<-hpk] at hfin
  generalize hms:msA s (yw s n)=ms at hq hM6
  rw [hms] at hQ6 hfin
  generalize hQ:ms.set (yS s (yw s n)).toNat none=Q at hq hQ6 hfin
  generalize hk:yS s (yw s n)=k at hge hlt
  rw [hk] at hpk hfin hQ
  refine vI mixed ttok 72 [1,4,11,12,55,56,57,70,71] (by simp only [zC,ends,ite_true,ite_false,reduceIte,Nat.reduceEqDiff,Nat.reduceLeDiff,Nat.reduceLT,Nat.reduceAdd,reduceCtorEq,num,boo,str,ints,aV,aTab,zv,aS,aT,aC,zR,zL,aFk,vT,yr];rfl) [] s.length (fun _=>True) (fun _=>[])
   (fun j=>(500,.vec 3 1 (zd rI (yw s (n+1))) 0)::(1,vS s)::mobs 18 700 (msJ k Q j)) trivial ?_ ?_
  ·refine Weak.keepL (by simp [cst,mobs,ends]) ?_ ?_
   ·simp only [cst,List.append_nil]
    refine ⟨⟨by rw [hpk,<-rowsI_snoc];rfl,rfl⟩,keep_c rfl rfl fun i ks hi=>?_⟩
    simp only [ends,ite_true,ite_false,reduceIte,Nat.reduceEqDiff,Nat.reduceLeDiff,Nat.reduceLT,Nat.reduceAdd,reduceCtorEq,num,boo,str,ints,aV,aTab,zv,aS,aT,aC,zR,zL,aFk,vT,yr]
    repeat rw [if_neg (by omega)]
    exact yh 700 (hq i ks hi)
   ·simp [cst,keepIn,kk hM6]
  intro J hJ j hj _
  simp -implicitDefEqProofs only [cst,mobs,vS,List.append_nil,List.cons_append,List.nil_append,↓zb,push_cast,simprocAttr,tte]
  have hw1:=fun (j':j<s.length)=>zj j' (by omega)
  refine za (fun g=>?_) fun g=>?_
  ·simp only [decide_eq_true_eq] at g
   have j':j<s.length:=by omega
   have hw:=zj j' (by omega)
   refine ⟨(by first | omega | trivial | (refine ⟨?_,?_⟩<;>first | omega | trivial | (refine ⟨?_,?_⟩<;>first | omega | trivial | (refine ⟨?_,?_⟩<;>first | omega | trivial | rfl)))),?_⟩
   have hQj:Q[j]? =some (Q.getD j default):=by rw [List.getD_eq_getElem?_getD,List.getElem?_eq_getElem (by omega)];rfl
   generalize hm:Q.getD j default=m at hQj
   have hJs:=msJ_succ k Q j m (by omega) hQj
   have hJj:(msJ k Q j)[j]? =some m:=by rw [msJ_get k Q j (by omega)];exact hQj
   have hJl:=msJ_length k Q j
   have hJ6:(msJ k Q j).length<=6:=by omega
   have hset:yW 700 (msJ k Q (j+1))=yW 700 (msJ k Q j):=by
    rw [hJs,<-mapsA_set]
    apply List.ext_getElem?
    intro i
    rw [List.getElem?_set,x9]
    split
    ·rename_i he
     subst he
     rw [if_pos (by omega),ur,hJj]
     cases m<;>rfl
    ·rfl
   have hoth: ∀i ks,i≠j->(msJ k Q (j+1))[i]? =some (some ks)->(msJ k Q j)[i]? =some (some ks):=fun i ks hij hi=>by
    rw [hJs,List.getElem?_set,if_neg (fun e=>hij e.symm)] at hi;exact hi
   have hown:(msJ k Q (j+1))[j]? =some (dropK k m):=by rw [hJs,List.getElem?_set,if_pos rfl,if_pos (by omega)]
   rw [ur,hJj]
   cases m with
   | none=>
     simp -implicitDefEqProofs only [ql,Option.map_some,↓zb,push_cast,simprocAttr,tte]
     refine wA hJ j rfl j' trivial (Weak.keepL (by simp [cst,mobs,hw,ends]) ?_ ?_)
     ·simp only [cst,List.append_nil]
      refine ⟨⟨rfl,rfl⟩,keep_c rfl (by rw [hset];rfl) fun i ks hi=>?_⟩
      simp only [ends,ite_true,ite_false,reduceIte,Nat.reduceEqDiff,Nat.reduceLeDiff,Nat.reduceLT,Nat.reduceAdd,reduceCtorEq,num,boo,str,ints,aV,aTab,zv,aS,aT,aC,zR,zL,aFk,vT,yr]
      repeat rw [if_neg (by omega)]
      by_cases hij:i=j
      ·subst hij;rw [hown] at hi;cases hi
      ·exact yh 700 (hoth i ks hij hi)
     ·simp [cst,keepIn,kk hJ6]
   | some ks0=>
     have n500:(500=700+j)=False:=eq_false (by omega)
     have n1:(1=700+j)=False:=eq_false (by omega)
     have n18:(18=700+j)=False:=eq_false (by omega)
     simp -implicitDefEqProofs only [ql,Option.map_some,yh 700 hJj,n500,n1,n18,mdel_enc,↓zb,push_cast,simprocAttr,tte]
     refine wA hJ j rfl j' trivial (Weak.keepL (by simp [cst,mobs,hw,ends]) ?_ ?_)
     ·simp only [cst,List.append_nil]
      refine ⟨⟨by rw [y6 (by omega)];rfl,rfl⟩,keep_c (by rw [y6 (by omega)];rfl) (by rw [hset,y6 (by omega)];rfl) fun i ks hi=>?_⟩
      by_cases hij:i=j
      ·subst hij
       rw [hown] at hi
       simp only [dropK,Option.map_some,Option.some.injEq] at hi
       subst hi
       simp [lookO]
      ·simp only [ends,ite_true,ite_false,reduceIte,Nat.reduceEqDiff,Nat.reduceLeDiff,Nat.reduceLT,Nat.reduceAdd,reduceCtorEq,num,boo,str,ints,aV,aTab,zv,aS,aT,aC,zR,zL,aFk,vT,yr]
       repeat rw [if_neg (by omega)]
       exact yh 700 (hoth i ks hij hi)
     ·exact ⟨.inl (by omega),.inl (by omega),.inl (by omega),.inl (by omega),kk hJ6⟩
  ·simp only [decide_eq_false_iff_not] at g
   obtain rfl:j=s.length:=by omega
   rw [hfin]
   clear hJ J
   have hwn:=zj h' (by omega)
   refine wA hI n rfl h' hinv (Weak.keepL (by simp [cst,mobs,hwn,hpl,ends]) ?_ ?_)
   ·simp only [cst,List.append_nil]
    refine ⟨⟨rfl,rfl⟩,keep_c rfl rfl fun i ks hi=>?_⟩
    simp only [ends,ite_true,ite_false,reduceIte,Nat.reduceEqDiff,Nat.reduceLeDiff,Nat.reduceLT,Nat.reduceAdd,reduceCtorEq,num,boo,str,ints,aV,aTab,zv,aS,aT,aC,zR,zL,aFk,vT,yr]
    repeat rw [if_neg (by omega)]
    exact yh 700 hi
   ·exact ⟨.inl (by omega),.inl (by omega),.inl (by omega),kk (by rw [yz];exact hs)⟩
 ·simp only [decide_eq_false_iff_not] at h
  obtain rfl:n=s.length:=by omega
  have hok:jA s=true:=all_range.2 fun i hi2=>decide_eq_true (hi i hi2)
  have hR:A.tup [ints (yw s s.length),num 0]=R:=by rw [<-hr,j9,wY,hok];rfl
  subst hR
  refine zx [[1],[0]] rfl trivial ⟨(zc rI (yw s s.length)).trans hpl |>.symm,trivial,trivial⟩ rfl rfl trivial ?_
  exact ⟨.inl (by omega),.inl (by omega),.inl (by omega),.inl (by omega),kk (by rw [yz];exact hs)⟩
end
section
open Go.Am
attribute [local simp, local push_cast] num boo str ints aV aTab zv aS aT aC zR zL aFk vT
def y5 (s:Sch) (i:Nat):Int:=
 if !ud (s.getD i default).name then 3 else if vH (byT s (s.getD i default).name)<i then 5 else yZ (s.getD i default)
def yL (s:Sch) (t:Tbl):Int:=ferr (refM s t) t.foreigns
def xr (s:Sch):Int:=
 if (s.length:Int)>6 then 8
 else if ve (y5 s) s.length≠0 then ve (y5 s) s.length
 else if ferr (yL s) s≠0 then ferr (yL s) s else wY s
structure SmallS (s:Sch):Prop where
 len:s.length<=1000
 tab: ∀t∈s,SmallT t
theorem tableM_keys {t:Tbl} (h:yZ t=0):xm t=0:=by
 by_cases hk:xm t=0
 ·exact hk
 ·exfalso
  revert h
  simp only [yZ]
  repeat' split
  all_goals first | (intro h;omega) | (intro h;exact absurd h (by assumption))
theorem keysM_ok {t:Tbl} (h:xm t=0):yG t.columns.length t.primary=true/\t.primary.any (vV t)=false/\(yq t).all (yG t.columns.length)=true:=by
 unfold xm at h
 split at h
 ·rename_i h1
  split at h
  ·cases h
  ·rename_i h2
   split at h
   ·rename_i h3;exact ⟨h1,by simpa using h2,h3⟩
   ·cases h
 ·cases h
theorem table_prim {t:Tbl} (h:yZ t=0): ∀k∈t.primary,inC t k:=qS (keysM_ok (tableM_keys h)).1
theorem table_fors {t:Tbl} (h:yZ t=0): ∀f∈t.foreigns,∀k∈f.columns,inC t k:=fun f hf=>
 qS (List.all_eq_true.1 (keysM_ok (tableM_keys h)).2.2 f.columns (by simp only [yq,List.mem_append,List.mem_map];exact .inr ⟨f,hf,rfl⟩))
theorem qH {s:Sch} {i:Nat} (h:y5 s i=0):yZ (s.getD i default)=0:=by
 unfold y5 at h
 split at h
 ·cases h
 ·split at h
  ·cases h
  ·exact h
theorem xF {α:Type} {f:α->Int}: ∀{l:List α},ferr f l=0-> ∀x∈l,f x=0
 | [],_,x,hx=>by simp at hx
 | y::l,h,x,hx=>by
   simp only [ferr] at h
   split at h
   ·rename_i h0
    rcases List.mem_cons.1 hx with rfl | hx
    ·exact h0
    ·exact xF h x hx
   ·rename_i h0;exact absurd h h0
theorem refM_at {s:Sch} {t:Tbl} {f:Fk} (h:refM s t f=0):0<=byT s f.table:=by
 unfold refM at h
 split at h
 ·cases h
 ·omega
theorem u5 {α:Type} [Inhabited α] {l:List α} {x:α} (h:x∈l): ∃i,i<l.length/\l.getD i default=x:=by
 obtain ⟨i,hi,rfl⟩:=List.getElem_of_mem h
 exact ⟨i,hi,by rw [List.getD_eq_getElem?_getD,List.getElem?_eq_getElem hi];rfl⟩
theorem c_svalid (s:Sch) (hs:SmallS s):ACall Tryz.prog 44 [aS s] [] (num (xr s)) []:=by
 refine zn mixed ttok Tryz.func44 Tryz.ntmps44 Tryz.results44 ?_
 generalize hr:num (xr s)=R
 have hl:=hs.len
 simp -implicitDefEqProofs only [argT,↓zb,push_cast,simprocAttr,tte]
 refine za (fun h0=>?_) fun h0=>?_
 ·exact zi trivial (by rw [<-hr,xr,if_pos (of_decide_eq_true h0)];rfl) (by simp [ends])
 have h0': ¬(s.length:Int)>6:=of_decide_eq_false h0
 have hM:xr s=if ve (y5 s) s.length≠0 then ve (y5 s) s.length
  else if ferr (yL s) s≠0 then ferr (yL s) s else wY s:=by rw [xr,if_neg h0']
 refine zo mixed ttok 22 [1,20,21] [1] (by simp only [zC,ends,push_cast,simprocAttr];rfl) (by simp only [zH,zp,ends,push_cast,simprocAttr];rfl) s.length (fun n=> ∀i,i<n->y5 s i=0) (fun _=>[]) (fun _=>[]) (fun i h=>absurd h (Nat.not_lt_zero _)) ?_ ?_
 ·exact Weak.keepL (by simp [cst,ends]) (by simp [cst,ends]) (by simp [cst,ends])
 intro I hI n hn hi
 simp -implicitDefEqProofs only [cst,↓zb,push_cast,simprocAttr,tte]
 refine za (fun h=>?_) fun h=>?_
 ·simp only [decide_eq_true_eq] at h
  have h':n<s.length:=by omega
  have hw:=zj h' (by omega)
  have hE:y5 s n≠0->num (y5 s n)=R:=fun hne=>by
   have:=jq h' hi hne
   rw [<-hr,hM,this,if_pos hne]
  have hg:s.getD n default∈s:=zk h'
  refine ⟨(by first | omega | trivial | (refine ⟨?_,?_⟩<;>first | omega | trivial | (refine ⟨?_,?_⟩<;>first | omega | trivial | (refine ⟨?_,?_⟩<;>first | omega | trivial | rfl)))),?_⟩
  refine ze [[0]] [] (c_name (s.getD n default).name) ?_
  simp -implicitDefEqProofs only [↓zb,push_cast,simprocAttr,tte]
  refine za (fun g1=>?_) fun g1=>?_
  ·have hc:y5 s n=3:=if_pos g1
   exact zi trivial (by rw [<-hE (by rw [hc];decide),hc];rfl) (by simp [ends])
  refine ze [[6],[0]] [] (c_find s (s.getD n default).name (by omega)) ?_
  simp -implicitDefEqProofs only [↓zb,push_cast,simprocAttr,tte]
  refine za (fun g2=>?_) fun g2=>?_
  ·have hc:y5 s n=5:=by rw [y5,if_neg (by rw [g1];decide)];exact if_pos (of_decide_eq_true g2)
   exact zi trivial (by rw [<-hE (by rw [hc];decide),hc];rfl) (by simp [ends])
  have hcB:y5 s n=yZ (s.getD n default):=by rw [y5,if_neg (by rw [g1];decide)];exact if_neg (of_decide_eq_false g2)
  refine ze [[0,3,1,1,2,6]] [] (c_table (s.getD n default) (hs.tab _ hg)) ?_
  simp -implicitDefEqProofs only [↓zb,push_cast,simprocAttr,tte]
  refine za (fun g3=>?_) fun g3=>?_
  ·have g3':y5 s n≠0:=by rw [hcB];simpa using g3
   exact zi trivial (by rw [<-hE g3',hcB];rfl) (by simp [ends])
  ·have g3':y5 s n=0:=by rw [hcB];simpa using g3
   exact zq hI n rfl h' (fun i h2=>if h3:i=n then by rw [h3];exact g3' else hi i (by omega)) (by simp [hw,ends]) (by simp [hw,ends]) (by simp [hw,ends]) (by simp [hw,ends])
 simp only [decide_eq_false_iff_not] at h
 obtain rfl:n=s.length:=by omega
 have hM2:xr s=if ferr (yL s) s≠0 then ferr (yL s) s else wY s:=by rw [hM,vr hi,if_neg (by decide)]
 have htab: ∀t∈s,yZ t=0:=fun t ht=>by
  obtain ⟨i,h1,h2⟩:=u5 ht
  rw [<-h2];exact qH (hi i h1)
 clear hI hM h hi hn I
 refine zo mixed ttok 50 [1,48,49] [1] (by simp only [zC,ends,push_cast,simprocAttr];rfl) (by simp only [zH,zp,ends,push_cast,simprocAttr];rfl) s.length (fun n=> ∀i,i<n->yL s (s.getD i default)=0) (fun _=>[]) (fun _=>[]) (fun i h=>absurd h (Nat.not_lt_zero _)) ?_ ?_
 ·exact Weak.keepL (by simp [cst,ends]) (by simp [cst,ends]) (by simp [cst,ends])
 intro I hI n hn hi
 simp -implicitDefEqProofs only [cst,↓zb,push_cast,simprocAttr,tte]
 refine za (fun h=>?_) fun h=>?_
 ·simp only [decide_eq_true_eq] at h
  have h':n<s.length:=by omega
  have hw:=zj h' (by omega)
  have hg:s.getD n default∈s:=zk h'
  have hE:yL s (s.getD n default)≠0->num (yL s (s.getD n default))=R:=fun hne=>by
   have:=xK (yL s) s n h' hi hne
   rw [<-hr,hM2,this,if_pos hne]
  refine ⟨(by first | omega | trivial | (refine ⟨?_,?_⟩<;>first | omega | trivial | (refine ⟨?_,?_⟩<;>first | omega | trivial | (refine ⟨?_,?_⟩<;>first | omega | trivial | rfl)))),?_⟩
  generalize hu:s.getD n default=u at hg hE
  have hT:=hs.tab u hg
  have hTf:=hT.fors
  refine zo mixed ttok 57 [1,9,48,49,50,55,56] [1,9] (by simp only [zC,ends,push_cast,simprocAttr];rfl) (by simp only [zH,zp,ends,push_cast,simprocAttr];rfl) u.foreigns.length (fun k=> ∀i,i<k->refM s u (u.foreigns.getD i default)=0) (fun _=>[]) (fun _=>[]) (fun i h=>absurd h (Nat.not_lt_zero _)) ?_ ?_
  ·exact Weak.keepL (by simp [cst,ends]) (by simp [cst,ends]) (by simp [cst,ends])
  intro J hJ k hk hki
  simp -implicitDefEqProofs only [cst,↓zb,push_cast,simprocAttr,tte]
  refine za (fun g=>?_) fun g=>?_
  ·simp only [decide_eq_true_eq] at g
   have k':k<u.foreigns.length:=by omega
   have hwk:=zj k' (by omega)
   have hfm:u.foreigns.getD k default∈u.foreigns:=zk k'
   refine ⟨(by first | omega | trivial | (refine ⟨?_,?_⟩<;>first | omega | trivial | (refine ⟨?_,?_⟩<;>first | omega | trivial | (refine ⟨?_,?_⟩<;>first | omega | trivial | rfl)))),?_⟩
   refine ze [[6],[0,3,1,1,2,6],[1,0]] [] (c_reference s u (u.foreigns.getD k default) hl (hT.forss _ hfm) (table_fors (htab u hg) _ hfm) (fun v hv=>table_prim (htab v hv))) ?_
   simp -implicitDefEqProofs only [↓zb,push_cast,simprocAttr,tte]
   refine za (fun g3=>?_) fun g3=>?_
   ·have g3':refM s u (u.foreigns.getD k default)≠0:=by simpa using g3
    have hc:yL s u=refM s u (u.foreigns.getD k default):=xK (refM s u) u.foreigns k k' hki g3'
    exact zi trivial (by rw [<-hE (by rw [hc];exact g3'),hc];rfl) (by simp [ends])
   ·have g3':refM s u (u.foreigns.getD k default)=0:=by simpa using g3
    exact zq hJ k rfl k' (fun i h2=>if h3:i=k then by rw [h3];exact g3' else hki i (by omega)) (by simp [hwk,ends]) (by simp [hwk,ends]) (by simp [hwk,ends]) (by simp [hwk,ends])
  ·simp only [decide_eq_false_iff_not] at g
   obtain rfl:k=u.foreigns.length:=by omega
   have hz:yL s u=0:=yT (refM s u) u.foreigns hki
   exact zq hI n rfl h' (fun i h2=>if h3:i=n then by rw [h3,hu];exact hz else hi i (by omega)) (by simp [hw,ends]) (by simp [hw,ends]) (by simp [hw,ends]) (by simp [hw,ends])
 simp only [decide_eq_false_iff_not] at h
 obtain rfl:n=s.length:=by omega
 clear hI
 have hz:ferr (yL s) s=0:=yT (yL s) s hi
 have hall: ∀t∈s,∀f∈t.foreigns,0<=byT s f.table:=fun t ht f hf=>refM_at (xF (xF hz t ht) f hf)
 refine ze [[6]] [] (c_order s (by omega) (fun t ht=>(hs.tab t ht).fors) hall) ?_
 simp -implicitDefEqProofs only [↓zb,push_cast,simprocAttr,tte]
 exact zi trivial (by rw [<-hr,hM2,if_neg (by rw [hz];decide)];rfl) (by simp [ends])
end
end Go.Proofs.YtnmibokjpedkiaaGreatDoor
