/- Conditions over finite domains (part Wb) -/
import Derived.Test.YtiagabnddihchaaGreatDoorWa
set_option maxRecDepth 100000
set_option maxHeartbeats 4000000
set_option linter.all false
namespace Go.Proofs.YtiagabnddihchaaGreatDoor
section
open Go.Am
attribute [local simp, local push_cast] num boo str ints aV aTab yC aS aT aC
theorem zr {p:Prop} {k n:Int} {s:ByteArray} {t:List (Nat×A)} {o:List (Nat×Ob)} {R:A} (hp:p) (hr:aV ⟨k,n,s⟩=R) (ho:keepIn (inO []) o):
 retx (some (p,.agg [.d (.lit (.int .i64 k)),.d (.lit (.int .i64 n)),.d (.lit (.string s))])) ⟨t,o⟩ R []:=by
 subst hr
 exact zf [0,0,0] rfl hp (by simp) rfl rfl trivial ho
theorem tabN:Tab.tab 1=some [.lit (.int .i64 0),.lit (.int .i64 0),.lit (.string ByteArray.empty)]:=rfl
def zi:Val:=⟨0,0,ByteArray.empty⟩
def zT (n:Int):Val:=if n≠0/\n≠1 then zi else ⟨2,n,ByteArray.empty⟩
def ofV (b:Bool):Val:=⟨2,if b then 1 else 0,ByteArray.empty⟩
def zA (v:Val):Int:=if v.kind≠2 then 2 else if v.num=1 then 1 else 0
theorem wV (n:Int):ACall Tryz.prog 123 [num n] [] (aV (zT n)) []:=by
 refine zm mixed ttok Tryz.func123 Tryz.ntmps123 Tryz.results123 ?_
 generalize hr:aV (zT n)=R
 simp -implicitDefEqProofs only [argT,tabN,↓zb,push_cast,simprocAttr,tte]
 refine za (fun h1=>?_) fun h1=>?_
 ·refine za (fun h2=>?_) fun h2=>?_
  ·exact zr (by first | trivial | (simp;done) | (simp;omega)) (by rw [<-hr]<;>first | rfl | (simp [zT,zi];done) | (simp_all [zT,zi];done)) (by simp [ends])
  ·exact zr (by first | trivial | (simp;done) | (simp;omega)) (by rw [<-hr]<;>first | rfl | (simp [zT,zi];done) | (simp_all [zT,zi];done)) (by simp [ends])
 ·exact zr (by first | trivial | (simp;done) | (simp;omega)) (by rw [<-hr]<;>first | rfl | (simp [zT,zi];done) | (simp_all [zT,zi];done)) (by simp [ends])
theorem w9 (n:Int):ACall Tryz.prog 103 [num n] [] (aV (zT n)) []:=by
 refine zm mixed ttok Tryz.func103 Tryz.ntmps103 Tryz.results103 ?_
 generalize hr:aV (zT n)=R
 simp -implicitDefEqProofs only [argT,tabN,↓zb,push_cast,simprocAttr,tte]
 refine za (fun h1=>?_) fun h1=>?_
 ·refine za (fun h2=>?_) fun h2=>?_
  ·exact zr (by first | trivial | (simp;done) | (simp;omega)) (by rw [<-hr]<;>first | rfl | (simp [zT,zi];done) | (simp_all [zT,zi];done)) (by simp [ends])
  ·exact zr (by first | trivial | (simp;done) | (simp;omega)) (by rw [<-hr]<;>first | rfl | (simp [zT,zi];done) | (simp_all [zT,zi];done)) (by simp [ends])
 ·exact zr (by first | trivial | (simp;done) | (simp;omega)) (by rw [<-hr]<;>first | rfl | (simp [zT,zi];done) | (simp_all [zT,zi];done)) (by simp [ends])
theorem c_truth (b:Bool):ACall Tryz.prog 138 [boo b] [] (aV (ofV b)) []:=by
 refine zm mixed ttok Tryz.func138 Tryz.ntmps138 Tryz.results138 ?_
 generalize hr:aV (ofV b)=R
 simp -implicitDefEqProofs only [argT,↓zb,push_cast,simprocAttr,tte]
 refine za (fun h1=>?_) fun h1=>?_
 ·refine zd [[0]] [] (wV 1) ?_
  simp -implicitDefEqProofs only [aV,↓zb,push_cast,simprocAttr,tte]
  exact zr (by first | trivial | (simp;done) | (simp;omega)) (by rw [<-hr]<;>first | rfl | (simp [ofV,zT];done) | (simp_all [ofV,zT];done)) (by simp [ends])
 ·refine zd [[0]] [] (wV 0) ?_
  simp -implicitDefEqProofs only [aV,↓zb,push_cast,simprocAttr,tte]
  exact zr (by first | trivial | (simp;done) | (simp;omega)) (by rw [<-hr]<;>first | rfl | (simp [ofV,zT];done) | (simp_all [ofV,zT];done)) (by simp [ends])
theorem c_etruth (b:Bool):ACall Tryz.prog 120 [boo b] [] (aV (ofV b)) []:=by
 refine zm mixed ttok Tryz.func120 Tryz.ntmps120 Tryz.results120 ?_
 generalize hr:aV (ofV b)=R
 simp -implicitDefEqProofs only [argT,↓zb,push_cast,simprocAttr,tte]
 refine za (fun h1=>?_) fun h1=>?_
 ·refine zd [[0]] [] (wV 1) ?_
  simp -implicitDefEqProofs only [aV,↓zb,push_cast,simprocAttr,tte]
  exact zr (by first | trivial | (simp;done) | (simp;omega)) (by rw [<-hr]<;>first | rfl | (simp [ofV,zT];done) | (simp_all [ofV,zT];done)) (by simp [ends])
 ·refine zd [[0]] [] (wV 0) ?_
  simp -implicitDefEqProofs only [aV,↓zb,push_cast,simprocAttr,tte]
  exact zr (by first | trivial | (simp;done) | (simp;omega)) (by rw [<-hr]<;>first | rfl | (simp [ofV,zT];done) | (simp_all [ofV,zT];done)) (by simp [ends])
theorem c_of (b:Bool):ACall Tryz.prog 68 [boo b] [] (aV (ofV b)) []:=by
 refine zm mixed ttok Tryz.func68 Tryz.ntmps68 Tryz.results68 ?_
 generalize hr:aV (ofV b)=R
 simp -implicitDefEqProofs only [argT,↓zb,push_cast,simprocAttr,tte]
 refine za (fun h1=>?_) fun h1=>?_
 ·refine zd [[0]] [] (w9 1) ?_
  simp -implicitDefEqProofs only [aV,↓zb,push_cast,simprocAttr,tte]
  exact zr (by first | trivial | (simp;done) | (simp;omega)) (by rw [<-hr]<;>first | rfl | (simp [ofV,zT];done) | (simp_all [ofV,zT];done)) (by simp [ends])
 ·refine zd [[0]] [] (w9 0) ?_
  simp -implicitDefEqProofs only [aV,↓zb,push_cast,simprocAttr,tte]
  exact zr (by first | trivial | (simp;done) | (simp;omega)) (by rw [<-hr]<;>first | rfl | (simp [ofV,zT];done) | (simp_all [ofV,zT];done)) (by simp [ends])
theorem vi (v:Val):ACall Tryz.prog 55 [aV v] [] (num (zA v)) []:=by
 refine zm mixed ttok Tryz.func55 Tryz.ntmps55 Tryz.results55 ?_
 generalize hr:num (zA v)=R
 simp -implicitDefEqProofs only [argT,↓zb,push_cast,simprocAttr,tte]
 refine za (fun h1=>?_) fun h1=>?_
 ·exact zk trivial (by rw [<-hr];simp at h1;simp [zA,h1,num]) (by simp [ends])
 refine za (fun h2=>?_) fun h2=>?_
 ·exact zk trivial (by rw [<-hr];simp at h1 h2;simp [zA,h1,h2,num]) (by simp [ends])
 ·exact zk trivial (by rw [<-hr];simp at h1 h2;simp [zA,h1,h2,num]) (by simp [ends])
theorem wb (v:Val):ACall Tryz.prog 72 [aV v] [] (num (zA v)) []:=by
 refine zm mixed ttok Tryz.func72 Tryz.ntmps72 Tryz.results72 ?_
 generalize hr:num (zA v)=R
 simp -implicitDefEqProofs only [argT,↓zb,push_cast,simprocAttr,tte]
 refine za (fun h1=>?_) fun h1=>?_
 ·exact zk trivial (by rw [<-hr];simp at h1;simp [zA,h1,num]) (by simp [ends])
 refine za (fun h2=>?_) fun h2=>?_
 ·exact zk trivial (by rw [<-hr];simp at h1 h2;simp [zA,h1,h2,num]) (by simp [ends])
 ·exact zk trivial (by rw [<-hr];simp at h1 h2;simp [zA,h1,h2,num]) (by simp [ends])
def notM (v:Val):Val:=if zA v=2 then zi else ofV (zA v==0)
theorem c_not (v:Val):ACall Tryz.prog 118 [aV v] [] (aV (notM v)) []:=by
 refine zm mixed ttok Tryz.func118 Tryz.ntmps118 Tryz.results118 ?_
 generalize hr:aV (notM v)=R
 simp -implicitDefEqProofs only [argT,tabN,↓zb,push_cast,simprocAttr,tte]
 refine zd [[0,0,0]] [] (vi v) ?_
 have ht:zA v=0\/zA v=1\/zA v=2:=by unfold zA;split<;>(try split)<;>simp
 simp -implicitDefEqProofs only [tabN,↓zb,push_cast,simprocAttr,tte]
 unfold notM at hr
 generalize zA v=x at ht hr
 refine za (fun h1=>?_) fun h1=>?_
 ·have hw:IntKind.i64.wrap (1-x)=1-x:=z7 (by omega) (by omega)
  simp only [hw]
  refine zd [[0]] [] (wV (1-x)) ?_
  simp -implicitDefEqProofs only [aV,↓zb,push_cast,simprocAttr,tte]
  rcases ht with rfl | rfl | rfl
  ·exact zr (by first | trivial | (simp;done) | (simp;omega)) (by rw [<-hr]<;>first | rfl | (simp [ofV,zT];done) | (simp_all [ofV,zT];done)) (by simp [ends])
  ·exact zr (by first | trivial | (simp;done) | (simp;omega)) (by rw [<-hr]<;>first | rfl | (simp [ofV,zT];done) | (simp_all [ofV,zT];done)) (by simp [ends])
  ·simp at h1
 ·have hx:x=2:=by simpa using h1
  subst hx
  exact zr (by first | trivial | (simp;done) | (simp;omega)) (by rw [<-hr]<;>first | rfl | (simp [zi];done) | (simp_all [zi];done)) (by simp [ends])
theorem c_rnot (v:Val):ACall Tryz.prog 66 [aV v] [] (aV (notM v)) []:=by
 refine zm mixed ttok Tryz.func66 Tryz.ntmps66 Tryz.results66 ?_
 generalize hr:aV (notM v)=R
 simp -implicitDefEqProofs only [argT,tabN,↓zb,push_cast,simprocAttr,tte]
 refine zd [[0,0,0]] [] (wb v) ?_
 have ht:zA v=0\/zA v=1\/zA v=2:=by unfold zA;split<;>(try split)<;>simp
 simp -implicitDefEqProofs only [↓zb,push_cast,simprocAttr,tte]
 unfold notM at hr
 generalize zA v=x at ht hr
 refine za (fun h1=>?_) fun h1=>?_
 ·refine zd [[0]] [] (w9 1) ?_
  have hx:x=0:=by simpa using h1
  subst hx
  simp -implicitDefEqProofs only [aV,↓zb,push_cast,simprocAttr,tte]
  exact zr (by first | trivial | (simp;done) | (simp;omega)) (by rw [<-hr]<;>first | rfl | (simp [ofV,zT];done) | (simp_all [ofV,zT];done)) (by simp [ends])
 refine za (fun h2=>?_) fun h2=>?_
 ·refine zd [[0]] [] (w9 0) ?_
  have hx:x=1:=by simpa using h2
  subst hx
  simp -implicitDefEqProofs only [aV,↓zb,push_cast,simprocAttr,tte]
  exact zr (by first | trivial | (simp;done) | (simp;omega)) (by rw [<-hr]<;>first | rfl | (simp [ofV,zT];done) | (simp_all [ofV,zT];done)) (by simp [ends])
 ·have hx:x=2:=by simp at h1 h2;omega
  subst hx
  exact zr (by first | trivial | (simp;done) | (simp;omega)) (by rw [<-hr]<;>first | rfl | (simp [zi];done) | (simp_all [zi];done)) (by simp [ends])
end
section
open Go.Am
attribute [local simp, local push_cast] num boo str ints aV aTab yC aS aT aC
def andM (a b:Val):Val:=if zA a=0\/zA b=0 then ofV false else if zA a=2\/zA b=2 then zi else ofV true
def orM (a b:Val):Val:=if zA a=1\/zA b=1 then ofV true else if zA a=2\/zA b=2 then zi else ofV false
theorem c_and (a b:Val):ACall Tryz.prog 121 [aV a,aV b] [] (aV (andM a b)) []:=by
 refine zm mixed ttok Tryz.func121 Tryz.ntmps121 Tryz.results121 ?_
 generalize hr:aV (andM a b)=R
 simp -implicitDefEqProofs only [argT,tabN,↓zb,push_cast,simprocAttr,tte]
 refine zd [[0,0,0]] [] (vi a) ?_
 simp -implicitDefEqProofs only [tabN,↓zb,push_cast,simprocAttr,tte]
 refine zd [[0,0,0]] [] (vi b) ?_
 simp -implicitDefEqProofs only [tabN,↓zb,push_cast,simprocAttr,tte]
 refine ⟨zh (by kernel_rfl),?_⟩
 unfold andM at hr
 generalize zA a=x at hr
 generalize zA b=y at hr
 refine za (fun h1=>?_) fun h1=>?_
 ·refine zd [[0]] [] (wV 0) ?_
  simp -implicitDefEqProofs only [aV,↓zb,push_cast,simprocAttr,tte]
  exact zr (by first | trivial | (simp;done) | (simp;omega)) (by rw [<-hr]<;>first | rfl | (simp [ofV,zT];done) | (simp_all [ofV,zT];done)) (by simp [ends])
 refine za (fun h2=>?_) fun h2=>?_
 ·refine zd [[0]] [] (wV 0) ?_
  simp -implicitDefEqProofs only [aV,↓zb,push_cast,simprocAttr,tte]
  exact zr (by first | trivial | (simp;done) | (simp;omega)) (by rw [<-hr]<;>first | rfl | (simp [ofV,zT];done) | (simp_all [ofV,zT];done)) (by simp [ends])
 refine za (fun h3=>?_) fun h3=>?_
 ·exact zr (by first | trivial | (simp;done) | (simp;omega)) (by rw [<-hr]<;>first | rfl | (simp [zi];done) | (simp_all [zi];done)) (by simp [ends])
 refine za (fun h4=>?_) fun h4=>?_
 ·exact zr (by first | trivial | (simp;done) | (simp;omega)) (by rw [<-hr]<;>first | rfl | (simp [zi];done) | (simp_all [zi];done)) (by simp [ends])
 ·refine zd [[0]] [] (wV 1) ?_
  simp -implicitDefEqProofs only [aV,↓zb,push_cast,simprocAttr,tte]
  exact zr (by first | trivial | (simp;done) | (simp;omega)) (by rw [<-hr]<;>first | rfl | (simp [ofV,zT];done) | (simp_all [ofV,zT];done)) (by simp [ends])
theorem c_or2 (a b:Val):ACall Tryz.prog 122 [aV a,aV b] [] (aV (orM a b)) []:=by
 refine zm mixed ttok Tryz.func122 Tryz.ntmps122 Tryz.results122 ?_
 generalize hr:aV (orM a b)=R
 simp -implicitDefEqProofs only [argT,tabN,↓zb,push_cast,simprocAttr,tte]
 refine zd [[0,0,0]] [] (vi a) ?_
 simp -implicitDefEqProofs only [tabN,↓zb,push_cast,simprocAttr,tte]
 refine zd [[0,0,0]] [] (vi b) ?_
 simp -implicitDefEqProofs only [tabN,↓zb,push_cast,simprocAttr,tte]
 refine ⟨zh (by kernel_rfl),?_⟩
 unfold orM at hr
 generalize zA a=x at hr
 generalize zA b=y at hr
 refine za (fun h1=>?_) fun h1=>?_
 ·refine zd [[0]] [] (wV 1) ?_
  simp -implicitDefEqProofs only [aV,↓zb,push_cast,simprocAttr,tte]
  exact zr (by first | trivial | (simp;done) | (simp;omega)) (by rw [<-hr]<;>first | rfl | (simp [ofV,zT];done) | (simp_all [ofV,zT];done)) (by simp [ends])
 refine za (fun h2=>?_) fun h2=>?_
 ·refine zd [[0]] [] (wV 1) ?_
  simp -implicitDefEqProofs only [aV,↓zb,push_cast,simprocAttr,tte]
  exact zr (by first | trivial | (simp;done) | (simp;omega)) (by rw [<-hr]<;>first | rfl | (simp [ofV,zT];done) | (simp_all [ofV,zT];done)) (by simp [ends])
 refine za (fun h3=>?_) fun h3=>?_
 ·exact zr (by first | trivial | (simp;done) | (simp;omega)) (by rw [<-hr]<;>first | rfl | (simp [zi];done) | (simp_all [zi];done)) (by simp [ends])
 refine za (fun h4=>?_) fun h4=>?_
 ·exact zr (by first | trivial | (simp;done) | (simp;omega)) (by rw [<-hr]<;>first | rfl | (simp [zi];done) | (simp_all [zi];done)) (by simp [ends])
 ·refine zd [[0]] [] (wV 0) ?_
  simp -implicitDefEqProofs only [aV,↓zb,push_cast,simprocAttr,tte]
  exact zr (by first | trivial | (simp;done) | (simp;omega)) (by rw [<-hr]<;>first | rfl | (simp [ofV,zT];done) | (simp_all [ofV,zT];done)) (by simp [ends])
theorem c_rand (a b:Val):ACall Tryz.prog 70 [aV a,aV b] [] (aV (andM a b)) []:=by
 refine zm mixed ttok Tryz.func70 Tryz.ntmps70 Tryz.results70 ?_
 generalize hr:aV (andM a b)=R
 simp -implicitDefEqProofs only [argT,tabN,↓zb,push_cast,simprocAttr,tte]
 refine zd [[0,0,0]] [] (wb a) ?_
 simp -implicitDefEqProofs only [↓zb,push_cast,simprocAttr,tte]
 refine zd [[0,0,0]] [] (wb b) ?_
 simp -implicitDefEqProofs only [↓zb,push_cast,simprocAttr,tte]
 refine ⟨zh (by kernel_rfl),?_⟩
 unfold andM at hr
 generalize zA a=x at hr
 generalize zA b=y at hr
 refine za (fun h1=>?_) fun h1=>?_
 ·refine zd [[0]] [] (w9 0) ?_
  simp -implicitDefEqProofs only [aV,↓zb,push_cast,simprocAttr,tte]
  exact zr (by first | trivial | (simp;done) | (simp;omega)) (by rw [<-hr]<;>first | rfl | (simp [ofV,zT];done) | (simp_all [ofV,zT];done)) (by simp [ends])
 refine za (fun h2=>?_) fun h2=>?_
 ·refine zd [[0]] [] (w9 0) ?_
  simp -implicitDefEqProofs only [aV,↓zb,push_cast,simprocAttr,tte]
  exact zr (by first | trivial | (simp;done) | (simp;omega)) (by rw [<-hr]<;>first | rfl | (simp [ofV,zT];done) | (simp_all [ofV,zT];done)) (by simp [ends])
 refine za (fun h3=>?_) fun h3=>?_
 ·exact zr (by first | trivial | (simp;done) | (simp;omega)) (by rw [<-hr]<;>first | rfl | (simp [zi];done) | (simp_all [zi];done)) (by simp [ends])
 refine za (fun h4=>?_) fun h4=>?_
 ·exact zr (by first | trivial | (simp;done) | (simp;omega)) (by rw [<-hr]<;>first | rfl | (simp [zi];done) | (simp_all [zi];done)) (by simp [ends])
 ·refine zd [[0]] [] (w9 1) ?_
  simp -implicitDefEqProofs only [aV,↓zb,push_cast,simprocAttr,tte]
  exact zr (by first | trivial | (simp;done) | (simp;omega)) (by rw [<-hr]<;>first | rfl | (simp [ofV,zT];done) | (simp_all [ofV,zT];done)) (by simp [ends])
theorem c_ror (a b:Val):ACall Tryz.prog 71 [aV a,aV b] [] (aV (orM a b)) []:=by
 refine zm mixed ttok Tryz.func71 Tryz.ntmps71 Tryz.results71 ?_
 generalize hr:aV (orM a b)=R
 simp -implicitDefEqProofs only [argT,tabN,↓zb,push_cast,simprocAttr,tte]
 refine zd [[0,0,0]] [] (wb a) ?_
 simp -implicitDefEqProofs only [↓zb,push_cast,simprocAttr,tte]
 refine zd [[0,0,0]] [] (wb b) ?_
 simp -implicitDefEqProofs only [↓zb,push_cast,simprocAttr,tte]
 refine ⟨zh (by kernel_rfl),?_⟩
 unfold orM at hr
 generalize zA a=x at hr
 generalize zA b=y at hr
 refine za (fun h1=>?_) fun h1=>?_
 ·refine zd [[0]] [] (w9 1) ?_
  simp -implicitDefEqProofs only [aV,↓zb,push_cast,simprocAttr,tte]
  exact zr (by first | trivial | (simp;done) | (simp;omega)) (by rw [<-hr]<;>first | rfl | (simp [ofV,zT];done) | (simp_all [ofV,zT];done)) (by simp [ends])
 refine za (fun h2=>?_) fun h2=>?_
 ·refine zd [[0]] [] (w9 1) ?_
  simp -implicitDefEqProofs only [aV,↓zb,push_cast,simprocAttr,tte]
  exact zr (by first | trivial | (simp;done) | (simp;omega)) (by rw [<-hr]<;>first | rfl | (simp [ofV,zT];done) | (simp_all [ofV,zT];done)) (by simp [ends])
 refine za (fun h3=>?_) fun h3=>?_
 ·exact zr (by first | trivial | (simp;done) | (simp;omega)) (by rw [<-hr]<;>first | rfl | (simp [zi];done) | (simp_all [zi];done)) (by simp [ends])
 refine za (fun h4=>?_) fun h4=>?_
 ·exact zr (by first | trivial | (simp;done) | (simp;omega)) (by rw [<-hr]<;>first | rfl | (simp [zi];done) | (simp_all [zi];done)) (by simp [ends])
 ·refine zd [[0]] [] (w9 0) ?_
  simp -implicitDefEqProofs only [aV,↓zb,push_cast,simprocAttr,tte]
  exact zr (by first | trivial | (simp;done) | (simp;omega)) (by rw [<-hr]<;>first | rfl | (simp [ofV,zT];done) | (simp_all [ofV,zT];done)) (by simp [ends])
def cmpI (x y:Int):Int:=if x<y then -1 else if x>y then 1 else 0
def cmpS (x y:ByteArray):Int:=if Op.bytesLess x.toList y.toList then -1 else if x.toList=y.toList then 0 else 1
def cmpM (a b:Val):Int:=if cmpI a.kind b.kind≠0 then cmpI a.kind b.kind else if cmpI a.num b.num≠0 then cmpI a.num b.num else cmpS a.text b.text
theorem c_isNaN (x:Int):ACall Tryz.prog 144 [num x] [] (boo false) []:=by
 refine zm mixed ttok Tryz.func144 Tryz.ntmps144 Tryz.results144 ?_
 generalize hr:boo false=R
 simp -implicitDefEqProofs only [argT,↓zb,push_cast,simprocAttr,tte]
 exact zk trivial (by rw [<-hr];rfl) (by simp [ends])
theorem c_isNaN64 (x:Int):ACall Tryz.prog 145 [num x] [] (boo false) []:=by
 refine zm mixed ttok Tryz.func145 Tryz.ntmps145 Tryz.results145 ?_
 generalize hr:boo false=R
 simp -implicitDefEqProofs only [argT,↓zb,push_cast,simprocAttr,tte]
 exact zk trivial (by rw [<-hr];rfl) (by simp [ends])
theorem c_isNaNs (x:ByteArray):ACall Tryz.prog 146 [str x] [] (boo false) []:=by
 refine zm mixed ttok Tryz.func146 Tryz.ntmps146 Tryz.results146 ?_
 generalize hr:boo false=R
 simp -implicitDefEqProofs only [argT,↓zb,push_cast,simprocAttr,tte]
 exact zk trivial (by rw [<-hr];simp [boo]) (by simp [ends])
theorem c_cmpI (x y:Int):ACall Tryz.prog 129 [num x,num y] [] (num (cmpI x y)) []:=by
 refine zm mixed ttok Tryz.func129 Tryz.ntmps129 Tryz.results129 ?_
 generalize hr:num (cmpI x y)=R
 simp -implicitDefEqProofs only [argT,↓zb,push_cast,simprocAttr,tte]
 refine zd [[0]] [] (c_isNaN x) ?_
 simp -implicitDefEqProofs only [↓zb,push_cast,simprocAttr,tte]
 refine zd [[0]] [] (c_isNaN y) ?_
 simp -implicitDefEqProofs only [↓zb,push_cast,simprocAttr,tte]
 unfold cmpI at hr
 refine za (fun h1=>?_) fun h1=>?_
 ·exact zk trivial (by rw [<-hr];simp_all [num]) (by simp [ends])
 refine za (fun h2=>?_) fun h2=>?_
 ·exact zk trivial (by rw [<-hr];simp at h1 h2;rw [if_neg (by omega),if_pos (by omega)];rfl) (by simp [ends])
 ·exact zk trivial (by rw [<-hr];simp at h1 h2;rw [if_neg (by omega),if_neg (by omega)];rfl) (by simp [ends])
theorem c_cmpI64 (x y:Int):ACall Tryz.prog 130 [num x,num y] [] (num (cmpI x y)) []:=by
 refine zm mixed ttok Tryz.func130 Tryz.ntmps130 Tryz.results130 ?_
 generalize hr:num (cmpI x y)=R
 simp -implicitDefEqProofs only [argT,↓zb,push_cast,simprocAttr,tte]
 refine zd [[0]] [] (c_isNaN64 x) ?_
 simp -implicitDefEqProofs only [↓zb,push_cast,simprocAttr,tte]
 refine zd [[0]] [] (c_isNaN64 y) ?_
 simp -implicitDefEqProofs only [↓zb,push_cast,simprocAttr,tte]
 unfold cmpI at hr
 refine za (fun h1=>?_) fun h1=>?_
 ·exact zk trivial (by rw [<-hr];simp_all [num]) (by simp [ends])
 refine za (fun h2=>?_) fun h2=>?_
 ·exact zk trivial (by rw [<-hr];simp at h1 h2;rw [if_neg (by omega),if_pos (by omega)];rfl) (by simp [ends])
 ·exact zk trivial (by rw [<-hr];simp at h1 h2;rw [if_neg (by omega),if_neg (by omega)];rfl) (by simp [ends])
theorem c_cmpS (x y:ByteArray):ACall Tryz.prog 131 [str x,str y] [] (num (cmpS x y)) []:=by
 refine zm mixed ttok Tryz.func131 Tryz.ntmps131 Tryz.results131 ?_
 generalize hr:num (cmpS x y)=R
 simp -implicitDefEqProofs only [argT,↓zb,push_cast,simprocAttr,tte]
 refine zd [[0]] [] (c_isNaNs x) ?_
 simp -implicitDefEqProofs only [↓zb,push_cast,simprocAttr,tte]
 refine zd [[0]] [] (c_isNaNs y) ?_
 simp -implicitDefEqProofs only [↓zb,push_cast,simprocAttr,tte]
 unfold cmpS at hr
 refine za (fun h1=>?_) fun h1=>?_
 ·exact zk trivial (by rw [<-hr];simp_all [num]) (by simp [ends])
 refine za (fun h2=>?_) fun h2=>?_
 ·exact zk trivial (by rw [<-hr];rw [h1];simp [h1] at h2;simp [h2,num]) (by simp [ends])
 ·exact zk trivial (by rw [<-hr];rw [h1];simp [h1] at h2;simp [h2,num]) (by simp [ends])
def je:List Int->Int
 | []=>0
 | x::l=>if x≠0 then x else je l
theorem c_cor (l:List Int) (hl:l.length<=1000):ACall Tryz.prog 128 [ints l] [] (num (je l)) []:=by
 refine zm mixed ttok Tryz.func128 Tryz.ntmps128 Tryz.results128 ?_
 generalize hr:num (je l)=R
 simp -implicitDefEqProofs only [argT,↓zb,push_cast,simprocAttr,tte]
 refine yl mixed ttok 8 [3,6,7] [] (by simp only [wH,ends,push_cast,simprocAttr];rfl) (by simp only [wI,ym,ends,push_cast,simprocAttr];rfl) l.length (fun n=>je (l.drop n)=je l) (fun _=>[]) (fun _=>[]) rfl ?_ ?_
 ·exact Weak.keepL (by simp [cst,ends]) (by simp [cst,ends]) (by simp [cst,ends])
 intro I hI n hn hi
 simp -implicitDefEqProofs only [cst,↓zb,push_cast,simprocAttr,tte]
 refine za (fun h=>?_) fun h=>?_
 ·simp only [decide_eq_true_eq] at h
  have h':n<l.length:=by omega
  have hw:=zw h' (by omega)
  rw [yc _ n h',je] at hi
  refine ⟨(by first | omega | trivial | (refine ⟨?_,?_⟩<;>first | omega | trivial | (refine ⟨?_,?_⟩<;>first | omega | trivial | (refine ⟨?_,?_⟩<;>first | omega | trivial | rfl)))),?_⟩
  refine za (fun h2=>?_) fun h2=>?_
  ·exact zk trivial (by rw [<-hr,<-hi,if_pos (by simpa using h2)];rfl) (by simp [ends])
  ·rw [if_neg (by simpa using h2)] at hi
   exact yt hI n rfl h' hi (by simp [hw,ends]) (by simp [hw,ends]) (by simp [hw,ends]) (by simp [hw,ends])
 ·have hn':n=l.length:=by simp at h;omega
  subst hn'
  rw [List.drop_length] at hi
  exact zk trivial (by rw [<-hr,<-hi];rfl) (by simp [ends])
theorem c_compare (a b:Val):ACall Tryz.prog 108 [aV a,aV b] [] (num (cmpM a b)) []:=by
 refine zm mixed ttok Tryz.func108 Tryz.ntmps108 Tryz.results108 ?_
 generalize hr:num (cmpM a b)=R
 simp -implicitDefEqProofs only [argT,↓zb,push_cast,simprocAttr,tte]
 refine zd [[0],[0]] [] (c_cmpI a.kind b.kind) ?_
 simp -implicitDefEqProofs only [↓zb,push_cast,simprocAttr,tte]
 refine zd [[0],[0]] [] (c_cmpI64 a.num b.num) ?_
 simp -implicitDefEqProofs only [↓zb,push_cast,simprocAttr,tte]
 refine zd [[0],[0]] [] (c_cmpS a.text b.text) ?_
 simp -implicitDefEqProofs only [↓zb,push_cast,simprocAttr,tte]
 refine zd [[1]] [] (c_cor [cmpI a.kind b.kind,cmpI a.num b.num,cmpS a.text b.text] (by simp)) ?_
 simp -implicitDefEqProofs only [↓zb,push_cast,simprocAttr,tte]
 refine ⟨zh (by kernel_rfl),?_⟩
 have he:je [cmpI a.kind b.kind,cmpI a.num b.num,cmpS a.text b.text]=cmpM a b:=by
  simp only [je,cmpM]
  repeat' split
  all_goals simp_all
 rw [he]
 exact zk trivial (by rw [<-hr];rfl) (by simp [ends])
end
section
open Go.Am
attribute [local simp, local push_cast] num boo str ints aV aTab yC aS aT aC
theorem kV: ∀(x y:List UInt8),Op.bytesLess x y=decide (x<y)
 | [],[]=>by simp [Op.bytesLess]
 | _::_,[]=>by simp [Op.bytesLess]
 | [],_::_=>by simp [Op.bytesLess]
 | a::x,b::y=>by
   rw [Op.bytesLess,kV x y]
   simp only [List.cons_lt_cons_iff]
   by_cases h1:a<b<;>by_cases h2:a=b<;>by_cases h3:x<y<;>simp [h1,h2,h3]
def yw (a b:Val):Bool:=(a.kind==b.kind&&a.num==b.num)&&(a.text.toList==b.text.toList)
theorem xU (x y:Int):cmpI x y=0 ↔ x=y:=by unfold cmpI;split<;>(try split)<;>omega
theorem cmpS_zero (x y:ByteArray):cmpS x y=0 ↔ x.toList=y.toList:=by
 unfold cmpS
 split
 ·rename_i h
  refine ⟨fun h=>absurd h (by decide),fun e=>?_⟩
  rw [e] at h
  exact absurd h (by rw [kV,decide_eq_true_eq];exact List.lt_irrefl _)
 ·split
  ·rename_i h;simp [h]
  ·rename_i h;simp [h]
theorem vo (a b:Val):(cmpM a b==0)=yw a b:=by
 unfold cmpM yw
 rw [Bool.eq_iff_iff]
 simp only [beq_iff_eq,Bool.and_eq_true]
 by_cases h1:cmpI a.kind b.kind=0
 ·rw [if_neg (by simpa using h1)]
  have h1':=(xU _ _).1 h1
  by_cases h2:cmpI a.num b.num=0
  ·rw [if_neg (by simpa using h2),cmpS_zero]
   simp [h1',(xU _ _).1 h2]
  ·rw [if_pos h2]
   simp [h1',h2,mt (xU _ _).2 h2]
 ·rw [if_pos h1]
  simp [h1,mt (xU _ _).2 h1]
theorem km (a b:Val):ACall Tryz.prog 100 [aV a,aV b] [] (num (cmpM a b)) []:=by
 refine zm mixed ttok Tryz.func100 Tryz.ntmps100 Tryz.results100 ?_
 generalize hr:num (cmpM a b)=R
 simp -implicitDefEqProofs only [argT,↓zb,push_cast,simprocAttr,tte]
 unfold cmpM cmpI cmpS at hr
 refine za (fun h1=>?_) fun h1=>?_
 ·simp at h1
  exact zk trivial (by rw [<-hr,if_pos (by rw [if_pos h1];decide),if_pos h1];rfl) (by simp [ends])
 refine za (fun h2=>?_) fun h2=>?_
 ·simp at h1 h2
  exact zk trivial (by rw [<-hr,if_pos (by rw [if_neg (by omega),if_pos (by omega)];decide),if_neg (by omega),if_pos (by omega)];rfl) (by simp [ends])
 simp at h1 h2
 rw [if_neg (by rw [if_neg (by omega),if_neg (by omega)];decide)] at hr
 refine za (fun h3=>?_) fun h3=>?_
 ·simp at h3
  exact zk trivial (by rw [<-hr,if_pos (by rw [if_pos h3];decide),if_pos h3];rfl) (by simp [ends])
 refine za (fun h4=>?_) fun h4=>?_
 ·simp at h3 h4
  exact zk trivial (by rw [<-hr,if_pos (by rw [if_neg (by omega),if_pos (by omega)];decide),if_neg (by omega),if_pos (by omega)];rfl) (by simp [ends])
 simp at h3 h4
 rw [if_neg (by rw [if_neg (by omega),if_neg (by omega)];decide)] at hr
 refine za (fun h5=>?_) fun h5=>?_
 ·exact zk trivial (by rw [<-hr,if_pos h5];rfl) (by simp [ends])
 rw [h5] at hr ⊢
 refine za (fun h6=>?_) fun h6=>?_
 ·simp at h6
  exact zk trivial (by rw [<-hr];simp [h6,num]) (by simp [ends])
 ·simp at h6
  exact zk trivial (by rw [<-hr];simp [h6,num]) (by simp [ends])
theorem c_same (a b:Val):ACall Tryz.prog 61 [aV a,aV b] [] (boo (yw a b)) []:=by
 refine zm mixed ttok Tryz.func61 Tryz.ntmps61 Tryz.results61 ?_
 generalize hr:boo (yw a b)=R
 simp -implicitDefEqProofs only [argT,↓zb,push_cast,simprocAttr,tte]
 exact zk trivial (by rw [<-hr];simp [yw,boo,Bool.and_assoc]) (by simp [ends])
theorem c_rsame (a b:Val):ACall Tryz.prog 69 [aV a,aV b] [] (boo (yw a b)) []:=by
 refine zm mixed ttok Tryz.func69 Tryz.ntmps69 Tryz.results69 ?_
 generalize hr:boo (yw a b)=R
 simp -implicitDefEqProofs only [argT,↓zb,push_cast,simprocAttr,tte]
 refine zd [[0,0,0],[0,0,0]] [] (km a b) ?_
 simp -implicitDefEqProofs only [↓zb,push_cast,simprocAttr,tte]
 exact zk trivial (by rw [<-hr,<-vo];rfl) (by simp [ends])
def y6 (a b:Val):Val:=if a.kind=0\/b.kind=0 then zi else ofV (yw a b)
def xd (a b:Val):Val:=if a.kind=0\/b.kind=0 then zi else ofV (decide (cmpM a b<0))
theorem c_equal (a b:Val):ACall Tryz.prog 117 [aV a,aV b] [] (aV (y6 a b)) []:=by
 refine zm mixed ttok Tryz.func117 Tryz.ntmps117 Tryz.results117 ?_
 generalize hr:aV (y6 a b)=R
 simp -implicitDefEqProofs only [argT,tabN,↓zb,push_cast,simprocAttr,tte]
 unfold y6 at hr
 refine za (fun h1=>?_) fun h1=>?_
 ·exact zr (by first | trivial | (simp;done) | (simp;omega)) (by rw [<-hr]<;>first | rfl | (simp [zi];done) | (simp_all [zi];done)) (by simp [ends])
 refine za (fun h2=>?_) fun h2=>?_
 ·exact zr (by first | trivial | (simp;done) | (simp;omega)) (by rw [<-hr]<;>first | rfl | (simp [zi];done) | (simp_all [zi];done)) (by simp [ends])
 refine zd [[0,0,0],[0,0,0]] [] (c_same a b) ?_
 simp -implicitDefEqProofs only [↓zb,push_cast,simprocAttr,tte]
 refine zd [[0]] [] (c_truth (yw a b)) ?_
 simp -implicitDefEqProofs only [aV,↓zb,push_cast,simprocAttr,tte]
 simp at h1 h2
 exact zr (by first | trivial | (simp;done) | (simp;omega)) (by rw [<-hr]<;>first | rfl | (simp [h1,h2];done) | (simp_all [h1,h2];done)) (by simp [ends])
theorem kQ (a b:Val):ACall Tryz.prog 65 [aV a,aV b] [] (aV (y6 a b)) []:=by
 refine zm mixed ttok Tryz.func65 Tryz.ntmps65 Tryz.results65 ?_
 generalize hr:aV (y6 a b)=R
 simp -implicitDefEqProofs only [argT,tabN,↓zb,push_cast,simprocAttr,tte]
 unfold y6 at hr
 refine za (fun h1=>?_) fun h1=>?_
 ·exact zr (by first | trivial | (simp;done) | (simp;omega)) (by rw [<-hr]<;>first | rfl | (simp [zi];done) | (simp_all [zi];done)) (by simp [ends])
 refine za (fun h2=>?_) fun h2=>?_
 ·exact zr (by first | trivial | (simp;done) | (simp;omega)) (by rw [<-hr]<;>first | rfl | (simp [zi];done) | (simp_all [zi];done)) (by simp [ends])
 refine zd [[0,0,0],[0,0,0]] [] (c_rsame a b) ?_
 simp -implicitDefEqProofs only [↓zb,push_cast,simprocAttr,tte]
 refine zd [[0]] [] (c_of (yw a b)) ?_
 simp -implicitDefEqProofs only [aV,↓zb,push_cast,simprocAttr,tte]
 simp at h1 h2
 exact zr (by first | trivial | (simp;done) | (simp;omega)) (by rw [<-hr]<;>first | rfl | (simp [h1,h2];done) | (simp_all [h1,h2];done)) (by simp [ends])
theorem c_less (a b:Val):ACall Tryz.prog 119 [aV a,aV b] [] (aV (xd a b)) []:=by
 refine zm mixed ttok Tryz.func119 Tryz.ntmps119 Tryz.results119 ?_
 generalize hr:aV (xd a b)=R
 simp -implicitDefEqProofs only [argT,tabN,↓zb,push_cast,simprocAttr,tte]
 unfold xd at hr
 refine za (fun h1=>?_) fun h1=>?_
 ·exact zr (by first | trivial | (simp;done) | (simp;omega)) (by rw [<-hr]<;>first | rfl | (simp [zi];done) | (simp_all [zi];done)) (by simp [ends])
 refine za (fun h2=>?_) fun h2=>?_
 ·exact zr (by first | trivial | (simp;done) | (simp;omega)) (by rw [<-hr]<;>first | rfl | (simp [zi];done) | (simp_all [zi];done)) (by simp [ends])
 refine zd [[0,0,0],[0,0,0]] [] (c_compare a b) ?_
 simp -implicitDefEqProofs only [↓zb,push_cast,simprocAttr,tte]
 refine zd [[0]] [] (c_truth (decide (cmpM a b<0))) ?_
 simp -implicitDefEqProofs only [aV,↓zb,push_cast,simprocAttr,tte]
 simp at h1 h2
 exact zr (by first | trivial | (simp;done) | (simp;omega)) (by rw [<-hr]<;>first | rfl | (simp [h1,h2];done) | (simp_all [h1,h2];done)) (by simp [ends])
theorem c_rless (a b:Val):ACall Tryz.prog 67 [aV a,aV b] [] (aV (xd a b)) []:=by
 refine zm mixed ttok Tryz.func67 Tryz.ntmps67 Tryz.results67 ?_
 generalize hr:aV (xd a b)=R
 simp -implicitDefEqProofs only [argT,tabN,↓zb,push_cast,simprocAttr,tte]
 unfold xd at hr
 refine za (fun h1=>?_) fun h1=>?_
 ·exact zr (by first | trivial | (simp;done) | (simp;omega)) (by rw [<-hr]<;>first | rfl | (simp [zi];done) | (simp_all [zi];done)) (by simp [ends])
 refine za (fun h2=>?_) fun h2=>?_
 ·exact zr (by first | trivial | (simp;done) | (simp;omega)) (by rw [<-hr]<;>first | rfl | (simp [zi];done) | (simp_all [zi];done)) (by simp [ends])
 refine zd [[0,0,0],[0,0,0]] [] (km a b) ?_
 simp -implicitDefEqProofs only [↓zb,push_cast,simprocAttr,tte]
 refine zd [[0]] [] (c_of (decide (cmpM a b<0))) ?_
 simp -implicitDefEqProofs only [aV,↓zb,push_cast,simprocAttr,tte]
 simp at h1 h2
 exact zr (by first | trivial | (simp;done) | (simp;omega)) (by rw [<-hr]<;>first | rfl | (simp [h1,h2];done) | (simp_all [h1,h2];done)) (by simp [ends])
theorem cmpI_neg (x y:Int):cmpI x y<0 ↔ x<y:=by unfold cmpI;split<;>(try split)<;>omega
theorem cmpS_neg (x y:ByteArray):cmpS x y<0 ↔ x.toList<y.toList:=by
 unfold cmpS
 rw [kV]
 split
 ·rename_i h;simpa using h
 ·rename_i h
  simp only [decide_eq_true_eq] at h
  split<;>simp [h]
theorem toList_inj {x y:ByteArray} (h:x.toList=y.toList):x=y:=by
 cases x;cases y
 simpa [ByteArray.toList_eq] using h
theorem cmpM_neg (a b:Val):cmpM a b<0 ↔ a.kind<b.kind\/a.kind=b.kind/\(a.num<b.num\/a.num=b.num/\a.text.toList<b.text.toList):=by
 unfold cmpM
 by_cases h1:cmpI a.kind b.kind=0
 ·rw [if_neg (by simpa using h1)]
  have h1':=(xU _ _).1 h1
  by_cases h2:cmpI a.num b.num=0
  ·rw [if_neg (by simpa using h2),cmpS_neg]
   simp [h1',(xU _ _).1 h2]
  ·rw [if_pos h2,cmpI_neg]
   have:=mt (xU _ _).2 h2
   simp [h1',this]
 ·rw [if_pos h1,cmpI_neg]
  have:=mt (xU _ _).2 h1
  simp [this]
theorem val_ext {a b:Val} (h1:a.kind=b.kind) (h2:a.num=b.num) (h3:a.text.toList=b.text.toList):a=b:=by
 cases a;cases b
 simp only at h1 h2 h3
 rw [h1,h2,toList_inj h3]
theorem vP (a b:Val):cmpM a b=0 ↔ a=b:=by
 have:=vo a b
 refine ⟨fun h=>?_,fun h=>?_⟩
 ·rw [h] at this
  simp only [yw,beq_self_eq_true] at this
  have h2:=this.symm
  simp only [Bool.and_eq_true,beq_iff_eq] at h2
  exact val_ext h2.1.1 h2.1.2 h2.2
 ·subst h
  rw [show yw a a=true by simp [yw]] at this
  simpa using this
theorem wQ (a:Val): ¬cmpM a a<0:=by rw [(vP a a).2 rfl];decide
theorem vF {a b c:Val} (h1:cmpM a b<0) (h2:cmpM b c<0):cmpM a c<0:=by
 rw [cmpM_neg] at *
 rcases h1 with h1 | ⟨h1,h1'⟩<;>rcases h2 with h2 | ⟨h2,h2'⟩
 ·left;omega
 ·left;omega
 ·left;omega
 ·right
  refine ⟨by omega,?_⟩
  rcases h1' with h1' | ⟨h1',h3⟩<;>rcases h2' with h2' | ⟨h2',h4⟩
  ·left;omega
  ·left;omega
  ·left;omega
  ·exact .inr ⟨by omega,List.lt_trans h3 h4⟩
theorem cmpM_tri (a b:Val) (h1: ¬cmpM a b<0) (h2: ¬cmpM b a<0):a=b:=by
 rw [cmpM_neg] at *
 simp only [not_or,not_and,Int.not_lt] at h1 h2
 have hk:a.kind=b.kind:=by omega
 have h1':=h1.2 hk
 have h2':=h2.2 hk.symm
 have hn:a.num=b.num:=by omega
 have h1'':=h1'.2 hn
 have h2'':=h2'.2 hn.symm
 exact val_ext hk hn (List.le_antisymm (List.not_lt.1 h2'') (List.not_lt.1 h1''))
theorem cmpM_le (a b:Val):cmpM a b<=0 ↔ ¬cmpM b a<0:=by
 refine ⟨fun h h2=>?_,fun h=>?_⟩
 ·rcases Int.lt_or_eq_of_le h with h | h
  ·exact wQ _ (vF h h2)
  ·rw [vP] at h;subst h;exact wQ _ h2
 ·by_cases h3:cmpM a b<0
  ·omega
  ·rw [(vP a b).2 (cmpM_tri a b h3 h)];decide
end
section
open Go.Am
attribute [local simp, local push_cast] num boo str ints aV aTab yC aS aT aC
def okN (a:Int):Prop:= -1000000000000<=a/\a<=1000000000000
def absI (a:Int):Int:=if a<0 then -a else a
def numM (op a b:Int):Int×Bool:=
 if op=6 then (a+b,true) else if op=7 then (a-b,true)
 else if op=8 then (if a≠0/\b≠0/\absI a>(1000000000000:Int).tdiv (absI b) then (0,false) else (a * b,true))
 else if op=9 then (if b≠0 then (a.tdiv b,true) else (0,false))
 else if op=10 then (if b≠0 then (a.tmod b,true) else (0,false)) else (0,false)
theorem kX {a:Int} (h:a≠0):0<absI a:=by unfold absI;split<;>omega
theorem abs_max {a:Int} (h:okN a):(if -a>a then -a else a)=absI a:=by unfold okN at h;unfold absI;split<;>split<;>omega
theorem tdiv_le {a b:Int} (ha:0<=a) (hb:0<b):0<=a.tdiv b/\a.tdiv b<=a:=by
 rw [Int.tdiv_eq_ediv_of_nonneg ha]
 exact ⟨Int.ediv_nonneg ha (Int.le_of_lt hb),Int.ediv_le_self _ ha⟩
theorem mul_ok {a b:Int} (ha:okN a) (hb:okN b) (h: ¬(a≠0/\b≠0/\absI a>(1000000000000:Int).tdiv (absI b))):okN (a * b):=by
 by_cases h1:a=0
 ·subst h1;simp [okN]
 by_cases h2:b=0
 ·subst h2;simp [okN]
 have h3:absI a<=(1000000000000:Int).tdiv (absI b):=by
  have: ¬absI a>(1000000000000:Int).tdiv (absI b):=fun h4=>h ⟨h1,h2,h4⟩
  omega
 have hp:=kX h2
 rw [Int.tdiv_eq_ediv_of_nonneg (by decide),Int.le_ediv_iff_mul_le hp] at h3
 have e:a * b=absI a * absI b\/a * b= -(absI a * absI b):=by
  unfold absI
  split<;>split
  ·left;simp [Int.neg_mul,Int.mul_neg]
  ·right;simp [Int.neg_mul]
  ·right;simp [Int.mul_neg]
  ·left;rfl
 have hq:0<=absI a * absI b:=Int.mul_nonneg (Int.le_of_lt (kX h1)) (Int.le_of_lt hp)
 unfold okN
 omega
theorem tdiv_ok {a b:Int} (ha:okN a) (hb:b≠0):okN (a.tdiv b):=by
 have h:=Int.natAbs_tdiv_le_natAbs a b
 unfold okN at *
 omega
theorem tmod_ok {a b:Int} (ha:okN a) (hb:b≠0):okN (a.tmod b):=by
 have h:(a.tmod b).natAbs<=a.natAbs:=by
  rw [Int.natAbs_tmod];exact Nat.mod_le _ _
 unfold okN at *
 omega
theorem vr {a:Int} (h: -9000000000000<=a/\a<=9000000000000):IntKind.i64.wrap a=a:=z7 (by omega) (by omega)
theorem c_numbers (op a b:Int) (ha:okN a) (hb:okN b):ACall Tryz.prog 137 [num op,num a,num b] [] (.tup [num (numM op a b).1,boo (numM op a b).2]) []:=by
 refine zm mixed ttok Tryz.func137 Tryz.ntmps137 Tryz.results137 ?_
 generalize hr:A.tup [num (numM op a b).1,boo (numM op a b).2]=R
 have ha':=ha
 have hb':=hb
 unfold okN at ha' hb'
 have w1:=vr (a:=a+b) (by omega)
 have w2:=vr (a:=a-b) (by omega)
 have w3:=vr (a:= -a) (by omega)
 have w4:=vr (a:= -b) (by omega)
 have e3:(0:Int)-a= -a:=by omega
 have e4:(0:Int)-b= -b:=by omega
 unfold numM at hr
 simp -implicitDefEqProofs only [argT,w1,w2,w3,w4,e3,e4,abs_max ha,abs_max hb,↓zb,push_cast,simprocAttr,tte]
 refine za (fun h6=>?_) fun h6=>?_
 ·exact zF trivial (by rw [<-hr,if_pos (by simpa using h6)];rfl) (by simp [ends])
 rw [if_neg (by simpa using h6)] at hr
 refine za (fun h7=>?_) fun h7=>?_
 ·exact zF trivial (by rw [<-hr,if_pos (by simpa using h7)];rfl) (by simp [ends])
 rw [if_neg (by simpa using h7)] at hr
 refine za (fun h8=>?_) fun h8=>?_
 ·rw [if_pos (by simpa using h8)] at hr
  by_cases hz:a≠0/\b≠0
  ·have hp:=kX hz.2
   have hd:=tdiv_le (a:=1000000000000) (by decide) hp
   have w5:=vr (a:=(1000000000000:Int).tdiv (absI b)) (by omega)
   refine za (fun h1=>?_) fun h1=>?_
   ·refine za (fun h2=>?_) fun h2=>?_
    ·refine ⟨by omega,?_⟩
     simp only [w5]
     refine za (fun h3=>?_) fun h3=>?_
     ·simp only [decide_eq_true_eq] at h3
      exact zF trivial (by rw [<-hr,if_pos ⟨hz.1,hz.2,h3⟩];rfl) (by simp [ends])
     ·simp only [decide_eq_false_iff_not] at h3
      have hn: ¬(a≠0/\b≠0/\absI a>(1000000000000:Int).tdiv (absI b)):=fun h=>h3 h.2.2
      have hm:=mul_ok ha hb hn
      unfold okN at hm
      have w6:=vr (a:=a * b) (by omega)
      simp only [w6]
      exact zF trivial (by rw [<-hr,if_neg hn];rfl) (by simp [ends])
    ·simp at h2;omega
   ·simp at h1;omega
  ·have hn: ¬(a≠0∧b≠0∧absI a>(1000000000000:Int).tdiv (absI b)):=fun h=>hz ⟨h.1,h.2.1⟩
   have hm:=mul_ok ha hb hn
   unfold okN at hm
   have w6:=vr (a:=a * b) (by omega)
   rw [if_neg hn] at hr
   refine za (fun h1=>?_) fun h1=>?_
   ·refine za (fun h2=>?_) fun h2=>?_
    ·simp at h1 h2;omega
    ·simp only [w6]
     exact zF trivial (by rw [<-hr];rfl) (by simp [ends])
   ·simp only [w6]
    exact zF trivial (by rw [<-hr];rfl) (by simp [ends])
 rw [if_neg (by simpa using h8)] at hr
 refine za (fun h9=>?_) fun h9=>?_
 ·rw [if_pos (by simpa using h9)] at hr
  refine za (fun h1=>?_) fun h1=>?_
  ·have h1':b≠0:=by simpa using h1
   have hm:=tdiv_ok ha h1'
   unfold okN at hm
   have w6:=vr (a:=a.tdiv b) (by omega)
   simp only [w6]
   exact ⟨h1',zF trivial (by rw [<-hr,if_pos h1'];rfl) (by simp [ends])⟩
  ·have h1': ¬b≠0:=by simpa using h1
   exact zF trivial (by rw [<-hr,if_neg h1'];rfl) (by simp [ends])
 rw [if_neg (by simpa using h9)] at hr
 refine za (fun h10=>?_) fun h10=>?_
 ·rw [if_pos (by simpa using h10)] at hr
  refine za (fun h1=>?_) fun h1=>?_
  ·have h1':b≠0:=by simpa using h1
   exact ⟨h1',zF trivial (by rw [<-hr,if_pos h1'];rfl) (by simp [ends])⟩
  ·have h1': ¬b≠0:=by simpa using h1
   exact zF trivial (by rw [<-hr,if_neg h1'];rfl) (by simp [ends])
 rw [if_neg (by simpa using h10)] at hr
 exact zF trivial (by rw [<-hr];rfl) (by simp [ends])
end
section
open Go.Am
attribute [local simp, local push_cast] num boo str ints aV aTab yC aS aT aC
theorem c_ne (x t:Int):ACall Tryz.prog 149 [num x,.ptr 1000 0] [(1000,.var [num t])] (boo (x !=t)) [(1000,.var [num t])]:=by
 refine zm mixed ttok Tryz.func149 Tryz.ntmps149 Tryz.results149 ?_
 generalize hr:boo (x !=t)=R
 simp -implicitDefEqProofs only [argT,↓zb,push_cast,simprocAttr,tte]
 refine zf [0] rfl (by simp) (by simp [zc]<;>omega) ?_ (by first | rfl | simp [ends] | (subst_vars;simp [ends])) (by simp [ends]) (by simp [ends])
 exact hr
theorem c_idxN (l:List Int) (t:Int) (hl:l.length<=1000000000):
 ACall Tryz.prog 162 [ints l,.clo 149 [.ptr 1000 0]] [(1000,.var [num t])] (num (fidx (fun x=>x !=t) l)) [(1000,.var [num t])]:=by
 refine zm mixed ttok Tryz.func162 Tryz.ntmps162 Tryz.results162 ?_
 generalize hr:num (fidx (fun x=>x !=t) l)=R
 simp -implicitDefEqProofs only [argT,↓zb,push_cast,simprocAttr,tte]
 refine yl mixed ttok 8 [0,1,6,7] [1000] (by simp only [wH,ends,push_cast,simprocAttr];rfl) (by simp only [wI,ym,ends,push_cast,simprocAttr];rfl) l.length (fun n=> ∀i,i<n->(l.getD i default !=t)=false) (fun _=>[]) (fun _=>[]) (fun i h=>absurd h (Nat.not_lt_zero _)) ?_ ?_
 ·exact Weak.keepL (by simp [cst,ends]) (by simp [cst,ends]) (by simp [cst,ends])
 intro I hI n hn hi
 simp -implicitDefEqProofs only [cst,↓zb,push_cast,simprocAttr,tte]
 refine za (fun h=>?_) fun h=>?_
 ·simp only [decide_eq_true_eq] at h
  have h':n<l.length:=by omega
  have hw:=zw h' (by omega)
  refine ⟨(by first | omega | trivial | (refine ⟨?_,?_⟩<;>first | omega | trivial | (refine ⟨?_,?_⟩<;>first | omega | trivial | (refine ⟨?_,?_⟩<;>first | omega | trivial | rfl)))),?_⟩
  refine zd [[0],[]] [(1000,1000)] (c_ne (l.getD n default) t) ?_
  simp -implicitDefEqProofs only [↓zb,push_cast,simprocAttr,tte]
  refine za (fun g=>?_) fun g=>?_
  ·refine zf [0] rfl (by simp) (by simp [zc]<;>omega) ?_ (by first | rfl | simp [ends] | (subst_vars;simp [ends])) (by simp [ends]) (by simp [ends])
   rw [<-hr,fidx_at _ l n h' hi g];rfl
  ·exact yt hI n rfl h' (fun i h2=>if h3:i=n then by rw [h3];exact g else hi i (by omega)) (by simp [hw,ends]) (by simp [hw,ends]) (by simp [hw,ends]) (by simp [hw,ends])
 ·simp only [decide_eq_false_iff_not] at h
  obtain rfl:n=l.length:=by omega
  refine zf [0] rfl (by simp) (by simp [zc]<;>omega) ?_ (by first | rfl | simp [ends] | (subst_vars;simp [ends])) (by simp [ends]) (by simp [ends])
  rw [<-hr,fidx_none _ l hi];rfl
theorem c_containsN (l:List Int) (t:Int) (hl:l.length<=1000000000):
 ACall Tryz.prog 148 [ints l,.clo 149 [.ptr 1000 0]] [(1000,.var [num t])] (boo (l.any fun x=>x !=t)) [(1000,.var [num t])]:=by
 refine zm mixed ttok Tryz.func148 Tryz.ntmps148 Tryz.results148 ?_
 generalize hr:boo (l.any fun x=>x !=t)=R
 simp -implicitDefEqProofs only [argT,↓zb,push_cast,simprocAttr,tte]
 refine zd [[1],[]] [(1000,1000)] (c_idxN l t hl) ?_
 simp -implicitDefEqProofs only [↓zb,push_cast,simprocAttr,tte]
 refine zf [0] rfl (by simp) (by simp [zc]<;>omega) ?_ (by first | rfl | simp [ends] | (subst_vars;simp [ends])) (by simp [ends]) (by simp [ends])
 rw [<-hr,<-any_fidx];rfl
theorem c_every (l:List Int) (t:Int) (hl:l.length<=1000000000):ACall Tryz.prog 147 [num t,ints l] [] (boo (l.all fun x=>x==t)) []:=by
 refine zm mixed ttok Tryz.func147 Tryz.ntmps147 Tryz.results147 ?_
 generalize hr:boo (l.all fun x=>x==t)=R
 simp -implicitDefEqProofs only [argT,↓zb,push_cast,simprocAttr,tte]
 refine zd [[1],[]] [(1000,2)] (c_containsN l t hl) ?_
 simp -implicitDefEqProofs only [↓zb,push_cast,simprocAttr,tte]
 have:(l.all fun x=>x==t)= !(l.any fun x=>x !=t):=by
  rw [List.not_any_eq_all_not];simp [bne]
 exact zk trivial (by rw [<-hr,this];rfl) (by simp [ends])
def fitM (o:OpD) (l:List Int):Bool:=
 if o.types=1 then l.all (fun x=>x==1) else if o.types=2 then l.all (fun x=>x==3) else if o.types=3 then l.all (fun x=>x==2)
 else if o.types=4 then l.all (fun x=>x==l.getD 0 default) else if o.types=6 then (l.getD 0 default==2)&&(l.getD 1 default==l.getD 2 default) else true
theorem c_fit (o:OpD) (l:List Int) (hl:l.length<=1000000000) (h4:o.types=4->0<l.length) (h6:o.types=6->l.length=3):ACall Tryz.prog 134 [aOp o,ints l] [] (boo (fitM o l)) []:=by
 refine zm mixed ttok Tryz.func134 Tryz.ntmps134 Tryz.results134 ?_
 generalize hr:boo (fitM o l)=R
 simp -implicitDefEqProofs only [argT,aOp,↓zb,push_cast,simprocAttr,tte]
 refine za (fun k1=>?_) fun k1=>?_
 ·have hk:o.types=1:=by simpa using k1
  have hM:fitM o l=l.all (fun x=>x==1):=by rw [fitM,if_pos hk]
  refine zd [[0],[1]] [] (c_every l 1 hl) ?_
  simp -implicitDefEqProofs only [↓zb,push_cast,simprocAttr,tte]
  exact zk trivial (by rw [<-hr,hM];rfl) (by simp [ends])
 have hk1: ¬o.types=1:=by simpa using k1
 refine za (fun k2=>?_) fun k2=>?_
 ·have hk:o.types=2:=by simpa using k2
  have hM:fitM o l=l.all (fun x=>x==3):=by rw [fitM,if_neg hk1,if_pos hk]
  refine zd [[0],[1]] [] (c_every l 3 hl) ?_
  simp -implicitDefEqProofs only [↓zb,push_cast,simprocAttr,tte]
  exact zk trivial (by rw [<-hr,hM];rfl) (by simp [ends])
 have hk2: ¬o.types=2:=by simpa using k2
 refine za (fun k3=>?_) fun k3=>?_
 ·have hk:o.types=3:=by simpa using k3
  have hM:fitM o l=l.all (fun x=>x==2):=by rw [fitM,if_neg hk1,if_neg hk2,if_pos hk]
  refine zd [[0],[1]] [] (c_every l 2 hl) ?_
  simp -implicitDefEqProofs only [↓zb,push_cast,simprocAttr,tte]
  exact zk trivial (by rw [<-hr,hM];rfl) (by simp [ends])
 have hk3: ¬o.types=3:=by simpa using k3
 refine za (fun k4=>?_) fun k4=>?_
 ·have hk:o.types=4:=by simpa using k4
  have hM:fitM o l=l.all (fun x=>x==l.getD 0 default):=by rw [fitM,if_neg hk1,if_neg hk2,if_neg hk3,if_pos hk]
  have:=h4 hk
  refine ⟨(by first | omega | trivial | (refine ⟨?_,?_⟩<;>first | omega | trivial | (refine ⟨?_,?_⟩<;>first | omega | trivial | (refine ⟨?_,?_⟩<;>first | omega | trivial | rfl)))),?_⟩
  refine zd [[0],[1]] [] (c_every l (l.getD 0 default) hl) ?_
  simp -implicitDefEqProofs only [↓zb,push_cast,simprocAttr,tte]
  exact zk trivial (by rw [<-hr,hM];rfl) (by simp [ends])
 have hk4: ¬o.types=4:=by simpa using k4
 refine za (fun k6=>?_) fun k6=>?_
 ·have hk:o.types=6:=by simpa using k6
  have hM:fitM o l=((l.getD 0 default==2)&&(l.getD 1 default==l.getD 2 default)):=by rw [fitM,if_neg hk1,if_neg hk2,if_neg hk3,if_neg hk4,if_pos hk]
  have:=h6 hk
  refine ⟨(by first | omega | trivial | (refine ⟨?_,?_⟩<;>first | omega | trivial | (refine ⟨?_,?_⟩<;>first | omega | trivial | (refine ⟨?_,?_⟩<;>first | omega | trivial | rfl)))),?_⟩
  refine za (fun g=>?_) fun g=>?_
  ·refine ⟨(by first | omega | trivial | (refine ⟨?_,?_⟩<;>first | omega | trivial | (refine ⟨?_,?_⟩<;>first | omega | trivial | (refine ⟨?_,?_⟩<;>first | omega | trivial | rfl)))),(by first | omega | trivial | (refine ⟨?_,?_⟩<;>first | omega | trivial | (refine ⟨?_,?_⟩<;>first | omega | trivial | (refine ⟨?_,?_⟩<;>first | omega | trivial | rfl)))),zh (by kernel_rfl),?_⟩
   exact zk trivial (by rw [<-hr,hM,g,Bool.true_and];rfl) (by simp [ends])
  ·refine ⟨zh (by kernel_rfl),?_⟩
   exact zk trivial (by rw [<-hr,hM,g,Bool.false_and];rfl) (by simp [ends])
 ·have hk6: ¬o.types=6:=by simpa using k6
  have hM:fitM o l=true:=by rw [fitM,if_neg hk1,if_neg hk2,if_neg hk3,if_neg hk4,if_neg hk6]
  exact zk trivial (by rw [<-hr,hM];rfl) (by simp [ends])
end
section
open Go.Am
attribute [local simp, local push_cast] num boo str ints aV aTab yC aS aT aC aOp
def vN (k:Int):Bool:=(k==1 || k==2) || k==3
def ownM (ts:List Int) (e:Ex) (l:List Int):Int×Int:=
 if (!isOp e.op || !zQ e) then (0,1)
 else if !yf e then (0,9)
 else if (e.op==5&&(decide (e.col<0) || decide (e.col≥ts.length))) then (0,3)
 else if ((e.op==5&& !vN (ts.getD e.col.toNat default)) || !fitM (ye e.op) l) then (0,4)
 else if e.op==5 then (ts.getD e.col.toNat default,0)
 else if e.op==1 then (e.type,0)
 else if (ye e.op).own==0 then (l.getD (l.length-1) default,0)
 else ((ye e.op).own,0)
def typK (f:Ex->List Int->Int×Int) (e:Ex) (rs:List (Int×Int)):Int×Int:=if ferr Prod.snd rs=0 then f e (rs.map Prod.fst) else (0,ferr Prod.snd rs)
mutual
def typG (f:Ex->List Int->Int×Int):Ex->Int×Int
 | .mk a b c d g ks=>typK f (.mk a b c d g ks) (typL f ks)
def typL (f:Ex->List Int->Int×Int):List Ex->List (Int×Int)
 | []=>[]
 | e::l=>typG f e::typL f l
end
theorem typL_eq (f:Ex->List Int->Int×Int): ∀l,typL f l=l.map (typG f)
 | []=>rfl
 | e::l=>by rw [typL,typL_eq f l];rfl
theorem vI (f:Ex->List Int->Int×Int) (e:Ex):typG f e=typK f e (e.kids.map (typG f)):=by cases e;rw [typG,typL_eq];rfl
theorem jf {α β:Type} (g:β->Int) (h:α->β): ∀l:List α,ferr g (l.map h)=ferr (fun x=>g (h x)) l
 | []=>rfl
 | x::l=>by simp only [List.map_cons,ferr,jf g h l]
theorem ferr_at {α:Type} [Inhabited α] (g:α->Int): ∀(l:List α) (n:Nat),n<l.length->(∀i,i<n->g (l.getD i default)=0)->g (l.getD n default)≠0->ferr g l=g (l.getD n default)
 | [],n,h,_,_=>by simp at h
 | x::l,0,_,_,hg=>by simp at hg;simp [ferr,hg]
 | x::l,n+1,h,hb,hg=>by
   have h0:=hb 0 (by omega)
   simp at h0
   simp only [ferr,h0,if_true]
   rw [ferr_at g l n (by simpa using h) (fun i hi=>by simpa using hb (i+1) (by omega)) (by simpa using hg)]
   simp
theorem j8 {α:Type} [Inhabited α] (g:α->Int): ∀(l:List α),(∀i,i<l.length->g (l.getD i default)=0)->ferr g l=0
 | [],_=>rfl
 | x::l,hb=>by
   have h0:=hb 0 (by simp)
   simp at h0
   simp only [ferr,h0,if_true]
   exact j8 g l (fun i hi=>by simpa using hb (i+1) (by simpa using hi))
def wC (f:Ex->List Int->Int×Int) (e:Ex) (n:Nat):List Int:=(e.kids.take n).map fun k=>(typG f k).1
theorem ku (f:Ex->List Int->Int×Int) (e:Ex) (n:Nat) (h:n<=e.kids.length):(wC f e n).length=n:=by simp [wC];omega
theorem tysTo_succ (f:Ex->List Int->Int×Int) (e:Ex) (n:Nat) (h:n<e.kids.length):wC f e (n+1)=wC f e n++[(typG f (e.kids.getD n default)).1]:=by rw [wC,yr _ _ h,List.map_append];rfl
def yY (p:Int×Int):A:= .tup [num p.1,num p.2]
theorem tab_alike: ∀op:Int,isOp op=true->(ye op).types=4->2<=(ye op).kids:=by
 have h:(List.range 29).all (fun n=> !decide ((opTab.getD n default).types=4) || decide (2<=(opTab.getD n default).kids))=true:=by decide
 intro op ho ht
 rw [ye,ho,if_pos rfl,opAt] at ht ⊢
 simp only [isOp,Bool.and_eq_true,decide_eq_true_eq] at ho
 have:=all_range.1 h op.toNat (by omega)
 rw [ht] at this
 simpa using this
theorem tab_choice: ∀op:Int,isOp op=true->(ye op).types=6->(ye op).kids=3/\op≠28:=by
 have h:(List.range 29).all (fun n=> !decide ((opTab.getD n default).types=6) || (decide ((opTab.getD n default).kids=3)&&decide (n≠28)))=true:=by decide
 intro op ho ht
 rw [ye,ho,if_pos rfl,opAt] at ht ⊢
 simp only [isOp,Bool.and_eq_true,decide_eq_true_eq] at ho
 have:=all_range.1 h op.toNat (by omega)
 rw [ht] at this
 simp only [decide_true,Bool.not_true,Bool.false_or,Bool.and_eq_true,decide_eq_true_eq] at this
 exact ⟨this.1,by omega⟩
theorem tab_own: ∀op:Int,isOp op=true->(ye op).own=0->op=1\/op=5\/1<=(ye op).kids:=by
 have h:(List.range 29).all (fun n=> !decide ((opTab.getD n default).own=0) || (decide (n=0) || decide (n=1) || decide (n=5) || decide (1<=(opTab.getD n default).kids)))=true:=by decide
 intro op ho ht
 rw [ye,ho,if_pos rfl,opAt] at ht ⊢
 simp only [isOp,Bool.and_eq_true,decide_eq_true_eq] at ho
 have:=all_range.1 h op.toNat (by omega)
 rw [ht] at this
 simp only [decide_true,Bool.not_true,Bool.false_or,Bool.or_eq_true,decide_eq_true_eq] at this
 omega
theorem vD {e:Ex} (h:yf e=true):(ye e.op).kids<=e.kids.length/\(e.op≠28->(e.kids.length:Int)=(ye e.op).kids):=by
 simp only [yf,Bool.and_eq_true,Bool.or_eq_true,beq_iff_eq,decide_eq_true_eq] at h
 omega
theorem c_typ (ts:List Int) (hts:ts.length<=1000000000): ∀e:Ex,Ok12 e->ACall Tryz.prog 111 [ints ts,aE e] [] (yY (typG (ownM ts) e)) []:=
 xj (p:=fun e=>Ok12 e->ACall Tryz.prog 111 [ints ts,aE e] [] (yY (typG (ownM ts) e)) []) fun e ih ho=>by
 refine zm mixed ttok Tryz.func111 Tryz.ntmps111 Tryz.results111 ?_
 generalize hr:yY (typG (ownM ts) e)=R
 have hl:=ho.kids
 simp -implicitDefEqProofs only [argT,↓zb,push_cast,simprocAttr,tte]
 refine yl mixed ttok 17 [0,3,15,16] [3] (by simp only [wH,ends,push_cast,simprocAttr];rfl) (by simp only [wI,ym,ends,push_cast,simprocAttr];rfl) e.kids.length (fun n=> ∀i,i<n->(typG (ownM ts) (e.kids.getD i default)).2=0) (fun n=>[(6,.vec 500 n)]) (fun n=>[(500,.vec 3 1 (zg rI (wC (ownM ts) e n)) 0)]) (fun i h=>absurd h (Nat.not_lt_zero _)) ?_ ?_
 ·exact (Weak.nilL 6 500 3 1 rfl rfl).trans (Weak.keepL (by simp [cst,ends]) (by simp [cst,wC,ends]) (by simp [cst,ends]))
 intro I hI n hn hi
 have hl2:=ku (ownM ts) e n hn
 simp -implicitDefEqProofs only [cst,↓zb,push_cast,simprocAttr,tte]
 refine za (fun h=>?_) fun h=>?_
 ·simp only [decide_eq_true_eq] at h
  have h':n<e.kids.length:=by omega
  have hw:=zw h' (by omega)
  have hs:=tysTo_succ (ownM ts) e n h'
  refine ⟨(by first | omega | trivial | (refine ⟨?_,?_⟩<;>first | omega | trivial | (refine ⟨?_,?_⟩<;>first | omega | trivial | (refine ⟨?_,?_⟩<;>first | omega | trivial | rfl)))),?_⟩
  refine zd [[1],[0,0,0,0,0,6]] [] (ih _ (zx h') (ho.kid (zx h'))) ?_
  simp -implicitDefEqProofs only [yY,↓zb,push_cast,simprocAttr,tte]
  refine za (fun g=>?_) fun g=>?_
  ·have g':(typG (ownM ts) (e.kids.getD n default)).2≠0:=by simpa using g
   have hf:ferr Prod.snd (e.kids.map (typG (ownM ts)))=(typG (ownM ts) (e.kids.getD n default)).2:=by rw [jf];exact ferr_at _ _ n h' hi g'
   have hE:typG (ownM ts) e=(0,(typG (ownM ts) (e.kids.getD n default)).2):=by rw [vI (ownM ts) e,typK,hf,if_neg g']
   exact zF trivial (by rw [<-hr,hE];rfl) (by simp [ends])
  ·have g':(typG (ownM ts) (e.kids.getD n default)).2=0:=by simpa using g
   refine ⟨⟨hl2.symm,by rw [hl2];omega⟩,?_⟩
   exact yt hI n rfl h' (fun i h2=>if h3:i=n then by rw [h3];exact g' else hi i (by omega)) (by simp [hw,hs,hl2,zy,ends]) (by simp [hw,hs,hl2,zy,ends]) (by simp [hw,hs,hl2,zy,ends]) (by simp [hw,hs,hl2,zy,ends])
 simp only [decide_eq_false_iff_not] at h
 obtain rfl:n=e.kids.length:=by omega
 clear hI
 have hf:ferr Prod.snd (e.kids.map (typG (ownM ts)))=0:=by rw [jf];exact j8 _ _ hi
 have hT:wC (ownM ts) e e.kids.length=(e.kids.map (typG (ownM ts))).map Prod.fst:=by rw [wC,List.take_length,List.map_map];rfl
 have hM:typG (ownM ts) e=ownM ts e (wC (ownM ts) e e.kids.length):=by rw [vI (ownM ts) e,typK,if_pos hf,hT]
 rw [hM] at hr
 generalize wC (ownM ts) e e.kids.length=l at hl2 hr ⊢
 refine zd [[0,0,0,0,0,6]] [] (c_known e) ?_
 simp -implicitDefEqProofs only [aOp,↓zb,push_cast,simprocAttr,tte]
 have hf4:isOp e.op=true->yf e=true->(ye e.op).types=4->0<l.length:=fun a b c=>by
  have:=tab_alike _ a c;have:=vD b;omega
 have hf6:isOp e.op=true->yf e=true->(ye e.op).types=6->l.length=3:=fun a b c=>by
  have h9:=tab_choice _ a c;have h8:=(vD b).2 h9.2;omega
 have hf0:isOp e.op=true->yf e=true-> ¬e.op=1-> ¬e.op=5->(ye e.op).own=0->0<l.length:=fun a b c d f=>by
  have h9:=tab_own _ a f;have h8:=vD b;omega
 refine za (fun h1=>?_) fun h1=>?_
 ·have h1':isOp e.op=false:=by simpa using h1
  have hv:ownM ts e l=(0,1):=by simp only [ownM,h1',Bool.not_true,Bool.not_false,Bool.or_false,Bool.false_or,Bool.true_or,Bool.or_true,Bool.and_true,Bool.true_and,Bool.false_and,Bool.and_false,Bool.false_eq_true,Bool.or_self,Bool.and_self,if_true,if_false]
  exact zF trivial (by rw [<-hr,hv];rfl) (by simp [ends])
 have h1':isOp e.op=true:=by simpa using h1
 refine zd [[0,0,0,0,0,6]] [] (c_clean e) ?_
 simp -implicitDefEqProofs only [↓zb,push_cast,simprocAttr,tte]
 refine za (fun h2=>?_) fun h2=>?_
 ·have h2':zQ e=false:=by simpa using h2
  have hv:ownM ts e l=(0,1):=by simp only [ownM,h2',Bool.not_true,Bool.not_false,Bool.or_false,Bool.false_or,Bool.true_or,Bool.or_true,Bool.and_true,Bool.true_and,Bool.false_and,Bool.and_false,Bool.false_eq_true,Bool.or_self,Bool.and_self,if_true,if_false]
  exact zF trivial (by rw [<-hr,hv];rfl) (by simp [ends])
 have h2':zQ e=true:=by simpa using h2
 refine za (fun h3=>?_) fun h3=>?_
 ·have h3':yf e=false:=by simpa using h3
  have hv:ownM ts e l=(0,9):=by simp only [ownM,h1',h2',h3',Bool.not_true,Bool.not_false,Bool.or_false,Bool.false_or,Bool.true_or,Bool.or_true,Bool.and_true,Bool.true_and,Bool.false_and,Bool.and_false,Bool.false_eq_true,Bool.or_self,Bool.and_self,if_true,if_false]
  exact zF trivial (by rw [<-hr,hv];rfl) (by simp [ends])
 have h3':yf e=true:=by simpa using h3
 replace hf4:=hf4 h1' h3'
 replace hf6:=hf6 h1' h3'
 replace hf0:=hf0 h1' h3'
 refine za (fun h4=>?_) fun h4=>?_
 ·refine za (fun h5=>?_) fun h5=>?_
  ·have hv:ownM ts e l=(0,3):=by simp only [ownM,h1',h2',h3',h4,h5,Bool.not_true,Bool.not_false,Bool.or_false,Bool.false_or,Bool.true_or,Bool.or_true,Bool.and_true,Bool.true_and,Bool.false_and,Bool.and_false,Bool.false_eq_true,Bool.or_self,Bool.and_self,if_true,if_false]
   exact zF trivial (by rw [<-hr,hv];rfl) (by simp [ends])
  refine za (fun h6=>?_) fun h6=>?_
  ·have hv:ownM ts e l=(0,3):=by simp only [ownM,h1',h2',h3',h4,h5,h6,Bool.not_true,Bool.not_false,Bool.or_false,Bool.false_or,Bool.true_or,Bool.or_true,Bool.and_true,Bool.true_and,Bool.false_and,Bool.and_false,Bool.false_eq_true,Bool.or_self,Bool.and_self,if_true,if_false]
   exact zF trivial (by rw [<-hr,hv];rfl) (by simp [ends])
  rw [h4,yg]
  refine ⟨by simp only [decide_eq_false_iff_not] at h5 h6;omega,?_⟩
  refine zd [[0]] [] (c_isType (ts.getD e.col.toNat default)) ?_
  simp -implicitDefEqProofs only [↓zb,push_cast,simprocAttr,tte]
  rw [show (((ts.getD e.col.toNat default==1) || (ts.getD e.col.toNat default==2)) || (ts.getD e.col.toNat default==3))=vN (ts.getD e.col.toNat default) from rfl]
  refine za (fun h7=>?_) fun h7=>?_
  ·have h7':vN (ts.getD e.col.toNat default)=false:=by simpa using h7
   have hv:ownM ts e l=(0,4):=by simp only [ownM,h1',h2',h3',h4,h5,h6,h7',Bool.not_true,Bool.not_false,Bool.or_false,Bool.false_or,Bool.true_or,Bool.or_true,Bool.and_true,Bool.true_and,Bool.false_and,Bool.and_false,Bool.false_eq_true,Bool.or_self,Bool.and_self,if_true,if_false]
   exact zF trivial (by rw [<-hr,hv];rfl) (by simp [ends])
  have h7':vN (ts.getD e.col.toNat default)=true:=by simpa using h7
  refine zd [[0,0,0,0],[1]] [] (c_fit (ye e.op) l (by omega) hf4 hf6) ?_
  simp -implicitDefEqProofs only [↓zb,push_cast,simprocAttr,tte]
  refine za (fun h8=>?_) fun h8=>?_
  ·have h8':fitM (ye e.op) l=false:=by simpa using h8
   have hv:ownM ts e l=(0,4):=by simp only [ownM,h1',h2',h3',h4,h5,h6,h7',h8',Bool.not_true,Bool.not_false,Bool.or_false,Bool.false_or,Bool.true_or,Bool.or_true,Bool.and_true,Bool.true_and,Bool.false_and,Bool.and_false,Bool.false_eq_true,Bool.or_self,Bool.and_self,if_true,if_false]
   exact zF trivial (by rw [<-hr,hv];rfl) (by simp [ends])
  have h8':fitM (ye e.op) l=true:=by simpa using h8
  rw [h4,yg]
  refine ⟨by simp only [decide_eq_false_iff_not] at h5 h6;omega,?_⟩
  have hv:ownM ts e l=(ts.getD e.col.toNat default,0):=by simp only [ownM,h1',h2',h3',h4,h5,h6,h7',h8',Bool.not_true,Bool.not_false,Bool.or_false,Bool.false_or,Bool.true_or,Bool.or_true,Bool.and_true,Bool.true_and,Bool.false_and,Bool.and_false,Bool.false_eq_true,Bool.or_self,Bool.and_self,if_true,if_false]
  exact zF trivial (by rw [<-hr,hv];rfl) (by simp [ends])
 rw [h4,vX]
 refine zd [[0,0,0,0],[1]] [] (c_fit (ye e.op) l (by omega) hf4 hf6) ?_
 simp -implicitDefEqProofs only [↓zb,push_cast,simprocAttr,tte]
 refine za (fun h8=>?_) fun h8=>?_
 ·have h8':fitM (ye e.op) l=false:=by simpa using h8
  have hv:ownM ts e l=(0,4):=by simp only [ownM,h1',h2',h3',h4,h8',Bool.not_true,Bool.not_false,Bool.or_false,Bool.false_or,Bool.true_or,Bool.or_true,Bool.and_true,Bool.true_and,Bool.false_and,Bool.and_false,Bool.false_eq_true,Bool.or_self,Bool.and_self,if_true,if_false]
  exact zF trivial (by rw [<-hr,hv];rfl) (by simp [ends])
 have h8':fitM (ye e.op) l=true:=by simpa using h8
 rw [h4,vX]
 refine za (fun h5=>?_) fun h5=>?_
 ·have hv:ownM ts e l=(e.type,0):=by simp only [ownM,h1',h2',h3',h4,h8',h5,Bool.not_true,Bool.not_false,Bool.or_false,Bool.false_or,Bool.true_or,Bool.or_true,Bool.and_true,Bool.true_and,Bool.false_and,Bool.and_false,Bool.false_eq_true,Bool.or_self,Bool.and_self,if_true,if_false]
  exact zF trivial (by rw [<-hr,hv];rfl) (by simp [ends])
 refine za (fun h6=>?_) fun h6=>?_
 ·have h5': ¬e.op=1:=by simpa using h5
  have h4': ¬e.op=5:=by simpa using h4
  have h6':(ye e.op).own=0:=by simpa using h6
  have hp:=hf0 h5' h4' h6'
  have hw:IntKind.i64.wrap ((e.kids.length:Int)-1)=((l.length-1:Nat):Int):=by rw [z7 (by omega) (by omega)];omega
  rw [hw]
  have hv:ownM ts e l=(l.getD (l.length-1) default,0):=by simp only [ownM,h1',h2',h3',h4,h8',h5,h6,Bool.not_true,Bool.not_false,Bool.or_false,Bool.false_or,Bool.true_or,Bool.or_true,Bool.and_true,Bool.true_and,Bool.false_and,Bool.and_false,Bool.false_eq_true,Bool.or_self,Bool.and_self,if_true,if_false]
  refine ⟨hl2.symm,⟨⟨by omega,by omega⟩,hl2.symm⟩,by omega,hl2.symm,?_⟩
  exact zF trivial (by rw [<-hr,hv];rfl) (by simp [ends])
 have hv:ownM ts e l=((ye e.op).own,0):=by simp only [ownM,h1',h2',h3',h4,h8',h5,h6,Bool.not_true,Bool.not_false,Bool.or_false,Bool.false_or,Bool.true_or,Bool.or_true,Bool.and_true,Bool.true_and,Bool.false_and,Bool.and_false,Bool.false_eq_true,Bool.or_self,Bool.and_self,if_true,if_false]
 exact zF trivial (by rw [<-hr,hv];rfl) (by simp [ends])
end
section
open Go.Am
attribute [local simp, local push_cast] num boo str ints aV aTab yC aS aT aC jL yY
def xD (f:Ex->List Int->Int×Int) (e:Ex):Int×Int:=if we e>200 then (0,8) else if xk e>24 then (0,13) else typG f e
theorem c_type (ts:List Int) (hts:ts.length<=1000000000) (e:Ex) (ho:Ok12 e):ACall Tryz.prog 87 [ints ts,aE e] [] (yY (xD (ownM ts) e)) []:=by
 refine zm mixed ttok Tryz.func87 Tryz.ntmps87 Tryz.results87 ?_
 generalize hr:yY (xD (ownM ts) e)=R
 simp -implicitDefEqProofs only [argT,↓zb,push_cast,simprocAttr,tte]
 refine zd [[0,0,0,0,0,6]] [] (c_size e ho) ?_
 simp -implicitDefEqProofs only [↓zb,push_cast,simprocAttr,tte]
 refine za (fun h=>?_) fun h=>?_
 ·have hv:xD (ownM ts) e=(0,8):=if_pos (of_decide_eq_true h)
  exact zF trivial (by rw [<-hr,hv];rfl) (by simp [ends])
 have h': ¬we e>200:=of_decide_eq_false h
 refine zd [[0,0,0,0,0,6]] [] (c_depth e ho) ?_
 simp -implicitDefEqProofs only [↓zb,push_cast,simprocAttr,tte]
 refine za (fun g=>?_) fun g=>?_
 ·have hv:xD (ownM ts) e=(0,13):=by rw [xD,if_neg h',if_pos (of_decide_eq_true g)]
  exact zF trivial (by rw [<-hr,hv];rfl) (by simp [ends])
 have g': ¬xk e>24:=of_decide_eq_false g
 refine zd [[1],[0,0,0,0,0,6]] [] (c_typ ts hts e ho) ?_
 have hv:xD (ownM ts) e=typG (ownM ts) e:=by rw [xD,if_neg h',if_neg g']
 simp -implicitDefEqProofs only [yY,↓zb,push_cast,simprocAttr,tte]
 exact zF trivial (by rw [<-hr,hv];rfl) (by simp [ends])
end
section
open Go.Am
attribute [local simp, local push_cast] num boo str ints aV aTab yC aS aT aC jL yY vT
def aFk (f:Fk):A:= .agg [.d (.sl 1 (zg rI f.columns)),.d (.lit (.string f.table))]
attribute [local simp, local push_cast] aFk
end
section
open Go.Am
attribute [local simp, local push_cast] num boo str ints aV aTab yC aS aT aC jL yY aFk vT
end
section
open Go.Am
attribute [local simp, local push_cast] num boo str ints aV aTab yC aS aT aC jL yY aFk vT
theorem lookO_m700 {ms:List (Option (List Int))} {k:Nat} (h:k<700):lookO (mapsL 700 ms) k=none:=lookO_maps_lt ms h
attribute [local simp, local push_cast] lookO_m700
end
section
open Go.Am
attribute [local simp, local push_cast] num boo str ints aV aTab yC aS aT aC jL yY aFk vT
structure SmallS (s:Sch):Prop where
 len:s.length<=1000
 tab: ∀t∈s,SmallT t
theorem ferr_zero {α:Type} {f:α->Int}: ∀{l:List α},ferr f l=0-> ∀x∈l,f x=0
 | [],_,x,hx=>by simp at hx
 | y::l,h,x,hx=>by
   simp only [ferr] at h
   split at h
   ·rename_i h0
    rcases List.mem_cons.1 hx with rfl | hx
    ·exact h0
    ·exact ferr_zero h x hx
   ·rename_i h0;exact absurd h h0
theorem mem_getD {α:Type} [Inhabited α] {l:List α} {x:α} (h:x∈l): ∃i,i<l.length/\l.getD i default=x:=by
 obtain ⟨i,hi,rfl⟩:=List.getElem_of_mem h
 exact ⟨i,hi,by rw [List.getD_eq_getElem?_getD,List.getElem?_eq_getElem hi];rfl⟩
end
end Go.Proofs.YtiagabnddihchaaGreatDoor
