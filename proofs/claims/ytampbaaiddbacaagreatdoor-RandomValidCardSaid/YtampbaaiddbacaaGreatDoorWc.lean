/- What random makes of a tape is valid, of its types, and not too large: a proof over an abstract machine of our own (part Wc) -/
import Derived.Test.YtampbaaiddbacaaGreatDoorWa
import Derived.Test.YtampbaaiddbacaaGreatDoorWb
import Derived.Test.YtampbaaiddbacaaGreatDoorLd
set_option maxRecDepth 100000
set_option maxHeartbeats 4000000
set_option linter.all false
namespace Go.Proofs.YtampbaaiddbacaaGreatDoor
section
open Go.Am
attribute [local simp, local push_cast] num boo str ints aV aTab zA aS aT aC
theorem zu {p:Prop} {k n:Int} {s:ByteArray} {t:List (Nat×A)} {o:List (Nat×Ob)} {R:A} (hp:p) (hr:aV ⟨k,n,s⟩=R) (ho:keepIn (inO []) o):
 retx (some (p,.agg [.d (.lit (.int .i64 k)),.d (.lit (.int .i64 n)),.d (.lit (.string s))])) ⟨t,o⟩ R []:=by
 subst hr
 exact zr [0,0,0] rfl hp (by simp) rfl rfl trivial ho
theorem tabN:Tab.tab 3=some [.lit (.int .i64 0),.lit (.int .i64 0),.lit (.string ByteArray.empty)]:=rfl
def zq:Val:=⟨0,0,ByteArray.empty⟩
def zU (n:Int):Val:=if n≠0/\n≠1 then zq else ⟨2,n,ByteArray.empty⟩
def ofV (b:Bool):Val:=⟨2,if b then 1 else 0,ByteArray.empty⟩
def zP (v:Val):Int:=if v.kind≠2 then 2 else if v.num=1 then 1 else 0
theorem v8 (n:Int):ACall Tryz.prog 222 [num n] [] (aV (zU n)) []:=by
 refine zp mixed ttok Tryz.func222 Tryz.ntmps222 Tryz.results222 ?_
 generalize hr:aV (zU n)=R
 simp -implicitDefEqProofs only [argT,tabN,↓zb,push_cast,simprocAttr,tte]
 refine za (fun h1=>?_) fun h1=>?_
 ·refine za (fun h2=>?_) fun h2=>?_
  ·exact zu (by first | trivial | (simp;done) | (simp;omega)) (by rw [<-hr]<;>first | rfl | (simp [zU,zq];done) | (simp_all [zU,zq];done)) (by simp [ends])
  ·exact zu (by first | trivial | (simp;done) | (simp;omega)) (by rw [<-hr]<;>first | rfl | (simp [zU,zq];done) | (simp_all [zU,zq];done)) (by simp [ends])
 ·exact zu (by first | trivial | (simp;done) | (simp;omega)) (by rw [<-hr]<;>first | rfl | (simp [zU,zq];done) | (simp_all [zU,zq];done)) (by simp [ends])
theorem wX (n:Int):ACall Tryz.prog 200 [num n] [] (aV (zU n)) []:=by
 refine zp mixed ttok Tryz.func200 Tryz.ntmps200 Tryz.results200 ?_
 generalize hr:aV (zU n)=R
 simp -implicitDefEqProofs only [argT,tabN,↓zb,push_cast,simprocAttr,tte]
 refine za (fun h1=>?_) fun h1=>?_
 ·refine za (fun h2=>?_) fun h2=>?_
  ·exact zu (by first | trivial | (simp;done) | (simp;omega)) (by rw [<-hr]<;>first | rfl | (simp [zU,zq];done) | (simp_all [zU,zq];done)) (by simp [ends])
  ·exact zu (by first | trivial | (simp;done) | (simp;omega)) (by rw [<-hr]<;>first | rfl | (simp [zU,zq];done) | (simp_all [zU,zq];done)) (by simp [ends])
 ·exact zu (by first | trivial | (simp;done) | (simp;omega)) (by rw [<-hr]<;>first | rfl | (simp [zU,zq];done) | (simp_all [zU,zq];done)) (by simp [ends])
theorem c_truth (b:Bool):ACall Tryz.prog 230 [boo b] [] (aV (ofV b)) []:=by
 refine zp mixed ttok Tryz.func230 Tryz.ntmps230 Tryz.results230 ?_
 generalize hr:aV (ofV b)=R
 simp -implicitDefEqProofs only [argT,↓zb,push_cast,simprocAttr,tte]
 refine za (fun h1=>?_) fun h1=>?_
 ·refine zd [[0]] [] (v8 1) ?_
  simp -implicitDefEqProofs only [aV,↓zb,push_cast,simprocAttr,tte]
  exact zu (by first | trivial | (simp;done) | (simp;omega)) (by rw [<-hr]<;>first | rfl | (simp [ofV,zU];done) | (simp_all [ofV,zU];done)) (by simp [ends])
 ·refine zd [[0]] [] (v8 0) ?_
  simp -implicitDefEqProofs only [aV,↓zb,push_cast,simprocAttr,tte]
  exact zu (by first | trivial | (simp;done) | (simp;omega)) (by rw [<-hr]<;>first | rfl | (simp [ofV,zU];done) | (simp_all [ofV,zU];done)) (by simp [ends])
theorem c_etruth (b:Bool):ACall Tryz.prog 218 [boo b] [] (aV (ofV b)) []:=by
 refine zp mixed ttok Tryz.func218 Tryz.ntmps218 Tryz.results218 ?_
 generalize hr:aV (ofV b)=R
 simp -implicitDefEqProofs only [argT,↓zb,push_cast,simprocAttr,tte]
 refine za (fun h1=>?_) fun h1=>?_
 ·refine zd [[0]] [] (v8 1) ?_
  simp -implicitDefEqProofs only [aV,↓zb,push_cast,simprocAttr,tte]
  exact zu (by first | trivial | (simp;done) | (simp;omega)) (by rw [<-hr]<;>first | rfl | (simp [ofV,zU];done) | (simp_all [ofV,zU];done)) (by simp [ends])
 ·refine zd [[0]] [] (v8 0) ?_
  simp -implicitDefEqProofs only [aV,↓zb,push_cast,simprocAttr,tte]
  exact zu (by first | trivial | (simp;done) | (simp;omega)) (by rw [<-hr]<;>first | rfl | (simp [ofV,zU];done) | (simp_all [ofV,zU];done)) (by simp [ends])
theorem c_of (b:Bool):ACall Tryz.prog 176 [boo b] [] (aV (ofV b)) []:=by
 refine zp mixed ttok Tryz.func176 Tryz.ntmps176 Tryz.results176 ?_
 generalize hr:aV (ofV b)=R
 simp -implicitDefEqProofs only [argT,↓zb,push_cast,simprocAttr,tte]
 refine za (fun h1=>?_) fun h1=>?_
 ·refine zd [[0]] [] (wX 1) ?_
  simp -implicitDefEqProofs only [aV,↓zb,push_cast,simprocAttr,tte]
  exact zu (by first | trivial | (simp;done) | (simp;omega)) (by rw [<-hr]<;>first | rfl | (simp [ofV,zU];done) | (simp_all [ofV,zU];done)) (by simp [ends])
 ·refine zd [[0]] [] (wX 0) ?_
  simp -implicitDefEqProofs only [aV,↓zb,push_cast,simprocAttr,tte]
  exact zu (by first | trivial | (simp;done) | (simp;omega)) (by rw [<-hr]<;>first | rfl | (simp [ofV,zU];done) | (simp_all [ofV,zU];done)) (by simp [ends])
theorem uv (v:Val):ACall Tryz.prog 170 [aV v] [] (num (zP v)) []:=by
 refine zp mixed ttok Tryz.func170 Tryz.ntmps170 Tryz.results170 ?_
 generalize hr:num (zP v)=R
 simp -implicitDefEqProofs only [argT,↓zb,push_cast,simprocAttr,tte]
 refine za (fun h1=>?_) fun h1=>?_
 ·exact zk trivial (by rw [<-hr];simp at h1;simp [zP,h1,num]) (by simp [ends])
 refine za (fun h2=>?_) fun h2=>?_
 ·exact zk trivial (by rw [<-hr];simp at h1 h2;simp [zP,h1,h2,num]) (by simp [ends])
 ·exact zk trivial (by rw [<-hr];simp at h1 h2;simp [zP,h1,h2,num]) (by simp [ends])
theorem vp (v:Val):ACall Tryz.prog 132 [aV v] [] (num (zP v)) []:=by
 refine zp mixed ttok Tryz.func132 Tryz.ntmps132 Tryz.results132 ?_
 generalize hr:num (zP v)=R
 simp -implicitDefEqProofs only [argT,↓zb,push_cast,simprocAttr,tte]
 refine za (fun h1=>?_) fun h1=>?_
 ·exact zk trivial (by rw [<-hr];simp at h1;simp [zP,h1,num]) (by simp [ends])
 refine za (fun h2=>?_) fun h2=>?_
 ·exact zk trivial (by rw [<-hr];simp at h1 h2;simp [zP,h1,h2,num]) (by simp [ends])
 ·exact zk trivial (by rw [<-hr];simp at h1 h2;simp [zP,h1,h2,num]) (by simp [ends])
def notM (v:Val):Val:=if zP v=2 then zq else ofV (zP v==0)
theorem c_not (v:Val):ACall Tryz.prog 216 [aV v] [] (aV (notM v)) []:=by
 refine zp mixed ttok Tryz.func216 Tryz.ntmps216 Tryz.results216 ?_
 generalize hr:aV (notM v)=R
 simp -implicitDefEqProofs only [argT,tabN,↓zb,push_cast,simprocAttr,tte]
 refine zd [[0,0,0]] [] (uv v) ?_
 have ht:zP v=0\/zP v=1\/zP v=2:=by unfold zP;split<;>(try split)<;>simp
 simp -implicitDefEqProofs only [tabN,↓zb,push_cast,simprocAttr,tte]
 unfold notM at hr
 generalize zP v=x at ht hr
 refine za (fun h1=>?_) fun h1=>?_
 ·have hw:IntKind.i64.wrap (1-x)=1-x:=zJ (by omega) (by omega)
  simp only [hw]
  refine zd [[0]] [] (v8 (1-x)) ?_
  simp -implicitDefEqProofs only [aV,↓zb,push_cast,simprocAttr,tte]
  rcases ht with rfl | rfl | rfl
  ·exact zu (by first | trivial | (simp;done) | (simp;omega)) (by rw [<-hr]<;>first | rfl | (simp [ofV,zU];done) | (simp_all [ofV,zU];done)) (by simp [ends])
  ·exact zu (by first | trivial | (simp;done) | (simp;omega)) (by rw [<-hr]<;>first | rfl | (simp [ofV,zU];done) | (simp_all [ofV,zU];done)) (by simp [ends])
  ·simp at h1
 ·have hx:x=2:=by simpa using h1
  subst hx
  exact zu (by first | trivial | (simp;done) | (simp;omega)) (by rw [<-hr]<;>first | rfl | (simp [zq];done) | (simp_all [zq];done)) (by simp [ends])
theorem c_rnot (v:Val):ACall Tryz.prog 174 [aV v] [] (aV (notM v)) []:=by
 refine zp mixed ttok Tryz.func174 Tryz.ntmps174 Tryz.results174 ?_
 generalize hr:aV (notM v)=R
 simp -implicitDefEqProofs only [argT,tabN,↓zb,push_cast,simprocAttr,tte]
 refine zd [[0,0,0]] [] (vp v) ?_
 have ht:zP v=0\/zP v=1\/zP v=2:=by unfold zP;split<;>(try split)<;>simp
 simp -implicitDefEqProofs only [↓zb,push_cast,simprocAttr,tte]
 unfold notM at hr
 generalize zP v=x at ht hr
 refine za (fun h1=>?_) fun h1=>?_
 ·refine zd [[0]] [] (wX 1) ?_
  have hx:x=0:=by simpa using h1
  subst hx
  simp -implicitDefEqProofs only [aV,↓zb,push_cast,simprocAttr,tte]
  exact zu (by first | trivial | (simp;done) | (simp;omega)) (by rw [<-hr]<;>first | rfl | (simp [ofV,zU];done) | (simp_all [ofV,zU];done)) (by simp [ends])
 refine za (fun h2=>?_) fun h2=>?_
 ·refine zd [[0]] [] (wX 0) ?_
  have hx:x=1:=by simpa using h2
  subst hx
  simp -implicitDefEqProofs only [aV,↓zb,push_cast,simprocAttr,tte]
  exact zu (by first | trivial | (simp;done) | (simp;omega)) (by rw [<-hr]<;>first | rfl | (simp [ofV,zU];done) | (simp_all [ofV,zU];done)) (by simp [ends])
 ·have hx:x=2:=by simp at h1 h2;omega
  subst hx
  exact zu (by first | trivial | (simp;done) | (simp;omega)) (by rw [<-hr]<;>first | rfl | (simp [zq];done) | (simp_all [zq];done)) (by simp [ends])
end
section
open Go.Am
attribute [local simp, local push_cast] num boo str ints aV aTab zA aS aT aC
def andM (a b:Val):Val:=if zP a=0\/zP b=0 then ofV false else if zP a=2\/zP b=2 then zq else ofV true
def orM (a b:Val):Val:=if zP a=1\/zP b=1 then ofV true else if zP a=2\/zP b=2 then zq else ofV false
theorem c_and (a b:Val):ACall Tryz.prog 220 [aV a,aV b] [] (aV (andM a b)) []:=by
 refine zp mixed ttok Tryz.func220 Tryz.ntmps220 Tryz.results220 ?_
 generalize hr:aV (andM a b)=R
 simp -implicitDefEqProofs only [argT,tabN,↓zb,push_cast,simprocAttr,tte]
 refine zd [[0,0,0]] [] (uv a) ?_
 simp -implicitDefEqProofs only [tabN,↓zb,push_cast,simprocAttr,tte]
 refine zd [[0,0,0]] [] (uv b) ?_
 simp -implicitDefEqProofs only [tabN,↓zb,push_cast,simprocAttr,tte]
 refine ⟨zg (by kernel_rfl),?_⟩
 unfold andM at hr
 generalize zP a=x at hr
 generalize zP b=y at hr
 refine za (fun h1=>?_) fun h1=>?_
 ·refine zd [[0]] [] (v8 0) ?_
  simp -implicitDefEqProofs only [aV,↓zb,push_cast,simprocAttr,tte]
  exact zu (by first | trivial | (simp;done) | (simp;omega)) (by rw [<-hr]<;>first | rfl | (simp [ofV,zU];done) | (simp_all [ofV,zU];done)) (by simp [ends])
 refine za (fun h2=>?_) fun h2=>?_
 ·refine zd [[0]] [] (v8 0) ?_
  simp -implicitDefEqProofs only [aV,↓zb,push_cast,simprocAttr,tte]
  exact zu (by first | trivial | (simp;done) | (simp;omega)) (by rw [<-hr]<;>first | rfl | (simp [ofV,zU];done) | (simp_all [ofV,zU];done)) (by simp [ends])
 refine za (fun h3=>?_) fun h3=>?_
 ·exact zu (by first | trivial | (simp;done) | (simp;omega)) (by rw [<-hr]<;>first | rfl | (simp [zq];done) | (simp_all [zq];done)) (by simp [ends])
 refine za (fun h4=>?_) fun h4=>?_
 ·exact zu (by first | trivial | (simp;done) | (simp;omega)) (by rw [<-hr]<;>first | rfl | (simp [zq];done) | (simp_all [zq];done)) (by simp [ends])
 ·refine zd [[0]] [] (v8 1) ?_
  simp -implicitDefEqProofs only [aV,↓zb,push_cast,simprocAttr,tte]
  exact zu (by first | trivial | (simp;done) | (simp;omega)) (by rw [<-hr]<;>first | rfl | (simp [ofV,zU];done) | (simp_all [ofV,zU];done)) (by simp [ends])
theorem c_or2 (a b:Val):ACall Tryz.prog 221 [aV a,aV b] [] (aV (orM a b)) []:=by
 refine zp mixed ttok Tryz.func221 Tryz.ntmps221 Tryz.results221 ?_
 generalize hr:aV (orM a b)=R
 simp -implicitDefEqProofs only [argT,tabN,↓zb,push_cast,simprocAttr,tte]
 refine zd [[0,0,0]] [] (uv a) ?_
 simp -implicitDefEqProofs only [tabN,↓zb,push_cast,simprocAttr,tte]
 refine zd [[0,0,0]] [] (uv b) ?_
 simp -implicitDefEqProofs only [tabN,↓zb,push_cast,simprocAttr,tte]
 refine ⟨zg (by kernel_rfl),?_⟩
 unfold orM at hr
 generalize zP a=x at hr
 generalize zP b=y at hr
 refine za (fun h1=>?_) fun h1=>?_
 ·refine zd [[0]] [] (v8 1) ?_
  simp -implicitDefEqProofs only [aV,↓zb,push_cast,simprocAttr,tte]
  exact zu (by first | trivial | (simp;done) | (simp;omega)) (by rw [<-hr]<;>first | rfl | (simp [ofV,zU];done) | (simp_all [ofV,zU];done)) (by simp [ends])
 refine za (fun h2=>?_) fun h2=>?_
 ·refine zd [[0]] [] (v8 1) ?_
  simp -implicitDefEqProofs only [aV,↓zb,push_cast,simprocAttr,tte]
  exact zu (by first | trivial | (simp;done) | (simp;omega)) (by rw [<-hr]<;>first | rfl | (simp [ofV,zU];done) | (simp_all [ofV,zU];done)) (by simp [ends])
 refine za (fun h3=>?_) fun h3=>?_
 ·exact zu (by first | trivial | (simp;done) | (simp;omega)) (by rw [<-hr]<;>first | rfl | (simp [zq];done) | (simp_all [zq];done)) (by simp [ends])
 refine za (fun h4=>?_) fun h4=>?_
 ·exact zu (by first | trivial | (simp;done) | (simp;omega)) (by rw [<-hr]<;>first | rfl | (simp [zq];done) | (simp_all [zq];done)) (by simp [ends])
 ·refine zd [[0]] [] (v8 0) ?_
  simp -implicitDefEqProofs only [aV,↓zb,push_cast,simprocAttr,tte]
  exact zu (by first | trivial | (simp;done) | (simp;omega)) (by rw [<-hr]<;>first | rfl | (simp [ofV,zU];done) | (simp_all [ofV,zU];done)) (by simp [ends])
theorem c_rand (a b:Val):ACall Tryz.prog 178 [aV a,aV b] [] (aV (andM a b)) []:=by
 refine zp mixed ttok Tryz.func178 Tryz.ntmps178 Tryz.results178 ?_
 generalize hr:aV (andM a b)=R
 simp -implicitDefEqProofs only [argT,tabN,↓zb,push_cast,simprocAttr,tte]
 refine zd [[0,0,0]] [] (vp a) ?_
 simp -implicitDefEqProofs only [↓zb,push_cast,simprocAttr,tte]
 refine zd [[0,0,0]] [] (vp b) ?_
 simp -implicitDefEqProofs only [↓zb,push_cast,simprocAttr,tte]
 refine ⟨zg (by kernel_rfl),?_⟩
 unfold andM at hr
 generalize zP a=x at hr
 generalize zP b=y at hr
 refine za (fun h1=>?_) fun h1=>?_
 ·refine zd [[0]] [] (wX 0) ?_
  simp -implicitDefEqProofs only [aV,↓zb,push_cast,simprocAttr,tte]
  exact zu (by first | trivial | (simp;done) | (simp;omega)) (by rw [<-hr]<;>first | rfl | (simp [ofV,zU];done) | (simp_all [ofV,zU];done)) (by simp [ends])
 refine za (fun h2=>?_) fun h2=>?_
 ·refine zd [[0]] [] (wX 0) ?_
  simp -implicitDefEqProofs only [aV,↓zb,push_cast,simprocAttr,tte]
  exact zu (by first | trivial | (simp;done) | (simp;omega)) (by rw [<-hr]<;>first | rfl | (simp [ofV,zU];done) | (simp_all [ofV,zU];done)) (by simp [ends])
 refine za (fun h3=>?_) fun h3=>?_
 ·exact zu (by first | trivial | (simp;done) | (simp;omega)) (by rw [<-hr]<;>first | rfl | (simp [zq];done) | (simp_all [zq];done)) (by simp [ends])
 refine za (fun h4=>?_) fun h4=>?_
 ·exact zu (by first | trivial | (simp;done) | (simp;omega)) (by rw [<-hr]<;>first | rfl | (simp [zq];done) | (simp_all [zq];done)) (by simp [ends])
 ·refine zd [[0]] [] (wX 1) ?_
  simp -implicitDefEqProofs only [aV,↓zb,push_cast,simprocAttr,tte]
  exact zu (by first | trivial | (simp;done) | (simp;omega)) (by rw [<-hr]<;>first | rfl | (simp [ofV,zU];done) | (simp_all [ofV,zU];done)) (by simp [ends])
theorem c_ror (a b:Val):ACall Tryz.prog 179 [aV a,aV b] [] (aV (orM a b)) []:=by
 refine zp mixed ttok Tryz.func179 Tryz.ntmps179 Tryz.results179 ?_
 generalize hr:aV (orM a b)=R
 simp -implicitDefEqProofs only [argT,tabN,↓zb,push_cast,simprocAttr,tte]
 refine zd [[0,0,0]] [] (vp a) ?_
 simp -implicitDefEqProofs only [↓zb,push_cast,simprocAttr,tte]
 refine zd [[0,0,0]] [] (vp b) ?_
 simp -implicitDefEqProofs only [↓zb,push_cast,simprocAttr,tte]
 refine ⟨zg (by kernel_rfl),?_⟩
 unfold orM at hr
 generalize zP a=x at hr
 generalize zP b=y at hr
 refine za (fun h1=>?_) fun h1=>?_
 ·refine zd [[0]] [] (wX 1) ?_
  simp -implicitDefEqProofs only [aV,↓zb,push_cast,simprocAttr,tte]
  exact zu (by first | trivial | (simp;done) | (simp;omega)) (by rw [<-hr]<;>first | rfl | (simp [ofV,zU];done) | (simp_all [ofV,zU];done)) (by simp [ends])
 refine za (fun h2=>?_) fun h2=>?_
 ·refine zd [[0]] [] (wX 1) ?_
  simp -implicitDefEqProofs only [aV,↓zb,push_cast,simprocAttr,tte]
  exact zu (by first | trivial | (simp;done) | (simp;omega)) (by rw [<-hr]<;>first | rfl | (simp [ofV,zU];done) | (simp_all [ofV,zU];done)) (by simp [ends])
 refine za (fun h3=>?_) fun h3=>?_
 ·exact zu (by first | trivial | (simp;done) | (simp;omega)) (by rw [<-hr]<;>first | rfl | (simp [zq];done) | (simp_all [zq];done)) (by simp [ends])
 refine za (fun h4=>?_) fun h4=>?_
 ·exact zu (by first | trivial | (simp;done) | (simp;omega)) (by rw [<-hr]<;>first | rfl | (simp [zq];done) | (simp_all [zq];done)) (by simp [ends])
 ·refine zd [[0]] [] (wX 0) ?_
  simp -implicitDefEqProofs only [aV,↓zb,push_cast,simprocAttr,tte]
  exact zu (by first | trivial | (simp;done) | (simp;omega)) (by rw [<-hr]<;>first | rfl | (simp [ofV,zU];done) | (simp_all [ofV,zU];done)) (by simp [ends])
def cmpI (x y:Int):Int:=if x<y then -1 else if x>y then 1 else 0
def cmpS (x y:ByteArray):Int:=if Op.bytesLess x.toList y.toList then -1 else if x.toList=y.toList then 0 else 1
def cmpM (a b:Val):Int:=if cmpI a.kind b.kind≠0 then cmpI a.kind b.kind else if cmpI a.num b.num≠0 then cmpI a.num b.num else cmpS a.text b.text
theorem c_isNaN (x:Int):ACall Tryz.prog 242 [num x] [] (boo false) []:=by
 refine zp mixed ttok Tryz.func242 Tryz.ntmps242 Tryz.results242 ?_
 generalize hr:boo false=R
 simp -implicitDefEqProofs only [argT,↓zb,push_cast,simprocAttr,tte]
 exact zk trivial (by rw [<-hr];rfl) (by simp [ends])
theorem c_isNaN64 (x:Int):ACall Tryz.prog 243 [num x] [] (boo false) []:=by
 refine zp mixed ttok Tryz.func243 Tryz.ntmps243 Tryz.results243 ?_
 generalize hr:boo false=R
 simp -implicitDefEqProofs only [argT,↓zb,push_cast,simprocAttr,tte]
 exact zk trivial (by rw [<-hr];rfl) (by simp [ends])
theorem c_isNaNs (x:ByteArray):ACall Tryz.prog 244 [str x] [] (boo false) []:=by
 refine zp mixed ttok Tryz.func244 Tryz.ntmps244 Tryz.results244 ?_
 generalize hr:boo false=R
 simp -implicitDefEqProofs only [argT,↓zb,push_cast,simprocAttr,tte]
 exact zk trivial (by rw [<-hr];simp [boo]) (by simp [ends])
theorem c_cmpI (x y:Int):ACall Tryz.prog 235 [num x,num y] [] (num (cmpI x y)) []:=by
 refine zp mixed ttok Tryz.func235 Tryz.ntmps235 Tryz.results235 ?_
 generalize hr:num (cmpI x y)=R
 simp -implicitDefEqProofs only [argT,↓zb,push_cast,simprocAttr,tte]
 refine zd [[0]] [] (c_isNaN x) ?_
 simp -implicitDefEqProofs only [↓zb,push_cast,simprocAttr,tte]
 refine zd [[0]] [] (c_isNaN y) ?_
 simp -implicitDefEqProofs only [↓zb,push_cast,simprocAttr,tte]
 unfold cmpI at hr
 refine za (fun h1=>?_) fun h1=>?_
 ·exact zk trivial (by rw [<-hr];simp_all [num]) (by simp [ends])
 refine za (fun h2=>?_) fun h2=>?_
 ·exact zk trivial (by rw [<-hr];simp at h1 h2;rw [if_neg (by omega),if_pos (by omega)];rfl) (by simp [ends])
 ·exact zk trivial (by rw [<-hr];simp at h1 h2;rw [if_neg (by omega),if_neg (by omega)];rfl) (by simp [ends])
theorem c_cmpI64 (x y:Int):ACall Tryz.prog 236 [num x,num y] [] (num (cmpI x y)) []:=by
 refine zp mixed ttok Tryz.func236 Tryz.ntmps236 Tryz.results236 ?_
 generalize hr:num (cmpI x y)=R
 simp -implicitDefEqProofs only [argT,↓zb,push_cast,simprocAttr,tte]
 refine zd [[0]] [] (c_isNaN64 x) ?_
 simp -implicitDefEqProofs only [↓zb,push_cast,simprocAttr,tte]
 refine zd [[0]] [] (c_isNaN64 y) ?_
 simp -implicitDefEqProofs only [↓zb,push_cast,simprocAttr,tte]
 unfold cmpI at hr
 refine za (fun h1=>?_) fun h1=>?_
 ·exact zk trivial (by rw [<-hr];simp_all [num]) (by simp [ends])
 refine za (fun h2=>?_) fun h2=>?_
 ·exact zk trivial (by rw [<-hr];simp at h1 h2;rw [if_neg (by omega),if_pos (by omega)];rfl) (by simp [ends])
 ·exact zk trivial (by rw [<-hr];simp at h1 h2;rw [if_neg (by omega),if_neg (by omega)];rfl) (by simp [ends])
theorem c_cmpS (x y:ByteArray):ACall Tryz.prog 237 [str x,str y] [] (num (cmpS x y)) []:=by
 refine zp mixed ttok Tryz.func237 Tryz.ntmps237 Tryz.results237 ?_
 generalize hr:num (cmpS x y)=R
 simp -implicitDefEqProofs only [argT,↓zb,push_cast,simprocAttr,tte]
 refine zd [[0]] [] (c_isNaNs x) ?_
 simp -implicitDefEqProofs only [↓zb,push_cast,simprocAttr,tte]
 refine zd [[0]] [] (c_isNaNs y) ?_
 simp -implicitDefEqProofs only [↓zb,push_cast,simprocAttr,tte]
 unfold cmpS at hr
 refine za (fun h1=>?_) fun h1=>?_
 ·exact zk trivial (by rw [<-hr];simp_all [num]) (by simp [ends])
 refine za (fun h2=>?_) fun h2=>?_
 ·exact zk trivial (by rw [<-hr];rw [h1];simp [h1] at h2;simp [h2,num]) (by simp [ends])
 ·exact zk trivial (by rw [<-hr];rw [h1];simp [h1] at h2;simp [h2,num]) (by simp [ends])
def jL:List Int->Int
 | []=>0
 | x::l=>if x≠0 then x else jL l
theorem c_cor (l:List Int) (hl:l.length<=1000):ACall Tryz.prog 234 [ints l] [] (num (jL l)) []:=by
 refine zp mixed ttok Tryz.func234 Tryz.ntmps234 Tryz.results234 ?_
 generalize hr:num (jL l)=R
 simp -implicitDefEqProofs only [argT,↓zb,push_cast,simprocAttr,tte]
 refine zn mixed ttok 8 [3,6,7] [] (by simp only [z6,ends,push_cast,simprocAttr];rfl) (by simp only [zB,zo,ends,push_cast,simprocAttr];rfl) l.length (fun n=>jL (l.drop n)=jL l) (fun _=>[]) (fun _=>[]) rfl ?_ ?_
 ·exact Weak.keepL (by simp [cst,ends]) (by simp [cst,ends]) (by simp [cst,ends])
 intro I hI n hn hi
 simp -implicitDefEqProofs only [cst,↓zb,push_cast,simprocAttr,tte]
 refine za (fun h=>?_) fun h=>?_
 ·simp only [decide_eq_true_eq] at h
  have h':n<l.length:=by omega
  have hw:=zj h' (by omega)
  rw [zR _ n h',jL] at hi
  refine ⟨(by first | omega | trivial | (refine ⟨?_,?_⟩<;>first | omega | trivial | (refine ⟨?_,?_⟩<;>first | omega | trivial | (refine ⟨?_,?_⟩<;>first | omega | trivial | rfl)))),?_⟩
  refine za (fun h2=>?_) fun h2=>?_
  ·exact zk trivial (by rw [<-hr,<-hi,if_pos (by simpa using h2)];rfl) (by simp [ends])
  ·rw [if_neg (by simpa using h2)] at hi
   exact zl hI n rfl h' hi (by simp [hw,ends]) (by simp [hw,ends]) (by simp [hw,ends]) (by simp [hw,ends])
 ·have hn':n=l.length:=by simp at h;omega
  subst hn'
  rw [List.drop_length] at hi
  exact zk trivial (by rw [<-hr,<-hi];rfl) (by simp [ends])
theorem c_compare (a b:Val):ACall Tryz.prog 231 [aV a,aV b] [] (num (cmpM a b)) []:=by
 refine zp mixed ttok Tryz.func231 Tryz.ntmps231 Tryz.results231 ?_
 generalize hr:num (cmpM a b)=R
 simp -implicitDefEqProofs only [argT,↓zb,push_cast,simprocAttr,tte]
 refine zd [[0],[0]] [] (c_cmpI a.kind b.kind) ?_
 simp -implicitDefEqProofs only [↓zb,push_cast,simprocAttr,tte]
 refine zd [[0],[0]] [] (c_cmpI64 a.num b.num) ?_
 simp -implicitDefEqProofs only [↓zb,push_cast,simprocAttr,tte]
 refine zd [[0],[0]] [] (c_cmpS a.text b.text) ?_
 simp -implicitDefEqProofs only [↓zb,push_cast,simprocAttr,tte]
 refine zd [[1]] [] (c_cor [cmpI a.kind b.kind,cmpI a.num b.num,cmpS a.text b.text] (by simp)) ?_
 simp -implicitDefEqProofs only [↓zb,push_cast,simprocAttr,tte]
 refine ⟨zg (by kernel_rfl),?_⟩
 have he:jL [cmpI a.kind b.kind,cmpI a.num b.num,cmpS a.text b.text]=cmpM a b:=by
  simp only [jL,cmpM]
  repeat' split
  all_goals simp_all
 rw [he]
 exact zk trivial (by rw [<-hr];rfl) (by simp [ends])
end
section
open Go.Am
attribute [local simp, local push_cast] num boo str ints aV aTab zA aS aT aC
theorem bl_eq: ∀(x y:List UInt8),Op.bytesLess x y=decide (x<y)
 | [],[]=>by simp [Op.bytesLess]
 | _::_,[]=>by simp [Op.bytesLess]
 | [],_::_=>by simp [Op.bytesLess]
 | a::x,b::y=>by
   rw [Op.bytesLess,bl_eq x y]
   simp only [List.cons_lt_cons_iff]
   by_cases h1:a<b<;>by_cases h2:a=b<;>by_cases h3:x<y<;>simp [h1,h2,h3]
def wE (a b:Val):Bool:=(a.kind==b.kind&&a.num==b.num)&&(a.text.toList==b.text.toList)
theorem kE (x y:Int):cmpI x y=0 ↔ x=y:=by unfold cmpI;split<;>(try split)<;>omega
theorem cmpS_zero (x y:ByteArray):cmpS x y=0 ↔ x.toList=y.toList:=by
 unfold cmpS
 split
 ·rename_i h
  refine ⟨fun h=>absurd h (by decide),fun e=>?_⟩
  rw [e] at h
  exact absurd h (by rw [bl_eq,decide_eq_true_eq];exact List.lt_irrefl _)
 ·split
  ·rename_i h;simp [h]
  ·rename_i h;simp [h]
theorem cmpM_zero (a b:Val):(cmpM a b==0)=wE a b:=by
 unfold cmpM wE
 rw [Bool.eq_iff_iff]
 simp only [beq_iff_eq,Bool.and_eq_true]
 by_cases h1:cmpI a.kind b.kind=0
 ·rw [if_neg (by simpa using h1)]
  have h1':=(kE _ _).1 h1
  by_cases h2:cmpI a.num b.num=0
  ·rw [if_neg (by simpa using h2),cmpS_zero]
   simp [h1',(kE _ _).1 h2]
  ·rw [if_pos h2]
   simp [h1',h2,mt (kE _ _).2 h2]
 ·rw [if_pos h1]
  simp [h1,mt (kE _ _).2 h1]
theorem qp (a b:Val):ACall Tryz.prog 109 [aV a,aV b] [] (num (cmpM a b)) []:=by
 refine zp mixed ttok Tryz.func109 Tryz.ntmps109 Tryz.results109 ?_
 generalize hr:num (cmpM a b)=R
 simp -implicitDefEqProofs only [argT,↓zb,push_cast,simprocAttr,tte]
 unfold cmpM cmpI cmpS at hr
 refine za (fun h1=>?_) fun h1=>?_
 ·simp at h1
  exact zk trivial (by rw [<-hr,if_pos (by rw [if_pos h1];decide),if_pos h1];rfl) (by simp [ends])
 refine za (fun h2=>?_) fun h2=>?_
 ·simp at h1 h2
  exact zk trivial (by rw [<-hr,if_pos (by rw [if_neg (by omega),if_pos (by omega)];decide),if_neg (by omega),if_pos (by omega)];rfl) (by simp [ends])
 simp at h1 h2
 rw [if_neg (by rw [if_neg (by omega),if_neg (by omega)];decide)] at hr
 refine za (fun h3=>?_) fun h3=>?_
 ·simp at h3
  exact zk trivial (by rw [<-hr,if_pos (by rw [if_pos h3];decide),if_pos h3];rfl) (by simp [ends])
 refine za (fun h4=>?_) fun h4=>?_
 ·simp at h3 h4
  exact zk trivial (by rw [<-hr,if_pos (by rw [if_neg (by omega),if_pos (by omega)];decide),if_neg (by omega),if_pos (by omega)];rfl) (by simp [ends])
 simp at h3 h4
 rw [if_neg (by rw [if_neg (by omega),if_neg (by omega)];decide)] at hr
 refine za (fun h5=>?_) fun h5=>?_
 ·exact zk trivial (by rw [<-hr,if_pos h5];rfl) (by simp [ends])
 rw [h5] at hr ⊢
 refine za (fun h6=>?_) fun h6=>?_
 ·simp at h6
  exact zk trivial (by rw [<-hr];simp [h6,num]) (by simp [ends])
 ·simp at h6
  exact zk trivial (by rw [<-hr];simp [h6,num]) (by simp [ends])
theorem c_same (a b:Val):ACall Tryz.prog 219 [aV a,aV b] [] (boo (wE a b)) []:=by
 refine zp mixed ttok Tryz.func219 Tryz.ntmps219 Tryz.results219 ?_
 generalize hr:boo (wE a b)=R
 simp -implicitDefEqProofs only [argT,↓zb,push_cast,simprocAttr,tte]
 exact zk trivial (by rw [<-hr];simp [wE,boo,Bool.and_assoc]) (by simp [ends])
theorem c_rsame (a b:Val):ACall Tryz.prog 177 [aV a,aV b] [] (boo (wE a b)) []:=by
 refine zp mixed ttok Tryz.func177 Tryz.ntmps177 Tryz.results177 ?_
 generalize hr:boo (wE a b)=R
 simp -implicitDefEqProofs only [argT,↓zb,push_cast,simprocAttr,tte]
 refine zd [[0,0,0],[0,0,0]] [] (qp a b) ?_
 simp -implicitDefEqProofs only [↓zb,push_cast,simprocAttr,tte]
 exact zk trivial (by rw [<-hr,<-cmpM_zero];rfl) (by simp [ends])
def yL (a b:Val):Val:=if a.kind=0\/b.kind=0 then zq else ofV (wE a b)
def wK (a b:Val):Val:=if a.kind=0\/b.kind=0 then zq else ofV (decide (cmpM a b<0))
theorem c_equal (a b:Val):ACall Tryz.prog 215 [aV a,aV b] [] (aV (yL a b)) []:=by
 refine zp mixed ttok Tryz.func215 Tryz.ntmps215 Tryz.results215 ?_
 generalize hr:aV (yL a b)=R
 simp -implicitDefEqProofs only [argT,tabN,↓zb,push_cast,simprocAttr,tte]
 unfold yL at hr
 refine za (fun h1=>?_) fun h1=>?_
 ·exact zu (by first | trivial | (simp;done) | (simp;omega)) (by rw [<-hr]<;>first | rfl | (simp [zq];done) | (simp_all [zq];done)) (by simp [ends])
 refine za (fun h2=>?_) fun h2=>?_
 ·exact zu (by first | trivial | (simp;done) | (simp;omega)) (by rw [<-hr]<;>first | rfl | (simp [zq];done) | (simp_all [zq];done)) (by simp [ends])
 refine zd [[0,0,0],[0,0,0]] [] (c_same a b) ?_
 simp -implicitDefEqProofs only [↓zb,push_cast,simprocAttr,tte]
 refine zd [[0]] [] (c_truth (wE a b)) ?_
 simp -implicitDefEqProofs only [aV,↓zb,push_cast,simprocAttr,tte]
 simp at h1 h2
 exact zu (by first | trivial | (simp;done) | (simp;omega)) (by rw [<-hr]<;>first | rfl | (simp [h1,h2];done) | (simp_all [h1,h2];done)) (by simp [ends])
theorem ga (a b:Val):ACall Tryz.prog 173 [aV a,aV b] [] (aV (yL a b)) []:=by
 refine zp mixed ttok Tryz.func173 Tryz.ntmps173 Tryz.results173 ?_
 generalize hr:aV (yL a b)=R
 simp -implicitDefEqProofs only [argT,tabN,↓zb,push_cast,simprocAttr,tte]
 unfold yL at hr
 refine za (fun h1=>?_) fun h1=>?_
 ·exact zu (by first | trivial | (simp;done) | (simp;omega)) (by rw [<-hr]<;>first | rfl | (simp [zq];done) | (simp_all [zq];done)) (by simp [ends])
 refine za (fun h2=>?_) fun h2=>?_
 ·exact zu (by first | trivial | (simp;done) | (simp;omega)) (by rw [<-hr]<;>first | rfl | (simp [zq];done) | (simp_all [zq];done)) (by simp [ends])
 refine zd [[0,0,0],[0,0,0]] [] (c_rsame a b) ?_
 simp -implicitDefEqProofs only [↓zb,push_cast,simprocAttr,tte]
 refine zd [[0]] [] (c_of (wE a b)) ?_
 simp -implicitDefEqProofs only [aV,↓zb,push_cast,simprocAttr,tte]
 simp at h1 h2
 exact zu (by first | trivial | (simp;done) | (simp;omega)) (by rw [<-hr]<;>first | rfl | (simp [h1,h2];done) | (simp_all [h1,h2];done)) (by simp [ends])
theorem c_less (a b:Val):ACall Tryz.prog 217 [aV a,aV b] [] (aV (wK a b)) []:=by
 refine zp mixed ttok Tryz.func217 Tryz.ntmps217 Tryz.results217 ?_
 generalize hr:aV (wK a b)=R
 simp -implicitDefEqProofs only [argT,tabN,↓zb,push_cast,simprocAttr,tte]
 unfold wK at hr
 refine za (fun h1=>?_) fun h1=>?_
 ·exact zu (by first | trivial | (simp;done) | (simp;omega)) (by rw [<-hr]<;>first | rfl | (simp [zq];done) | (simp_all [zq];done)) (by simp [ends])
 refine za (fun h2=>?_) fun h2=>?_
 ·exact zu (by first | trivial | (simp;done) | (simp;omega)) (by rw [<-hr]<;>first | rfl | (simp [zq];done) | (simp_all [zq];done)) (by simp [ends])
 refine zd [[0,0,0],[0,0,0]] [] (c_compare a b) ?_
 simp -implicitDefEqProofs only [↓zb,push_cast,simprocAttr,tte]
 refine zd [[0]] [] (c_truth (decide (cmpM a b<0))) ?_
 simp -implicitDefEqProofs only [aV,↓zb,push_cast,simprocAttr,tte]
 simp at h1 h2
 exact zu (by first | trivial | (simp;done) | (simp;omega)) (by rw [<-hr]<;>first | rfl | (simp [h1,h2];done) | (simp_all [h1,h2];done)) (by simp [ends])
theorem c_rless (a b:Val):ACall Tryz.prog 175 [aV a,aV b] [] (aV (wK a b)) []:=by
 refine zp mixed ttok Tryz.func175 Tryz.ntmps175 Tryz.results175 ?_
 generalize hr:aV (wK a b)=R
 simp -implicitDefEqProofs only [argT,tabN,↓zb,push_cast,simprocAttr,tte]
 unfold wK at hr
 refine za (fun h1=>?_) fun h1=>?_
 ·exact zu (by first | trivial | (simp;done) | (simp;omega)) (by rw [<-hr]<;>first | rfl | (simp [zq];done) | (simp_all [zq];done)) (by simp [ends])
 refine za (fun h2=>?_) fun h2=>?_
 ·exact zu (by first | trivial | (simp;done) | (simp;omega)) (by rw [<-hr]<;>first | rfl | (simp [zq];done) | (simp_all [zq];done)) (by simp [ends])
 refine zd [[0,0,0],[0,0,0]] [] (qp a b) ?_
 simp -implicitDefEqProofs only [↓zb,push_cast,simprocAttr,tte]
 refine zd [[0]] [] (c_of (decide (cmpM a b<0))) ?_
 simp -implicitDefEqProofs only [aV,↓zb,push_cast,simprocAttr,tte]
 simp at h1 h2
 exact zu (by first | trivial | (simp;done) | (simp;omega)) (by rw [<-hr]<;>first | rfl | (simp [h1,h2];done) | (simp_all [h1,h2];done)) (by simp [ends])
theorem toList_inj {x y:ByteArray} (h:x.toList=y.toList):x=y:=by
 cases x;cases y
 simpa [ByteArray.toList_eq] using h
theorem val_ext {a b:Val} (h1:a.kind=b.kind) (h2:a.num=b.num) (h3:a.text.toList=b.text.toList):a=b:=by
 cases a;cases b
 simp only at h1 h2 h3
 rw [h1,h2,toList_inj h3]
theorem cmpM_eq (a b:Val):cmpM a b=0 ↔ a=b:=by
 have:=cmpM_zero a b
 refine ⟨fun h=>?_,fun h=>?_⟩
 ·rw [h] at this
  simp only [wE,beq_self_eq_true] at this
  have h2:=this.symm
  simp only [Bool.and_eq_true,beq_iff_eq] at h2
  exact val_ext h2.1.1 h2.1.2 h2.2
 ·subst h
  rw [show wE a a=true by simp [wE]] at this
  simpa using this
end
section
open Go.Am
attribute [local simp, local push_cast] num boo str ints aV aTab zA aS aT aC
def okN (a:Int):Prop:= -1000000000000<=a/\a<=1000000000000
def absI (a:Int):Int:=if a<0 then -a else a
def numM (op a b:Int):Int×Bool:=
 if op=6 then (a+b,true) else if op=7 then (a-b,true)
 else if op=8 then (if a≠0/\b≠0/\absI a>(1000000000000:Int).tdiv (absI b) then (0,false) else (a * b,true))
 else if op=9 then (if b≠0 then (a.tdiv b,true) else (0,false))
 else if op=10 then (if b≠0 then (a.tmod b,true) else (0,false)) else (0,false)
theorem ge {a:Int} (h:a≠0):0<absI a:=by unfold absI;split<;>omega
theorem abs_max {a:Int} (h:okN a):(if -a>a then -a else a)=absI a:=by unfold okN at h;unfold absI;split<;>split<;>omega
theorem tdiv_le {a b:Int} (ha:0<=a) (hb:0<b):0<=a.tdiv b/\a.tdiv b<=a:=by
 rw [Int.tdiv_eq_ediv_of_nonneg ha]
 exact ⟨Int.ediv_nonneg ha (Int.le_of_lt hb),Int.ediv_le_self _ ha⟩
theorem mul_ok {a b:Int} (ha:okN a) (hb:okN b) (h: ¬(a≠0/\b≠0/\absI a>(1000000000000:Int).tdiv (absI b))):okN (a * b):=by
 by_cases h1:a=0
 ·subst h1;simp [okN]
 by_cases h2:b=0
 ·subst h2;simp [okN]
 have h3:absI a<=(1000000000000:Int).tdiv (absI b):=by
  have: ¬absI a>(1000000000000:Int).tdiv (absI b):=fun h4=>h ⟨h1,h2,h4⟩
  omega
 have hp:=ge h2
 rw [Int.tdiv_eq_ediv_of_nonneg (by decide),Int.le_ediv_iff_mul_le hp] at h3
 have e:a * b=absI a * absI b\/a * b= -(absI a * absI b):=by
  unfold absI
  split<;>split
  ·left;simp [Int.neg_mul,Int.mul_neg]
  ·right;simp [Int.neg_mul]
  ·right;simp [Int.mul_neg]
  ·left;rfl
 have hq:0<=absI a * absI b:=Int.mul_nonneg (Int.le_of_lt (ge h1)) (Int.le_of_lt hp)
 unfold okN
 omega
theorem tdiv_ok {a b:Int} (ha:okN a) (hb:b≠0):okN (a.tdiv b):=by
 have h:=Int.natAbs_tdiv_le_natAbs a b
 unfold okN at *
 omega
theorem tmod_ok {a b:Int} (ha:okN a) (hb:b≠0):okN (a.tmod b):=by
 have h:(a.tmod b).natAbs<=a.natAbs:=by
  rw [Int.natAbs_tmod];exact Nat.mod_le _ _
 unfold okN at *
 omega
theorem vU {a:Int} (h: -9000000000000<=a/\a<=9000000000000):IntKind.i64.wrap a=a:=zJ (by omega) (by omega)
theorem c_numbers (op a b:Int) (ha:okN a) (hb:okN b):ACall Tryz.prog 229 [num op,num a,num b] [] (.tup [num (numM op a b).1,boo (numM op a b).2]) []:=by
 refine zp mixed ttok Tryz.func229 Tryz.ntmps229 Tryz.results229 ?_
 generalize hr:A.tup [num (numM op a b).1,boo (numM op a b).2]=R
 have ha':=ha
 have hb':=hb
 unfold okN at ha' hb'
 have w1:=vU (a:=a+b) (by omega)
 have w2:=vU (a:=a-b) (by omega)
 have w3:=vU (a:= -a) (by omega)
 have w4:=vU (a:= -b) (by omega)
 have e3:(0:Int)-a= -a:=by omega
 have e4:(0:Int)-b= -b:=by omega
 unfold numM at hr
 simp -implicitDefEqProofs only [argT,w1,w2,w3,w4,e3,e4,abs_max ha,abs_max hb,↓zb,push_cast,simprocAttr,tte]
 refine za (fun h6=>?_) fun h6=>?_
 ·exact zD trivial (by rw [<-hr,if_pos (by simpa using h6)];rfl) (by simp [ends])
 rw [if_neg (by simpa using h6)] at hr
 refine za (fun h7=>?_) fun h7=>?_
 ·exact zD trivial (by rw [<-hr,if_pos (by simpa using h7)];rfl) (by simp [ends])
 rw [if_neg (by simpa using h7)] at hr
 refine za (fun h8=>?_) fun h8=>?_
 ·rw [if_pos (by simpa using h8)] at hr
  by_cases hz:a≠0/\b≠0
  ·have hp:=ge hz.2
   have hd:=tdiv_le (a:=1000000000000) (by decide) hp
   have w5:=vU (a:=(1000000000000:Int).tdiv (absI b)) (by omega)
   refine za (fun h1=>?_) fun h1=>?_
   ·refine za (fun h2=>?_) fun h2=>?_
    ·refine ⟨by omega,?_⟩
     simp only [w5]
     refine za (fun h3=>?_) fun h3=>?_
     ·simp only [decide_eq_true_eq] at h3
      exact zD trivial (by rw [<-hr,if_pos ⟨hz.1,hz.2,h3⟩];rfl) (by simp [ends])
     ·simp only [decide_eq_false_iff_not] at h3
      have hn: ¬(a≠0/\b≠0/\absI a>(1000000000000:Int).tdiv (absI b)):=fun h=>h3 h.2.2
      have hm:=mul_ok ha hb hn
      unfold okN at hm
      have w6:=vU (a:=a * b) (by omega)
      simp only [w6]
      exact zD trivial (by rw [<-hr,if_neg hn];rfl) (by simp [ends])
    ·simp at h2;omega
   ·simp at h1;omega
  ·have hn: ¬(a≠0∧b≠0∧absI a>(1000000000000:Int).tdiv (absI b)):=fun h=>hz ⟨h.1,h.2.1⟩
   have hm:=mul_ok ha hb hn
   unfold okN at hm
   have w6:=vU (a:=a * b) (by omega)
   rw [if_neg hn] at hr
   refine za (fun h1=>?_) fun h1=>?_
   ·refine za (fun h2=>?_) fun h2=>?_
    ·simp at h1 h2;omega
    ·simp only [w6]
     exact zD trivial (by rw [<-hr];rfl) (by simp [ends])
   ·simp only [w6]
    exact zD trivial (by rw [<-hr];rfl) (by simp [ends])
 rw [if_neg (by simpa using h8)] at hr
 refine za (fun h9=>?_) fun h9=>?_
 ·rw [if_pos (by simpa using h9)] at hr
  refine za (fun h1=>?_) fun h1=>?_
  ·have h1':b≠0:=by simpa using h1
   have hm:=tdiv_ok ha h1'
   unfold okN at hm
   have w6:=vU (a:=a.tdiv b) (by omega)
   simp only [w6]
   exact ⟨h1',zD trivial (by rw [<-hr,if_pos h1'];rfl) (by simp [ends])⟩
  ·have h1': ¬b≠0:=by simpa using h1
   exact zD trivial (by rw [<-hr,if_neg h1'];rfl) (by simp [ends])
 rw [if_neg (by simpa using h9)] at hr
 refine za (fun h10=>?_) fun h10=>?_
 ·rw [if_pos (by simpa using h10)] at hr
  refine za (fun h1=>?_) fun h1=>?_
  ·have h1':b≠0:=by simpa using h1
   exact ⟨h1',zD trivial (by rw [<-hr,if_pos h1'];rfl) (by simp [ends])⟩
  ·have h1': ¬b≠0:=by simpa using h1
   exact zD trivial (by rw [<-hr,if_neg h1'];rfl) (by simp [ends])
 rw [if_neg (by simpa using h10)] at hr
 exact zD trivial (by rw [<-hr];rfl) (by simp [ends])
end
section
open Go.Am
end
section
open Go.Am
attribute [local simp, local push_cast] num boo str ints aV aTab zA aS aT aC
def vt (v:Val):Val:=if zy v=true then v else zq
def uA (op:Int) (a b:Val):Val:=
 if zy a=false\/zy b=false\/a.kind≠b.kind then zq
 else if a.kind=1 then (if (numM op a.num b.num).2=true then vt ⟨1,(numM op a.num b.num).1,ByteArray.empty⟩ else zq)
 else if a.kind=3/\op=12 then vt ⟨3,0,a.text++b.text⟩ else zq
theorem empty_list:ByteArray.empty.toList=[]:=by rw [ByteArray.toList_eq];rfl
theorem vJ {v:Val} (h:zy v=true) (hk:v.kind=1):okN v.num:=by
 unfold zy at h
 rw [if_neg (by omega),if_pos hk] at h
 simp only [Bool.and_eq_true,decide_eq_true_eq] at h
 exact ⟨h.1.1,h.1.2⟩
theorem uX {v:Val} (h:zy v=true) (hk:v.kind=3):v.text.size<=24:=by
 unfold zy at h
 rw [if_neg (by omega),if_neg (by omega),if_neg (by omega),if_pos hk] at h
 simp only [j4,Bool.and_eq_true,decide_eq_true_eq] at h
 exact h.2.1
theorem valid_int {n:Int} (h:okN n):zy ⟨1,n,ByteArray.empty⟩=true:=by
 unfold okN at h
 simp [zy,empty_list,h.1,h.2]
theorem valid_null:zy zq=true:=by simp [zy,zq,empty_list]
theorem validV_int {n:Int} (h:okN n):vt ⟨1,n,ByteArray.empty⟩=⟨1,n,ByteArray.empty⟩:=by rw [vt,if_pos (valid_int h)]
theorem jv (op:Int) (a b:Val):ACall Tryz.prog 214 [num op,aV a,aV b] [] (aV (uA op a b)) []:=by
 refine zp mixed ttok Tryz.func214 Tryz.ntmps214 Tryz.results214 ?_
 generalize hr:aV (uA op a b)=R
 simp -implicitDefEqProofs only [argT,tabN,↓zb,push_cast,simprocAttr,tte]
 refine zd [[0,0,0]] [] (wh a) ?_
 simp -implicitDefEqProofs only [tabN,↓zb,push_cast,simprocAttr,tte]
 unfold uA at hr
 refine za (fun h1=>?_) fun h1=>?_
 ·rw [if_pos (.inl (by simpa using h1))] at hr
  exact zu (by first | trivial | (simp;done) | (simp;omega)) (by rw [<-hr]<;>first | rfl | (simp [zq];done) | (simp_all [zq];done)) (by simp [ends])
 refine zd [[0,0,0]] [] (wh b) ?_
 simp -implicitDefEqProofs only [tabN,↓zb,push_cast,simprocAttr,tte]
 simp only [Bool.not_eq_false'] at h1
 refine za (fun h2=>?_) fun h2=>?_
 ·rw [if_pos (.inr (.inl (by simpa using h2)))] at hr
  exact zu (by first | trivial | (simp;done) | (simp;omega)) (by rw [<-hr]<;>first | rfl | (simp [zq];done) | (simp_all [zq];done)) (by simp [ends])
 simp only [Bool.not_eq_false'] at h2
 refine za (fun h3=>?_) fun h3=>?_
 ·rw [if_pos (.inr (.inr (by simpa using h3)))] at hr
  exact zu (by first | trivial | (simp;done) | (simp;omega)) (by rw [<-hr]<;>first | rfl | (simp [zq];done) | (simp_all [zq];done)) (by simp [ends])
 have hk:a.kind=b.kind:=by simpa using h3
 rw [if_neg (by simp [h1,h2,hk])] at hr
 refine za (fun h4=>?_) fun h4=>?_
 ·have hk1:a.kind=1:=by simpa using h4
  rw [if_pos hk1] at hr
  refine zd [[0],[0],[0]] [] (c_numbers op a.num b.num (vJ h1 hk1) (vJ h2 (by omega))) ?_
  simp -implicitDefEqProofs only [tabN,↓zb,push_cast,simprocAttr,tte]
  refine za (fun h5=>?_) fun h5=>?_
  ·rw [if_neg (by simpa using h5)] at hr
   exact zu (by first | trivial | (simp;done) | (simp;omega)) (by rw [<-hr]<;>first | rfl | (simp [zq];done) | (simp_all [zq];done)) (by simp [ends])
  rw [if_pos (by simpa using h5)] at hr
  refine zd [[0,0,0]] [] (wh ⟨1,(numM op a.num b.num).1,ByteArray.empty⟩) ?_
  simp -implicitDefEqProofs only [tabN,↓zb,push_cast,simprocAttr,tte]
  unfold vt at hr
  refine za (fun h6=>?_) fun h6=>?_
  ·rw [if_neg (by simpa using h6)] at hr
   exact zu (by first | trivial | (simp;done) | (simp;omega)) (by rw [<-hr]<;>first | rfl | (simp [zq];done) | (simp_all [zq];done)) (by simp [ends])
  ·rw [if_pos (by simpa using h6)] at hr
   exact zu (by first | trivial | (simp;done) | (simp;omega)) (by rw [<-hr]<;>first | rfl | (simp [zq];done) | (simp_all [zq];done)) (by simp [ends])
 have hk1: ¬a.kind=1:=by simpa using h4
 rw [if_neg hk1] at hr
 have hnul:ACall Tryz.prog 165 [aV ⟨0,0,ByteArray.empty⟩] [] (boo true) []:=valid_null ▸ wh zq
 by_cases h5:a.kind=3/\op=12
 ·rw [if_pos h5] at hr
  obtain ⟨h5a,h5b⟩:=h5
  have t1:=uX h1 h5a
  have t2:=uX h2 (by omega)
  refine za (fun h6=>?_) fun h6=>?_
  ·refine za (fun h7=>?_) fun h7=>?_
   ·refine ⟨by omega,?_⟩
    refine zd [[0,0,0]] [] (wh ⟨3,0,a.text++b.text⟩) ?_
    simp -implicitDefEqProofs only [tabN,↓zb,push_cast,simprocAttr,tte]
    unfold vt at hr
    refine za (fun h8=>?_) fun h8=>?_
    ·rw [if_neg (by simpa using h8)] at hr
     exact zu (by first | trivial | (simp;done) | (simp;omega)) (by rw [<-hr]<;>first | rfl | (simp [zq];done) | (simp_all [zq];done)) (by simp [ends])
    ·rw [if_pos (by simpa using h8)] at hr
     exact zu (by first | trivial | (simp;done) | (simp;omega)) (by rw [<-hr]<;>first | rfl | (simp [zq];done) | (simp_all [zq];done)) (by simp [ends])
   ·simp at h7;omega
  ·simp at h6;omega
 rw [if_neg h5] at hr
 refine za (fun h6=>?_) fun h6=>?_
 ·refine za (fun h7=>?_) fun h7=>?_
  ·simp at h6 h7;omega
  ·refine zd [[0,0,0]] [] (hnul) ?_
   simp -implicitDefEqProofs only [zq,tabN,↓zb,push_cast,simprocAttr,tte]
   exact zu (by first | trivial | (simp;done) | (simp;omega)) (by rw [<-hr]<;>first | rfl | (simp [zq];done) | (simp_all [zq];done)) (by simp [ends])
 ·refine zd [[0,0,0]] [] (hnul) ?_
  simp -implicitDefEqProofs only [zq,tabN,↓zb,push_cast,simprocAttr,tte]
  exact zu (by first | trivial | (simp;done) | (simp;omega)) (by rw [<-hr]<;>first | rfl | (simp [zq];done) | (simp_all [zq];done)) (by simp [ends])
theorem c_rvalidV (v:Val):ACall Tryz.prog 198 [aV v] [] (aV (vt v)) []:=by
 refine zp mixed ttok Tryz.func198 Tryz.ntmps198 Tryz.results198 ?_
 generalize hr:aV (vt v)=R
 simp -implicitDefEqProofs only [argT,tabN,↓zb,push_cast,simprocAttr,tte]
 refine zd [[0,0,0]] [] (uU v) ?_
 simp -implicitDefEqProofs only [tabN,↓zb,push_cast,simprocAttr,tte]
 unfold vt at hr
 refine za (fun h8=>?_) fun h8=>?_
 ·rw [if_neg (by simpa using h8)] at hr
  exact zu (by first | trivial | (simp;done) | (simp;omega)) (by rw [<-hr]<;>first | rfl | (simp [zq];done) | (simp_all [zq];done)) (by simp [ends])
 ·rw [if_pos (by simpa using h8)] at hr
  exact zu (by first | trivial | (simp;done) | (simp;omega)) (by rw [<-hr]<;>first | rfl | (simp [zq];done) | (simp_all [zq];done)) (by simp [ends])
theorem c_product (a b:Int) (ha:okN a) (hb:okN b):ACall Tryz.prog 199 [num a,num b] [] (.tup [num (numM 8 a b).1,boo (numM 8 a b).2]) []:=by
 refine zp mixed ttok Tryz.func199 Tryz.ntmps199 Tryz.results199 ?_
 have hM:numM 8 a b=(if a≠0/\b≠0/\absI a>(1000000000000:Int).tdiv (absI b) then (0,false) else (a * b,true)):=rfl
 rw [hM]
 generalize hr:A.tup [num (if a≠0/\b≠0/\absI a>(1000000000000:Int).tdiv (absI b) then ((0:Int),false) else (a * b,true)).1,boo (if a≠0/\b≠0/\absI a>(1000000000000:Int).tdiv (absI b) then ((0:Int),false) else (a * b,true)).2]=R
 have ha':=ha
 have hb':=hb
 unfold okN at ha' hb'
 have w3:=vU (a:= -a) (by omega)
 have w4:=vU (a:= -b) (by omega)
 have e3:(0:Int)-a= -a:=by omega
 have e4:(0:Int)-b= -b:=by omega
 simp -implicitDefEqProofs only [argT,e3,e4,w3,w4,↓zb,push_cast,simprocAttr,tte]
 have hcase: ∀(h:(a≠0/\b≠0)),(absI b≠0/\vq (decide (absI a>IntKind.i64.wrap ((1000000000000:Int).tdiv (absI b)))) (retx (some (True,A.tup [A.d (D.lit (Value.int IntKind.i64 0)),A.d (D.lit (Value.bool false))])) {t:=[],o:=[]} R [])
  (retx (some (True,A.tup [A.d (D.lit (Value.int IntKind.i64 (IntKind.i64.wrap (a * b)))),A.d (D.lit (Value.bool true))])) {t:=[],o:=[]} R [])):=fun hz=>by
  have hp:=ge hz.2
  have hd:=tdiv_le (a:=1000000000000) (by decide) hp
  have w5:=vU (a:=(1000000000000:Int).tdiv (absI b)) (by omega)
  refine ⟨by omega,?_⟩
  rw [w5]
  refine za (fun h3=>?_) fun h3=>?_
  ·simp only [decide_eq_true_eq] at h3
   exact zD trivial (by rw [<-hr,if_pos ⟨hz.1,hz.2,h3⟩];rfl) (by simp [ends])
  ·simp only [decide_eq_false_iff_not] at h3
   have hn: ¬(a≠0/\b≠0/\absI a>(1000000000000:Int).tdiv (absI b)):=fun h=>h3 h.2.2
   have hm:=mul_ok ha hb hn
   unfold okN at hm
   have w6:=vU (a:=a * b) (by omega)
   rw [w6]
   exact zD trivial (by rw [<-hr,if_neg hn];rfl) (by simp [ends])
 refine za (fun h1=>?_) fun h1=>?_
 ·simp only [beq_iff_eq] at h1
  subst h1
  exact zD trivial (by rw [<-hr,if_neg (fun h=>h.1 rfl),Int.zero_mul];rfl) (by simp [ends])
 refine za (fun h2=>?_) fun h2=>?_
 ·simp only [beq_iff_eq] at h2
  subst h2
  exact zD trivial (by rw [<-hr,if_neg (fun h=>h.2.1 rfl),Int.mul_zero];rfl) (by simp [ends])
 have hc:=hcase ⟨by simpa using h1,by simpa using h2⟩
 refine za (fun h3=>?_) fun h3=>?_
 ·rw [show absI a= -a from if_pos (by simpa using h3)] at hc
  refine za (fun h4=>?_) fun h4=>?_
  ·rw [show absI b= -b from if_pos (by simpa using h4)] at hc
   exact hc
  ·rw [show absI b=b from if_neg (by simpa using h4)] at hc
   exact hc
 ·rw [show absI a=a from if_neg (by simpa using h3)] at hc
  refine za (fun h4=>?_) fun h4=>?_
  ·rw [show absI b= -b from if_pos (by simpa using h4)] at hc
   exact hc
  ·rw [show absI b=b from if_neg (by simpa using h4)] at hc
   exact hc
def arithR (op:Int) (a b:Val):Val:=
 if zy a=false\/zy b=false then zq
 else if op=12 then (if a.kind≠3\/b.kind≠3 then zq else vt ⟨3,0,a.text++b.text⟩)
 else if a.kind≠1\/b.kind≠1 then zq
 else if op=6 then vt ⟨1,a.num+b.num,ByteArray.empty⟩ else if op=7 then vt ⟨1,a.num-b.num,ByteArray.empty⟩
 else if (numM op a.num b.num).2=true then ⟨1,(numM op a.num b.num).1,ByteArray.empty⟩ else zq
theorem arithR_eq (op:Int) (a b:Val):arithR op a b=uA op a b:=by
 unfold arithR uA
 by_cases h1:zy a=false
 ·simp [h1]
 by_cases h2:zy b=false
 ·simp [h2]
 simp only [Bool.not_eq_false] at h1 h2
 simp only [h1,h2,Bool.true_eq_false,false_or,if_false]
 by_cases h12:op=12
 ·subst h12
  rw [if_pos rfl]
  by_cases hk:a.kind=b.kind
  ·by_cases ha:a.kind=1
   ·have hb1:b.kind=1:=by omega
    simp [ha,hb1,numM]
   ·by_cases ha3:a.kind=3
    ·have hb3:b.kind=3:=by omega
     simp [ha3,hb3]
    ·rw [hk] at ha ha3
     simp [hk,ha,ha3]
  ·rw [if_pos (c:=a.kind≠b.kind) hk,if_pos (by omega)]
 rw [if_neg h12]
 by_cases hk:a.kind=b.kind
 ·rw [if_neg (c:=a.kind≠b.kind) (fun h=>h hk)]
  by_cases ha:a.kind=1
  ·rw [if_neg (by omega),if_pos ha]
   have ka:=vJ h1 ha
   have kb:=vJ h2 (by omega)
   by_cases h6:op=6
   ·subst h6;rfl
   by_cases h7:op=7
   ·subst h7;rfl
   rw [if_neg h6,if_neg h7]
   split
   ·rename_i hq
    rw [validV_int]
    unfold numM at hq ⊢
    rw [if_neg h6,if_neg h7] at hq ⊢
    split
    ·rename_i h8
     rw [if_pos h8] at hq
     split
     ·rename_i hz;rw [if_pos hz] at hq;cases hq
     ·rename_i hz;exact mul_ok ka kb hz
    ·rename_i h8
     rw [if_neg h8] at hq
     split
     ·rename_i h9
      rw [if_pos h9] at hq
      split
      ·rename_i hz;exact tdiv_ok ka hz
      ·rename_i hz;rw [if_neg hz] at hq;cases hq
     ·rename_i h9
      rw [if_neg h9] at hq
      split
      ·rename_i h10
       rw [if_pos h10] at hq
       split
       ·rename_i hz;exact tmod_ok ka hz
       ·rename_i hz;rw [if_neg hz] at hq;cases hq
      ·rename_i h10;rw [if_neg h10] at hq;cases hq
   ·rfl
  ·rw [if_pos (by omega),if_neg ha,if_neg (by omega)]
 ·rw [if_pos (c:=a.kind≠b.kind) hk,if_pos (by omega)]
theorem c_rarith (op:Int) (a b:Val):ACall Tryz.prog 172 [num op,aV a,aV b] [] (aV (uA op a b)) []:=by
 rw [<-arithR_eq]
 refine zp mixed ttok Tryz.func172 Tryz.ntmps172 Tryz.results172 ?_
 generalize hr:aV (arithR op a b)=R
 simp -implicitDefEqProofs only [argT,tabN,↓zb,push_cast,simprocAttr,tte]
 refine zd [[0,0,0]] [] (uU a) ?_
 simp -implicitDefEqProofs only [tabN,↓zb,push_cast,simprocAttr,tte]
 unfold arithR at hr
 refine za (fun h1=>?_) fun h1=>?_
 ·rw [if_pos (.inl (by simpa using h1))] at hr
  exact zu (by first | trivial | (simp;done) | (simp;omega)) (by rw [<-hr]<;>first | rfl | (simp [zq];done) | (simp_all [zq];done)) (by simp [ends])
 refine zd [[0,0,0]] [] (uU b) ?_
 simp -implicitDefEqProofs only [tabN,↓zb,push_cast,simprocAttr,tte]
 simp only [Bool.not_eq_false'] at h1
 refine za (fun h2=>?_) fun h2=>?_
 ·rw [if_pos (.inr (by simpa using h2))] at hr
  exact zu (by first | trivial | (simp;done) | (simp;omega)) (by rw [<-hr]<;>first | rfl | (simp [zq];done) | (simp_all [zq];done)) (by simp [ends])
 simp only [Bool.not_eq_false'] at h2
 rw [if_neg (by simp [h1,h2])] at hr
 refine za (fun h12=>?_) fun h12=>?_
 ·rw [if_pos (by simpa using h12)] at hr
  refine za (fun h3=>?_) fun h3=>?_
  ·rw [if_pos (.inl (by simpa using h3))] at hr
   exact zu (by first | trivial | (simp;done) | (simp;omega)) (by rw [<-hr]<;>first | rfl | (simp [zq];done) | (simp_all [zq];done)) (by simp [ends])
  refine za (fun h4=>?_) fun h4=>?_
  ·rw [if_pos (.inr (by simpa using h4))] at hr
   exact zu (by first | trivial | (simp;done) | (simp;omega)) (by rw [<-hr]<;>first | rfl | (simp [zq];done) | (simp_all [zq];done)) (by simp [ends])
  simp only [bne_eq_false_iff_eq] at h3 h4
  rw [if_neg (by omega)] at hr
  have t1:=uX h1 h3
  have t2:=uX h2 h4
  refine ⟨by omega,?_⟩
  refine zd [[0,0,0]] [] (c_rvalidV ⟨3,0,a.text++b.text⟩) ?_
  simp -implicitDefEqProofs only [aV,↓zb,push_cast,simprocAttr,tte]
  exact zu (by first | trivial | (simp;done) | (simp;omega)) (by rw [<-hr]<;>first | rfl | (simp [zq];done) | (simp_all [zq];done)) (by simp [ends])
 rw [if_neg (by simpa using h12)] at hr
 refine za (fun h3=>?_) fun h3=>?_
 ·rw [if_pos (.inl (by simpa using h3))] at hr
  exact zu (by first | trivial | (simp;done) | (simp;omega)) (by rw [<-hr]<;>first | rfl | (simp [zq];done) | (simp_all [zq];done)) (by simp [ends])
 refine za (fun h4=>?_) fun h4=>?_
 ·rw [if_pos (.inr (by simpa using h4))] at hr
  exact zu (by first | trivial | (simp;done) | (simp;omega)) (by rw [<-hr]<;>first | rfl | (simp [zq];done) | (simp_all [zq];done)) (by simp [ends])
 simp only [bne_eq_false_iff_eq] at h3 h4
 rw [if_neg (by omega)] at hr
 have ka:=vJ h1 h3
 have kb:=vJ h2 h4
 have ka':=ka
 have kb':=kb
 unfold okN at ka' kb'
 have w1:=vU (a:=a.num+b.num) (by omega)
 have w2:=vU (a:=a.num-b.num) (by omega)
 refine za (fun h6=>?_) fun h6=>?_
 ·rw [if_pos (by simpa using h6)] at hr
  simp only [w1]
  refine zd [[0,0,0]] [] (c_rvalidV ⟨1,a.num+b.num,ByteArray.empty⟩) ?_
  simp -implicitDefEqProofs only [aV,↓zb,push_cast,simprocAttr,tte]
  exact zu (by first | trivial | (simp;done) | (simp;omega)) (by rw [<-hr]<;>first | rfl | (simp [zq];done) | (simp_all [zq];done)) (by simp [ends])
 rw [if_neg (by simpa using h6)] at hr
 refine za (fun h7=>?_) fun h7=>?_
 ·rw [if_pos (by simpa using h7)] at hr
  simp only [w2]
  refine zd [[0,0,0]] [] (c_rvalidV ⟨1,a.num-b.num,ByteArray.empty⟩) ?_
  simp -implicitDefEqProofs only [aV,↓zb,push_cast,simprocAttr,tte]
  exact zu (by first | trivial | (simp;done) | (simp;omega)) (by rw [<-hr]<;>first | rfl | (simp [zq];done) | (simp_all [zq];done)) (by simp [ends])
 rw [if_neg (by simpa using h7)] at hr
 refine za (fun h8=>?_) fun h8=>?_
 ·have h8':op=8:=by simpa using h8
  subst h8'
  refine zd [[0],[0]] [] (c_product a.num b.num ka kb) ?_
  simp -implicitDefEqProofs only [↓zb,push_cast,simprocAttr,tte]
  refine za (fun h9=>?_) fun h9=>?_
  ·rw [if_neg (by simpa using h9)] at hr
   exact zu (by first | trivial | (simp;done) | (simp;omega)) (by rw [<-hr]<;>first | rfl | (simp [zq];done) | (simp_all [zq];done)) (by simp [ends])
  ·rw [if_pos (by simpa using h9)] at hr
   exact zu (by first | trivial | (simp;done) | (simp;omega)) (by rw [<-hr]<;>first | rfl | (simp [zq];done) | (simp_all [zq];done)) (by simp [ends])
 unfold numM at hr
 rw [if_neg (c:=op=6) (by simpa using h6),if_neg (c:=op=7) (by simpa using h7),if_neg (c:=op=8) (by simpa using h8)] at hr
 refine za (fun h9=>?_) fun h9=>?_
 ·rw [if_pos (c:=op=9) (by simpa using h9)] at hr
  refine za (fun h10=>?_) fun h10=>?_
  ·have hb0:b.num≠0:=by simpa using h10
   have hm:=tdiv_ok ka hb0
   unfold okN at hm
   have w3:=vU (a:=a.num.tdiv b.num) (by omega)
   refine ⟨hb0,?_⟩
   rw [if_pos hb0,if_pos rfl] at hr
   simp only [w3]
   exact zu (by first | trivial | (simp;done) | (simp;omega)) (by rw [<-hr]<;>first | rfl | (simp [zq];done) | (simp_all [zq];done)) (by simp [ends])
  ·have hb0: ¬b.num≠0:=by simpa using h10
   rw [if_neg hb0,if_neg (by decide)] at hr
   exact zu (by first | trivial | (simp;done) | (simp;omega)) (by rw [<-hr]<;>first | rfl | (simp [zq];done) | (simp_all [zq];done)) (by simp [ends])
 rw [if_neg (c:=op=9) (by simpa using h9)] at hr
 refine za (fun h10=>?_) fun h10=>?_
 ·rw [if_pos (c:=op=10) (by simpa using h10)] at hr
  refine za (fun h11=>?_) fun h11=>?_
  ·have hb0:b.num≠0:=by simpa using h11
   refine ⟨hb0,?_⟩
   rw [if_pos hb0,if_pos rfl] at hr
   exact zu (by first | trivial | (simp;done) | (simp;omega)) (by rw [<-hr]<;>first | rfl | (simp [zq];done) | (simp_all [zq];done)) (by simp [ends])
  ·have hb0: ¬b.num≠0:=by simpa using h11
   rw [if_neg hb0,if_neg (by decide)] at hr
   exact zu (by first | trivial | (simp;done) | (simp;omega)) (by rw [<-hr]<;>first | rfl | (simp [zq];done) | (simp_all [zq];done)) (by simp [ends])
 rw [if_neg (c:=op=10) (by simpa using h10),if_neg (by decide)] at hr
 exact zu (by first | trivial | (simp;done) | (simp;omega)) (by rw [<-hr]<;>first | rfl | (simp [zq];done) | (simp_all [zq];done)) (by simp [ends])
end
section
open Go.Am
attribute [local simp, local push_cast] num boo str ints aV aTab zA aS aT aC
def aRow (l:List Val):A:= .d (.sl 3 (ze rV l))
attribute [local simp, local push_cast] aRow
def inM (v:Val):Val->List Val->Val
 | out,[]=>out
 | out,x::l=>inM v (orM out (yL v x)) l
def zz (op:Int) (l:List Val):Val:=
 if op=6\/op=7\/op=8\/op=9\/op=10\/op=12 then uA op (l.getD 0 default) (l.getD 1 default)
 else if op=11 then uA 7 ⟨1,0,ByteArray.empty⟩ (l.getD 0 default)
 else if op=13 then (if (l.getD 0 default).kind=3 then ⟨1,(l.getD 0 default).text.size,ByteArray.empty⟩ else zq)
 else if op=14 then yL (l.getD 0 default) (l.getD 1 default)
 else if op=15 then notM (yL (l.getD 0 default) (l.getD 1 default))
 else if op=16 then wK (l.getD 0 default) (l.getD 1 default)
 else if op=17 then notM (wK (l.getD 1 default) (l.getD 0 default))
 else if op=18 then wK (l.getD 1 default) (l.getD 0 default)
 else if op=19 then notM (wK (l.getD 0 default) (l.getD 1 default))
 else if op=20 then ofV (wE (l.getD 0 default) (l.getD 1 default))
 else if op=21 then ofV ((l.getD 0 default).kind==0)
 else if op=22 then andM (l.getD 0 default) (l.getD 1 default)
 else if op=23 then orM (l.getD 0 default) (l.getD 1 default)
 else if op=24 then notM (l.getD 0 default)
 else if op=25 then ofV (zP (l.getD 0 default)==1)
 else if op=27 then (if (l.getD 0 default).kind=0 then l.getD 1 default else l.getD 0 default)
 else if op=28 then inM (l.getD 0 default) (ofV false) (l.drop 1)
 else zq
theorem inM_snoc (v:Val): ∀(r:List Val) (out x:Val),inM v out (r++[x])=orM (inM v out r) (yL v x)
 | [],out,x=>rfl
 | y::r,out,x=>by simp only [List.cons_append,inM,inM_snoc v r]
theorem c_bool0:ACall Tryz.prog 222 [num 0] [] (aV (ofV false)) []:=by
 have:zU 0=ofV false:=by simp [zU,ofV]
 rw [<-this];exact v8 0
theorem len2 {n:Nat} (h:(n:Int)=2):2<=n:=by omega
theorem len1 {n:Nat} (h:(n:Int)=1):1<=n:=by omega
theorem c_apply (op:Int) (l:List Val) (hk:yj op l.length=true) (hll:l.length<=1000):ACall Tryz.prog 197 [num op,aRow l] [] (aV (zz op l)) []:=by
 refine zp mixed ttok Tryz.func197 Tryz.ntmps197 Tryz.results197 ?_
 generalize hr:aV (zz op l)=R
 simp -implicitDefEqProofs only [argT,tabN,↓zb,push_cast,simprocAttr,tte]
 refine za (fun h6=>?_) fun h6=>?_
 ·have e:op=6:=by simpa using h6
  subst e
  have hl:2<=l.length:=len2 (by simpa [yj] using hk)
  refine za (fun _=>?_) (fun h=>absurd h (by decide))
  refine ⟨by omega,by omega,?_⟩
  refine zd [[0],[0,0,0],[0,0,0]] [] (jv 6 (l.getD 0 default) (l.getD 1 default)) ?_
  simp -implicitDefEqProofs only [tabN,aV,↓zb,push_cast,simprocAttr,tte]
  refine ⟨zg (by kernel_rfl),?_⟩
  exact zu (by first | trivial | (simp;done) | (simp;omega)) (by rw [<-hr]<;>first | rfl | (simp [zz];done) | (simp_all [zz];done)) (by simp [ends])
 refine za (fun h7=>?_) fun h7=>?_
 ·have e:op=7:=by simpa using h7
  subst e
  have hl:2<=l.length:=len2 (by simpa [yj] using hk)
  refine za (fun _=>?_) (fun h=>absurd h (by decide))
  refine ⟨by omega,by omega,?_⟩
  refine zd [[0],[0,0,0],[0,0,0]] [] (jv 7 (l.getD 0 default) (l.getD 1 default)) ?_
  simp -implicitDefEqProofs only [tabN,aV,↓zb,push_cast,simprocAttr,tte]
  refine ⟨zg (by kernel_rfl),?_⟩
  exact zu (by first | trivial | (simp;done) | (simp;omega)) (by rw [<-hr]<;>first | rfl | (simp [zz];done) | (simp_all [zz];done)) (by simp [ends])
 refine za (fun h8=>?_) fun h8=>?_
 ·have e:op=8:=by simpa using h8
  subst e
  have hl:2<=l.length:=len2 (by simpa [yj] using hk)
  refine za (fun _=>?_) (fun h=>absurd h (by decide))
  refine ⟨by omega,by omega,?_⟩
  refine zd [[0],[0,0,0],[0,0,0]] [] (jv 8 (l.getD 0 default) (l.getD 1 default)) ?_
  simp -implicitDefEqProofs only [tabN,aV,↓zb,push_cast,simprocAttr,tte]
  refine ⟨zg (by kernel_rfl),?_⟩
  exact zu (by first | trivial | (simp;done) | (simp;omega)) (by rw [<-hr]<;>first | rfl | (simp [zz];done) | (simp_all [zz];done)) (by simp [ends])
 refine za (fun h9=>?_) fun h9=>?_
 ·have e:op=9:=by simpa using h9
  subst e
  have hl:2<=l.length:=len2 (by simpa [yj] using hk)
  refine za (fun _=>?_) (fun h=>absurd h (by decide))
  refine ⟨by omega,by omega,?_⟩
  refine zd [[0],[0,0,0],[0,0,0]] [] (jv 9 (l.getD 0 default) (l.getD 1 default)) ?_
  simp -implicitDefEqProofs only [tabN,aV,↓zb,push_cast,simprocAttr,tte]
  refine ⟨zg (by kernel_rfl),?_⟩
  exact zu (by first | trivial | (simp;done) | (simp;omega)) (by rw [<-hr]<;>first | rfl | (simp [zz];done) | (simp_all [zz];done)) (by simp [ends])
 refine za (fun h10=>?_) fun h10=>?_
 ·have e:op=10:=by simpa using h10
  subst e
  have hl:2<=l.length:=len2 (by simpa [yj] using hk)
  refine za (fun _=>?_) (fun h=>absurd h (by decide))
  refine ⟨by omega,by omega,?_⟩
  refine zd [[0],[0,0,0],[0,0,0]] [] (jv 10 (l.getD 0 default) (l.getD 1 default)) ?_
  simp -implicitDefEqProofs only [tabN,aV,↓zb,push_cast,simprocAttr,tte]
  refine ⟨zg (by kernel_rfl),?_⟩
  exact zu (by first | trivial | (simp;done) | (simp;omega)) (by rw [<-hr]<;>first | rfl | (simp [zz];done) | (simp_all [zz];done)) (by simp [ends])
 refine za (fun h12=>?_) fun h12=>?_
 ·have e:op=12:=by simpa using h12
  subst e
  have hl:2<=l.length:=len2 (by simpa [yj] using hk)
  refine ⟨by omega,by omega,?_⟩
  refine zd [[0],[0,0,0],[0,0,0]] [] (jv 12 (l.getD 0 default) (l.getD 1 default)) ?_
  simp -implicitDefEqProofs only [tabN,aV,↓zb,push_cast,simprocAttr,tte]
  refine ⟨zg (by kernel_rfl),?_⟩
  exact zu (by first | trivial | (simp;done) | (simp;omega)) (by rw [<-hr]<;>first | rfl | (simp [zz];done) | (simp_all [zz];done)) (by simp [ends])
 refine za (fun h11=>?_) fun h11=>?_
 ·have e:op=11:=by simpa using h11
  subst e
  have hl:1<=l.length:=len1 (by simpa [yj] using hk)
  refine ⟨by omega,?_⟩
  refine zd [[0],[0,0,0],[0,0,0]] [] (jv 7 ⟨1,0,ByteArray.empty⟩ (l.getD 0 default)) ?_
  simp -implicitDefEqProofs only [tabN,aV,↓zb,push_cast,simprocAttr,tte]
  exact zu (by first | trivial | (simp;done) | (simp;omega)) (by rw [<-hr]<;>first | rfl | (simp [zz];done) | (simp_all [zz];done)) (by simp [ends])
 refine za (fun h13=>?_) fun h13=>?_
 ·have e:op=13:=by simpa using h13
  subst e
  have hl:1<=l.length:=len1 (by simpa [yj] using hk)
  refine ⟨by omega,?_⟩
  refine za (fun g=>?_) fun g=>?_
  ·refine ⟨by omega,?_⟩
   have g1:(l.getD 0 default).kind=3:=by simpa using g
   have hM:zz 13 l=⟨1,(l.getD 0 default).text.size,ByteArray.empty⟩:=if_pos g1
   rw [hM] at hr
   exact zu (by first | trivial | (simp;done) | (simp;omega)) (by rw [<-hr]<;>first | rfl | (simp [zz];done) | (simp_all [zz];done)) (by simp [ends])
  ·have g1: ¬(l.getD 0 default).kind=3:=by simpa using g
   have hM:zz 13 l=zq:=if_neg g1
   rw [hM] at hr
   exact zu (by first | trivial | (simp;done) | (simp;omega)) (by rw [<-hr]<;>first | rfl | (simp [zq];done) | (simp_all [zq];done)) (by simp [ends])
 refine za (fun h14=>?_) fun h14=>?_
 ·have e:op=14:=by simpa using h14
  subst e
  have hl:2<=l.length:=len2 (by simpa [yj] using hk)
  refine ⟨by omega,by omega,?_⟩
  refine zd [[0,0,0],[0,0,0]] [] (c_equal (l.getD 0 default) (l.getD 1 default)) ?_
  simp -implicitDefEqProofs only [tabN,aV,↓zb,push_cast,simprocAttr,tte]
  refine ⟨zg (by kernel_rfl),?_⟩
  exact zu (by first | trivial | (simp;done) | (simp;omega)) (by rw [<-hr]<;>first | rfl | (simp [zz];done) | (simp_all [zz];done)) (by simp [ends])
 refine za (fun h15=>?_) fun h15=>?_
 ·have e:op=15:=by simpa using h15
  subst e
  have hl:2<=l.length:=len2 (by simpa [yj] using hk)
  refine ⟨by omega,by omega,?_⟩
  refine zd [[0,0,0],[0,0,0]] [] (c_equal (l.getD 0 default) (l.getD 1 default)) ?_
  simp -implicitDefEqProofs only [tabN,aV,↓zb,push_cast,simprocAttr,tte]
  refine zd [[0,0,0]] [] (c_not (yL (l.getD 0 default) (l.getD 1 default))) ?_
  simp -implicitDefEqProofs only [tabN,aV,↓zb,push_cast,simprocAttr,tte]
  refine ⟨zg (by kernel_rfl),?_⟩
  exact zu (by first | trivial | (simp;done) | (simp;omega)) (by rw [<-hr]<;>first | rfl | (simp [zz];done) | (simp_all [zz];done)) (by simp [ends])
 refine za (fun h16=>?_) fun h16=>?_
 ·have e:op=16:=by simpa using h16
  subst e
  have hl:2<=l.length:=len2 (by simpa [yj] using hk)
  refine ⟨by omega,by omega,?_⟩
  refine zd [[0,0,0],[0,0,0]] [] (c_less (l.getD 0 default) (l.getD 1 default)) ?_
  simp -implicitDefEqProofs only [tabN,aV,↓zb,push_cast,simprocAttr,tte]
  refine ⟨zg (by kernel_rfl),?_⟩
  exact zu (by first | trivial | (simp;done) | (simp;omega)) (by rw [<-hr]<;>first | rfl | (simp [zz];done) | (simp_all [zz];done)) (by simp [ends])
 refine za (fun h17=>?_) fun h17=>?_
 ·have e:op=17:=by simpa using h17
  subst e
  have hl:2<=l.length:=len2 (by simpa [yj] using hk)
  refine ⟨by omega,by omega,?_⟩
  refine zd [[0,0,0],[0,0,0]] [] (c_less (l.getD 1 default) (l.getD 0 default)) ?_
  simp -implicitDefEqProofs only [tabN,aV,↓zb,push_cast,simprocAttr,tte]
  refine zd [[0,0,0]] [] (c_not (wK (l.getD 1 default) (l.getD 0 default))) ?_
  simp -implicitDefEqProofs only [tabN,aV,↓zb,push_cast,simprocAttr,tte]
  refine ⟨zg (by kernel_rfl),?_⟩
  exact zu (by first | trivial | (simp;done) | (simp;omega)) (by rw [<-hr]<;>first | rfl | (simp [zz];done) | (simp_all [zz];done)) (by simp [ends])
 refine za (fun h18=>?_) fun h18=>?_
 ·have e:op=18:=by simpa using h18
  subst e
  have hl:2<=l.length:=len2 (by simpa [yj] using hk)
  refine ⟨by omega,by omega,?_⟩
  refine zd [[0,0,0],[0,0,0]] [] (c_less (l.getD 1 default) (l.getD 0 default)) ?_
  simp -implicitDefEqProofs only [tabN,aV,↓zb,push_cast,simprocAttr,tte]
  refine ⟨zg (by kernel_rfl),?_⟩
  exact zu (by first | trivial | (simp;done) | (simp;omega)) (by rw [<-hr]<;>first | rfl | (simp [zz];done) | (simp_all [zz];done)) (by simp [ends])
 refine za (fun h19=>?_) fun h19=>?_
 ·have e:op=19:=by simpa using h19
  subst e
  have hl:2<=l.length:=len2 (by simpa [yj] using hk)
  refine ⟨by omega,by omega,?_⟩
  refine zd [[0,0,0],[0,0,0]] [] (c_less (l.getD 0 default) (l.getD 1 default)) ?_
  simp -implicitDefEqProofs only [tabN,aV,↓zb,push_cast,simprocAttr,tte]
  refine zd [[0,0,0]] [] (c_not (wK (l.getD 0 default) (l.getD 1 default))) ?_
  simp -implicitDefEqProofs only [tabN,aV,↓zb,push_cast,simprocAttr,tte]
  refine ⟨zg (by kernel_rfl),?_⟩
  exact zu (by first | trivial | (simp;done) | (simp;omega)) (by rw [<-hr]<;>first | rfl | (simp [zz];done) | (simp_all [zz];done)) (by simp [ends])
 refine za (fun h20=>?_) fun h20=>?_
 ·have e:op=20:=by simpa using h20
  subst e
  have hl:2<=l.length:=len2 (by simpa [yj] using hk)
  refine ⟨by omega,by omega,?_⟩
  refine zd [[0,0,0],[0,0,0]] [] (c_same (l.getD 0 default) (l.getD 1 default)) ?_
  simp -implicitDefEqProofs only [tabN,aV,↓zb,push_cast,simprocAttr,tte]
  refine zd [[0]] [] (c_etruth (wE (l.getD 0 default) (l.getD 1 default))) ?_
  simp -implicitDefEqProofs only [tabN,aV,↓zb,push_cast,simprocAttr,tte]
  refine ⟨zg (by kernel_rfl),?_⟩
  exact zu (by first | trivial | (simp;done) | (simp;omega)) (by rw [<-hr]<;>first | rfl | (simp [zz];done) | (simp_all [zz];done)) (by simp [ends])
 refine za (fun h21=>?_) fun h21=>?_
 ·have e:op=21:=by simpa using h21
  subst e
  have hl:1<=l.length:=len1 (by simpa [yj] using hk)
  refine ⟨by omega,?_⟩
  refine zd [[0]] [] (c_etruth ((l.getD 0 default).kind==0)) ?_
  simp -implicitDefEqProofs only [tabN,aV,↓zb,push_cast,simprocAttr,tte]
  exact zu (by first | trivial | (simp;done) | (simp;omega)) (by rw [<-hr]<;>first | rfl | (simp [zz];done) | (simp_all [zz];done)) (by simp [ends])
 refine za (fun h22=>?_) fun h22=>?_
 ·have e:op=22:=by simpa using h22
  subst e
  have hl:2<=l.length:=len2 (by simpa [yj] using hk)
  refine ⟨by omega,by omega,?_⟩
  refine zd [[0,0,0],[0,0,0]] [] (c_and (l.getD 0 default) (l.getD 1 default)) ?_
  simp -implicitDefEqProofs only [tabN,aV,↓zb,push_cast,simprocAttr,tte]
  refine ⟨zg (by kernel_rfl),?_⟩
  exact zu (by first | trivial | (simp;done) | (simp;omega)) (by rw [<-hr]<;>first | rfl | (simp [zz];done) | (simp_all [zz];done)) (by simp [ends])
 refine za (fun h23=>?_) fun h23=>?_
 ·have e:op=23:=by simpa using h23
  subst e
  have hl:2<=l.length:=len2 (by simpa [yj] using hk)
  refine ⟨by omega,by omega,?_⟩
  refine zd [[0,0,0],[0,0,0]] [] (c_or2 (l.getD 0 default) (l.getD 1 default)) ?_
  simp -implicitDefEqProofs only [tabN,aV,↓zb,push_cast,simprocAttr,tte]
  refine ⟨zg (by kernel_rfl),?_⟩
  exact zu (by first | trivial | (simp;done) | (simp;omega)) (by rw [<-hr]<;>first | rfl | (simp [zz];done) | (simp_all [zz];done)) (by simp [ends])
 refine za (fun h24=>?_) fun h24=>?_
 ·have e:op=24:=by simpa using h24
  subst e
  have hl:1<=l.length:=len1 (by simpa [yj] using hk)
  refine ⟨by omega,?_⟩
  refine zd [[0,0,0]] [] (c_not (l.getD 0 default)) ?_
  simp -implicitDefEqProofs only [tabN,aV,↓zb,push_cast,simprocAttr,tte]
  exact zu (by first | trivial | (simp;done) | (simp;omega)) (by rw [<-hr]<;>first | rfl | (simp [zz];done) | (simp_all [zz];done)) (by simp [ends])
 refine za (fun h25=>?_) fun h25=>?_
 ·have e:op=25:=by simpa using h25
  subst e
  have hl:1<=l.length:=len1 (by simpa [yj] using hk)
  refine ⟨by omega,?_⟩
  refine zd [[0,0,0]] [] (uv (l.getD 0 default)) ?_
  simp -implicitDefEqProofs only [tabN,aV,↓zb,push_cast,simprocAttr,tte]
  refine zd [[0]] [] (c_etruth (zP (l.getD 0 default)==1)) ?_
  simp -implicitDefEqProofs only [tabN,aV,↓zb,push_cast,simprocAttr,tte]
  exact zu (by first | trivial | (simp;done) | (simp;omega)) (by rw [<-hr]<;>first | rfl | (simp [zz];done) | (simp_all [zz];done)) (by simp [ends])
 refine za (fun h27=>?_) fun h27=>?_
 ·have e:op=27:=by simpa using h27
  subst e
  have hl:2<=l.length:=len2 (by simpa [yj] using hk)
  refine ⟨by omega,?_⟩
  refine za (fun g=>?_) fun g=>?_
  ·refine ⟨by omega,?_⟩
   have g1:(l.getD 0 default).kind=0:=by simpa using g
   have hM:zz 27 l=(l.getD 1 default):=if_pos g1
   rw [hM] at hr
   exact zu (by first | trivial | (simp;done) | (simp;omega)) (by rw [<-hr]<;>first | rfl | (simp [zz];done) | (simp_all [zz];done)) (by simp [ends])
  ·refine ⟨by omega,?_⟩
   have g1: ¬(l.getD 0 default).kind=0:=by simpa using g
   have hM:zz 27 l=(l.getD 0 default):=if_neg g1
   rw [hM] at hr
   exact zu (by first | trivial | (simp;done) | (simp;omega)) (by rw [<-hr]<;>first | rfl | (simp [zz];done) | (simp_all [zz];done)) (by simp [ends])
 refine za (fun h28=>?_) fun h28=>?_
 ·have e:op=28:=by simpa using h28
  subst e
  have hl:2≤l.length:=by have:(l.length:Int)≥2:=by simpa [yj] using hk
                         omega
  refine zd [[0]] [] (c_bool0) ?_
  simp -implicitDefEqProofs only [tabN,aV,↓zb,push_cast,simprocAttr,tte]
  refine ⟨by omega,?_⟩
  have hM:zz 28 l=inM (l.getD 0 default) (ofV false) (l.drop 1):=rfl
  rw [hM] at hr
  have hdl:(l.drop 1).length<=1000:=by simp;omega
  simp only [List.take_length]
  generalize l.drop 1=r at hr hdl ⊢
  have hsn: ∀n,n<r.length->inM (l.getD 0 default) (ofV false) (r.take (n+1))=orM (inM (l.getD 0 default) (ofV false) (r.take n)) (yL (l.getD 0 default) (r.getD n default)):=fun n h=>by
   rw [zH _ _ h,inM_snoc]
  generalize hv0:l.getD 0 default=v0 at hr hsn
  generalize ha:(fun n:Nat=>inM v0 (ofV false) (r.take n))=acc
  have ha0:acc 0=ofV false:=by rw [<-ha];rfl
  have hsn: ∀n,n<r.length->acc (n+1)=orM (acc n) (yL v0 (r.getD n default)):=fun n h=>by rw [<-ha];exact hsn n h
  have haN:acc r.length=inM v0 (ofV false) r:=by rw [<-ha];simp
  rw [<-haN] at hr
  refine zn mixed ttok 170 [1,4,5,168,169] [4] (by simp only [z6,ends,push_cast,simprocAttr];rfl) (by simp only [zB,zo,ends,push_cast,simprocAttr];rfl) r.length (fun _=>True) (fun _=>[]) (fun n=>[(5,.var [.d (.lit (.int .i64 (acc n).kind)),.d (.lit (.int .i64 (acc n).num)),.d (.lit (.string (acc n).text))])]) trivial ?_ ?_
  ·exact Weak.keepL (by simp [cst,ha0,ends]) (by simp [cst,ha0,ends]) (by simp [cst,ha0,ends])
  intro I hI n hn hi
  simp -implicitDefEqProofs only [cst,↓zb,push_cast,simprocAttr,tte]
  refine za (fun h=>?_) fun h=>?_
  ·simp only [decide_eq_true_eq] at h
   have h':n<r.length:=by omega
   have hw:=zj h' (by omega)
   refine ⟨(by first | omega | trivial | (refine ⟨?_,?_⟩<;>first | omega | trivial | (refine ⟨?_,?_⟩<;>first | omega | trivial | (refine ⟨?_,?_⟩<;>first | omega | trivial | rfl)))),by omega,?_⟩
   rw [hv0]
   refine zd [[0,0,0],[0,0,0]] [] (c_equal v0 (r.getD n default)) ?_
   simp -implicitDefEqProofs only [tabN,aV,↓zb,push_cast,simprocAttr,tte]
   refine zd [[0,0,0],[0,0,0]] [] (c_or2 (acc n) (yL v0 (r.getD n default))) ?_
   simp -implicitDefEqProofs only [tabN,aV,↓zb,push_cast,simprocAttr,tte]
   refine ⟨zg (by kernel_rfl),?_⟩
   rw [<-hsn n h']
   exact zl hI n rfl h' trivial (by simp [hw,ends]) (by simp [hw,ends]) (by simp [hw,ends]) (by simp [hw,ends])
  ·have hn':n=r.length:=by simp at h;omega
   subst hn'
   exact zu (by first | trivial | (simp;done) | (simp;omega)) (by rw [<-hr]<;>first | rfl | (simp [zq];done) | (simp_all [zq];done)) (by simp [ends])
 ·have hM:zz op l=zq:=by
   simp only [beq_eq_false_iff_ne,ne_eq] at h6 h7 h8 h9 h10 h11 h12 h13 h14 h15 h16 h17 h18 h19 h20 h21 h22 h23 h24 h25 h27 h28
   simp only [zz, *,or_self,if_false]
  rw [hM] at hr
  exact zu (by first | trivial | (simp;done) | (simp;omega)) (by rw [<-hr]<;>first | rfl | (simp [zq];done) | (simp_all [zq];done)) (by simp [ends])
end
section
open Go.Am
attribute [local simp, local push_cast] num boo str ints aV aTab zA aS aT aC aRow aOp
def zW (row:List Val) (e:Ex) (vs:List Val):Val:=
 if yw e=false then zq
 else if e.op=2 then ⟨1,e.num,ByteArray.empty⟩ else if e.op=3 then ⟨2,e.num,ByteArray.empty⟩ else if e.op=4 then ⟨3,0,e.text⟩
 else if e.op=5 then (if 0<=e.col/\e.col<row.length then row.getD e.col.toNat default else zq)
 else if e.op=26 then (if zP (vs.getD 0 default)=1 then vs.getD 1 default else vs.getD 2 default)
 else zz e.op vs
mutual
def xN (row:List Val):Ex->Val
 | .mk a b c d g ks=>zW row (.mk a b c d g ks) (evalL row ks)
def evalL (row:List Val):List Ex->List Val
 | []=>[]
 | e::l=>xN row e::evalL row l
end
theorem evalL_eq (row:List Val): ∀l,evalL row l=l.map (xN row)
 | []=>rfl
 | e::l=>by rw [evalL,evalL_eq row l];rfl
theorem evalM_eq (row:List Val) (e:Ex):xN row e=zW row e (e.kids.map (xN row)):=by cases e;rw [xN,evalL_eq];rfl
def wj (row:List Val) (e:Ex) (n:Nat):List Val:=(e.kids.take n).map (xN row)
theorem valsTo_succ (row:List Val) (e:Ex) (n:Nat) (h:n<e.kids.length):wj row e (n+1)=wj row e n++[xN row (e.kids.getD n default)]:=by
 rw [wj,zH _ _ h,List.map_append];rfl
theorem kJ (row:List Val) (e:Ex) (n:Nat) (h:n<=e.kids.length):(wj row e n).length=n:=by simp [wj];omega
theorem kids_op {e:Ex} (h:yw e=true):yj e.op e.kids.length=true:=by
 have:isOp e.op=true:=by simp only [yw,Bool.and_eq_true] at h;exact h.1
 rw [jo this];exact h
theorem getD_map {α β:Type} [Inhabited α] [Inhabited β] (f:α->β) (l:List α) (n:Nat) (h:n<l.length):(l.map f).getD n default=f (l.getD n default):=by
 simp [List.getD_eq_getElem?_getD,h]
theorem c_eval (row:List Val): ∀e:Ex,Ok12 e→ACall Tryz.prog 171 [aE e,aRow row] [] (aV (xN row e)) []:=
 jr (p:=fun e=>Ok12 e->ACall Tryz.prog 171 [aE e,aRow row] [] (aV (xN row e)) []) fun e ih ho=>by
 refine zp mixed ttok Tryz.func171 Tryz.ntmps171 Tryz.results171 ?_
 generalize hr:aV (xN row e)=R
 have hl:=ho.kids
 rw [evalM_eq] at hr
 unfold zW at hr
 simp -implicitDefEqProofs only [argT,tabN,↓zb,push_cast,simprocAttr,tte]
 refine zd [[0,0,0,0,0,6]] [] (c_known e) ?_
 simp -implicitDefEqProofs only [tabN,aOp,↓zb,push_cast,simprocAttr,tte]
 refine za (fun hc=>?_) fun hc=>?_
 ·rw [if_pos (by simpa using hc)] at hr
  exact zu (by first | trivial | (simp;done) | (simp;omega)) (by rw [<-hr]<;>first | rfl | (simp [zq];done) | (simp_all [zq];done)) (by simp [ends])
 have hc':yw e=true:=by simpa using hc
 rw [if_neg (by rw [hc'];decide)] at hr
 have hkk:=kids_op hc'
 refine za (fun h2=>?_) fun h2=>?_
 ·rw [if_pos (by simpa using h2)] at hr
  exact zu (by first | trivial | (simp;done) | (simp;omega)) (by rw [<-hr]<;>first | rfl | (simp [zq];done) | (simp_all [zq];done)) (by simp [ends])
 rw [if_neg (by simpa using h2)] at hr
 refine za (fun h3=>?_) fun h3=>?_
 ·rw [if_pos (by simpa using h3)] at hr
  exact zu (by first | trivial | (simp;done) | (simp;omega)) (by rw [<-hr]<;>first | rfl | (simp [zq];done) | (simp_all [zq];done)) (by simp [ends])
 rw [if_neg (by simpa using h3)] at hr
 refine za (fun h4=>?_) fun h4=>?_
 ·rw [if_pos (by simpa using h4)] at hr
  exact zu (by first | trivial | (simp;done) | (simp;omega)) (by rw [<-hr]<;>first | rfl | (simp [zq];done) | (simp_all [zq];done)) (by simp [ends])
 rw [if_neg (by simpa using h4)] at hr
 refine za (fun h5=>?_) fun h5=>?_
 ·rw [if_pos (by simpa using h5)] at hr
  refine za (fun g1=>?_) fun g1=>?_
  ·simp only [ge_iff_le,decide_eq_true_eq] at g1
   refine za (fun g2=>?_) fun g2=>?_
   ·simp only [decide_eq_true_eq] at g2
    rw [if_pos ⟨g1,g2⟩] at hr
    refine ⟨⟨g1,g2⟩,?_⟩
    exact zu (by first | trivial | (simp;done) | (simp;omega)) (by rw [<-hr]<;>first | rfl | (simp [zq];done) | (simp_all [zq];done)) (by simp [ends])
   ·simp only [decide_eq_false_iff_not] at g2
    rw [if_neg (fun h=>g2 h.2)] at hr
    exact zu (by first | trivial | (simp;done) | (simp;omega)) (by rw [<-hr]<;>first | rfl | (simp [zq];done) | (simp_all [zq];done)) (by simp [ends])
  ·simp only [ge_iff_le,decide_eq_false_iff_not] at g1
   rw [if_neg (fun h=>g1 h.1)] at hr
   exact zu (by first | trivial | (simp;done) | (simp;omega)) (by rw [<-hr]<;>first | rfl | (simp [zq];done) | (simp_all [zq];done)) (by simp [ends])
 rw [if_neg (by simpa using h5)] at hr
 refine za (fun h26=>?_) fun h26=>?_
 ·have e26:e.op=26:=by simpa using h26
  rw [if_pos e26] at hr
  have hl3:e.kids.length=3:=by
   rw [e26] at hkk
   have:(e.kids.length:Int)=3:=by simpa [yj] using hkk
   omega
  rw [getD_map _ _ _ (by omega),getD_map _ _ _ (by omega),getD_map _ _ _ (by omega)] at hr
  have hg: ∀n,n<3->e.kids.getD n default∈e.kids:=fun n h=>zi (by omega)
  refine ⟨by omega,?_⟩
  refine zd [[0,0,0,0,0,6],[3]] [] (ih _ (hg 0 (by omega)) (ho.kid (hg 0 (by omega)))) ?_
  simp -implicitDefEqProofs only [tabN,aV,↓zb,push_cast,simprocAttr,tte]
  refine zd [[0,0,0]] [] (uv (xN row (e.kids.getD 0 default))) ?_
  simp -implicitDefEqProofs only [tabN,aV,↓zb,push_cast,simprocAttr,tte]
  refine za (fun g=>?_) fun g=>?_
  ·rw [if_pos (by simpa using g)] at hr
   refine ⟨by omega,?_⟩
   refine zd [[0,0,0,0,0,6],[3]] [] (ih _ (hg 1 (by omega)) (ho.kid (hg 1 (by omega)))) ?_
   simp -implicitDefEqProofs only [tabN,aV,↓zb,push_cast,simprocAttr,tte]
   exact zu (by first | trivial | (simp;done) | (simp;omega)) (by rw [<-hr]<;>first | rfl | (simp [zq];done) | (simp_all [zq];done)) (by simp [ends])
  ·rw [if_neg (by simpa using g)] at hr
   refine ⟨by omega,?_⟩
   refine zd [[0,0,0,0,0,6],[3]] [] (ih _ (hg 2 (by omega)) (ho.kid (hg 2 (by omega)))) ?_
   simp -implicitDefEqProofs only [tabN,aV,↓zb,push_cast,simprocAttr,tte]
   exact zu (by first | trivial | (simp;done) | (simp;omega)) (by rw [<-hr]<;>first | rfl | (simp [zq];done) | (simp_all [zq];done)) (by simp [ends])
 rw [if_neg (by simpa using h26)] at hr
 refine zn mixed ttok 80 [1,2,4,78,79] [2,4] (by simp only [z6,ends,push_cast,simprocAttr];rfl) (by simp only [zB,zo,ends,push_cast,simprocAttr];rfl) e.kids.length (fun _=>True) (fun n=>[(8,.vec 500 n)]) (fun n=>[(500,.vec 45 3 (ze rV (wj row e n)) 0)]) trivial ?_ ?_
 ·exact (Weak.nilL 8 500 45 3 rfl rfl).trans (Weak.keepL (by simp [cst,ends]) (by simp [cst,wj,ends]) (by simp [cst,ends]))
 intro I hI n hn hi
 have hl2:=kJ row e n hn
 simp -implicitDefEqProofs only [cst,↓zb,push_cast,simprocAttr,tte]
 refine za (fun h=>?_) fun h=>?_
 ·simp only [decide_eq_true_eq] at h
  have h':n<e.kids.length:=by omega
  have hw:=zj h' (by omega)
  have hs:=valsTo_succ row e n h'
  refine ⟨(by first | omega | trivial | (refine ⟨?_,?_⟩<;>first | omega | trivial | (refine ⟨?_,?_⟩<;>first | omega | trivial | (refine ⟨?_,?_⟩<;>first | omega | trivial | rfl)))),?_⟩
  refine zd [[0,0,0,0,0,6],[3]] [] (ih _ (zi h') (ho.kid (zi h'))) ?_
  simp -implicitDefEqProofs only [tabN,aV,↓zb,push_cast,simprocAttr,tte]
  refine ⟨⟨hl2.symm,by rw [hl2];omega⟩,?_⟩
  exact zl hI n rfl h' trivial (by simp [hw,hs,hl2,zf,rV,ends]) (by simp [hw,hs,hl2,zf,rV,ends]) (by simp [hw,hs,hl2,zf,rV,ends]) (by simp [hw,hs,hl2,zf,rV,ends])
 simp only [decide_eq_false_iff_not] at h
 obtain rfl:n=e.kids.length:=by omega
 clear hI
 have hT:wj row e e.kids.length=e.kids.map (xN row):=by rw [wj,List.take_length]
 rw [<-hT] at hr
 rw [<-hl2] at hkk hl
 generalize wj row e e.kids.length=l at hl2 hr hkk hl ⊢
 refine zd [[0],[3]] [] (c_apply e.op l hkk (by omega)) ?_
 simp -implicitDefEqProofs only [tabN,aV,↓zb,push_cast,simprocAttr,tte]
 exact zu (by first | trivial | (simp;done) | (simp;omega)) (by rw [<-hr]<;>first | rfl | (simp [zq];done) | (simp_all [zq];done)) (by simp [ends])
end
section
open Go.Am
attribute [local simp, local push_cast] num boo str ints aV aTab zA aS aT aC aRow aOp
theorem orM_false (a b:Val):orM (ofV false) (yL a b)=yL a b:=by
 unfold yL
 split
 ·rfl
 ·cases wE a b<;>rfl
theorem qk {row:List Val} {e:Ex} {vs:List Val} (h:yw e=false):zW row e vs=zq:=by rw [zW,if_pos h]
theorem c_reval (row:List Val): ∀e:Ex,Ok12 e→ACall Tryz.prog 133 [aE e,aRow row] [] (aV (xN row e)) []:=
 jr (p:=fun e=>Ok12 e->ACall Tryz.prog 133 [aE e,aRow row] [] (aV (xN row e)) []) fun e ih ho=>by
 refine zp mixed ttok Tryz.func133 Tryz.ntmps133 Tryz.results133 ?_
 generalize hr:aV (xN row e)=R
 have hl:=ho.kids
 rw [evalM_eq] at hr
 simp -implicitDefEqProofs only [argT,tabN,↓zb,push_cast,simprocAttr,tte]
 refine za (fun g1=>?_) fun g1=>?_
 ·simp only [decide_eq_true_eq] at g1
  have hc:yw e=false:=by
   have:isOp e.op=false:=by simp [isOp];omega
   rw [yw,this,Bool.false_and]
  rw [qk hc] at hr
  exact zu (by first | trivial | (simp;done) | (simp;omega)) (by rw [<-hr]<;>first | rfl | (simp [zq];done) | (simp_all [zq];done)) (by simp [ends])
 simp only [decide_eq_false_iff_not] at g1
 refine za (fun g2=>?_) fun g2=>?_
 ·simp only [gt_iff_lt,decide_eq_true_eq] at g2
  have hc:yw e=false:=by
   have:isOp e.op=false:=by simp [isOp];omega
   rw [yw,this,Bool.false_and]
  rw [qk hc] at hr
  exact zu (by first | trivial | (simp;done) | (simp;omega)) (by rw [<-hr]<;>first | rfl | (simp [zq];done) | (simp_all [zq];done)) (by simp [ends])
 simp only [gt_iff_lt,decide_eq_false_iff_not] at g2
 have hisop:isOp e.op=true:=by simp [isOp];omega
 refine zd [[0],[0]] [] (c_rkids e.op e.kids.length) ?_
 simp -implicitDefEqProofs only [tabN,aV,↓zb,push_cast,simprocAttr,tte]
 refine za (fun g3=>?_) fun g3=>?_
 ·have hc:yw e=false:=by rw [←jo hisop];simpa using g3
  rw [qk hc] at hr
  exact zu (by first | trivial | (simp;done) | (simp;omega)) (by rw [<-hr]<;>first | rfl | (simp [zq];done) | (simp_all [zq];done)) (by simp [ends])
 have hc:yw e=true:=by rw [<-jo hisop];simpa using g3
 have hk:=kids_op hc
 refine zn mixed ttok 6 [1,2,4] [2,4] (by simp only [z6,ends,push_cast,simprocAttr];rfl) (by simp only [zB,zo,ends,push_cast,simprocAttr];rfl) e.kids.length (fun _=>True) (fun n=>[(5,.vec 500 n)]) (fun n=>[(500,.vec 45 3 (ze rV (wj row e n)) 0)]) trivial ?_ ?_
 ·exact (Weak.nilL 5 500 45 3 rfl rfl).trans (Weak.keepL (by simp [cst,ends]) (by simp [cst,wj,ends]) (by simp [cst,ends]))
 intro I hI n hn hi
 have hl2:=kJ row e n hn
 simp -implicitDefEqProofs only [cst,↓zb,push_cast,simprocAttr,tte]
 refine za (fun h=>?_) fun h=>?_
 ·simp only [decide_eq_true_eq] at h
  have h':n<e.kids.length:=by omega
  have hw:=zj h' (by omega)
  have hs:=valsTo_succ row e n h'
  refine ⟨(by first | omega | trivial | (refine ⟨?_,?_⟩<;>first | omega | trivial | (refine ⟨?_,?_⟩<;>first | omega | trivial | (refine ⟨?_,?_⟩<;>first | omega | trivial | rfl)))),?_⟩
  refine zd [[0,0,0,0,0,6],[3]] [] (ih _ (zi h') (ho.kid (zi h'))) ?_
  simp -implicitDefEqProofs only [tabN,aV,↓zb,push_cast,simprocAttr,tte]
  refine ⟨⟨hl2.symm,by rw [hl2];omega⟩,?_⟩
  exact zl hI n rfl h' trivial (by simp [hw,hs,hl2,zf,rV,ends]) (by simp [hw,hs,hl2,zf,rV,ends]) (by simp [hw,hs,hl2,zf,rV,ends]) (by simp [hw,hs,hl2,zf,rV,ends])
 simp only [decide_eq_false_iff_not] at h
 obtain rfl:n=e.kids.length:=by omega
 clear hI
 have hT:wj row e e.kids.length=e.kids.map (xN row):=by rw [wj,List.take_length]
 rw [<-hT] at hr
 rw [<-hl2] at hk hl
 generalize wj row e e.kids.length=l at hl2 hr hk hl ⊢
 refine za (fun h1=>?_) fun h1=>?_
 ·have op:e.op=1:=by simpa using h1
  have hM:zW row e l=zq:=by simp [zW,zz,hc,op]
  rw [hM] at hr
  exact zu (by first | trivial | (simp;done) | (simp;omega)) (by rw [<-hr]<;>first | rfl | (simp [zq];done) | (simp_all [zq];done)) (by simp [ends])
 refine za (fun h2=>?_) fun h2=>?_
 ·have op:e.op=2:=by simpa using h2
  have hM:zW row e l=⟨1,e.num,ByteArray.empty⟩:=by simp [zW,zz,hc,op]
  rw [hM] at hr
  exact zu (by first | trivial | (simp;done) | (simp;omega)) (by rw [<-hr]<;>first | rfl | (simp [zq];done) | (simp_all [zq];done)) (by simp [ends])
 refine za (fun h3=>?_) fun h3=>?_
 ·have op:e.op=3:=by simpa using h3
  have hM:zW row e l=⟨2,e.num,ByteArray.empty⟩:=by simp [zW,zz,hc,op]
  rw [hM] at hr
  exact zu (by first | trivial | (simp;done) | (simp;omega)) (by rw [<-hr]<;>first | rfl | (simp [zq];done) | (simp_all [zq];done)) (by simp [ends])
 refine za (fun h4=>?_) fun h4=>?_
 ·have op:e.op=4:=by simpa using h4
  have hM:zW row e l=⟨3,0,e.text⟩:=by simp [zW,zz,hc,op]
  rw [hM] at hr
  exact zu (by first | trivial | (simp;done) | (simp;omega)) (by rw [<-hr]<;>first | rfl | (simp [zq];done) | (simp_all [zq];done)) (by simp [ends])
 refine za (fun h5=>?_) fun h5=>?_
 ·have op:e.op=5:=by simpa using h5
  refine za (fun g1=>?_) fun g1=>?_
  ·simp only [decide_eq_true_eq] at g1
   have g2: ¬(0<=e.col/\e.col<row.length):=by omega
   have hM:zW row e l=zq:=by simp [zW,zz,hc,op, -not_and,g2]
   rw [hM] at hr
   exact zu (by first | trivial | (simp;done) | (simp;omega)) (by rw [<-hr]<;>first | rfl | (simp [zq];done) | (simp_all [zq];done)) (by simp [ends])
  refine za (fun g2=>?_) fun g2=>?_
  ·simp only [ge_iff_le,decide_eq_true_eq] at g2
   have g3: ¬(0<=e.col/\e.col<row.length):=by omega
   have hM:zW row e l=zq:=by simp [zW,zz,hc,op, -not_and,g3]
   rw [hM] at hr
   exact zu (by first | trivial | (simp;done) | (simp;omega)) (by rw [<-hr]<;>first | rfl | (simp [zq];done) | (simp_all [zq];done)) (by simp [ends])
  ·simp only [ge_iff_le,decide_eq_false_iff_not] at g1 g2
   have g3:0<=e.col/\e.col<row.length:=by omega
   have hM:zW row e l=row.getD e.col.toNat default:=by simp only [zW,hc,op];simp [g3]
   rw [hM] at hr
   refine ⟨g3,?_⟩
   exact zu (by first | trivial | (simp;done) | (simp;omega)) (by rw [<-hr]<;>first | rfl | (simp [zq];done) | (simp_all [zq];done)) (by simp [ends])
 refine za (fun h11=>?_) fun h11=>?_
 ·have op:e.op=11:=by simpa using h11
  rw [op] at hk
  have hM:zW row e l=uA 7 ⟨1,0,ByteArray.empty⟩ (l.getD 0 default):=by simp [zW,zz,hc,op]
  rw [hM] at hr
  have hl:1<=l.length:=len1 (by simpa [yj] using hk)
  repeat (refine And.intro (by first | omega | (refine ⟨?_,?_⟩<;>omega)) ?_)
  refine zd [[0],[0,0,0],[0,0,0]] [] (c_rarith 7 ⟨1,0,ByteArray.empty⟩ (l.getD 0 default)) ?_
  simp -implicitDefEqProofs only [tabN,aV,↓zb,push_cast,simprocAttr,tte]
  exact zu (by first | trivial | (simp;done) | (simp;omega)) (by rw [<-hr]<;>first | rfl | (simp [zq];done) | (simp_all [zq];done)) (by simp [ends])
 refine za (fun h13=>?_) fun h13=>?_
 ·have op:e.op=13:=by simpa using h13
  rw [op] at hk
  have hl:1<=l.length:=len1 (by simpa [yj] using hk)
  repeat (refine And.intro (by first | omega | (refine ⟨?_,?_⟩<;>omega)) ?_)
  refine za (fun g=>?_) fun g=>?_
  ·have g1: ¬(l.getD 0 default).kind=3:=by simpa using g
   rw [List.getD_eq_getElem?_getD] at g1
   have hM:zW row e l=zq:=by simp [zW,zz,hc,op,g1]
   rw [hM] at hr
   exact zu (by first | trivial | (simp;done) | (simp;omega)) (by rw [<-hr]<;>first | rfl | (simp [zq];done) | (simp_all [zq];done)) (by simp [ends])
  ·refine ⟨by omega,by omega,by omega,by omega,?_⟩
   have g1:(l.getD 0 default).kind=3:=by simpa using g
   have g2:=g1
   rw [List.getD_eq_getElem?_getD] at g2
   have hM:zW row e l=⟨1,(l.getD 0 default).text.size,ByteArray.empty⟩:=by simp [zW,zz,hc,op,g2]
   rw [hM] at hr
   exact zu (by first | trivial | (simp;done) | (simp;omega)) (by rw [<-hr]<;>first | rfl | (simp [zq];done) | (simp_all [zq];done)) (by simp [ends])
 refine za (fun h14=>?_) fun h14=>?_
 ·have op:e.op=14:=by simpa using h14
  rw [op] at hk
  have hM:zW row e l=yL (l.getD 0 default) (l.getD 1 default):=by simp [zW,zz,hc,op]
  rw [hM] at hr
  have hl:2<=l.length:=len2 (by simpa [yj] using hk)
  repeat (refine And.intro (by first | omega | (refine ⟨?_,?_⟩<;>omega)) ?_)
  refine zd [[0,0,0],[0,0,0]] [] (ga (l.getD 0 default) (l.getD 1 default)) ?_
  simp -implicitDefEqProofs only [tabN,aV,↓zb,push_cast,simprocAttr,tte]
  refine ⟨zg (by kernel_rfl),?_⟩
  exact zu (by first | trivial | (simp;done) | (simp;omega)) (by rw [<-hr]<;>first | rfl | (simp [zq];done) | (simp_all [zq];done)) (by simp [ends])
 refine za (fun h15=>?_) fun h15=>?_
 ·have op:e.op=15:=by simpa using h15
  rw [op] at hk
  have hM:zW row e l=notM (yL (l.getD 0 default) (l.getD 1 default)):=by simp [zW,zz,hc,op]
  rw [hM] at hr
  have hl:2<=l.length:=len2 (by simpa [yj] using hk)
  repeat (refine And.intro (by first | omega | (refine ⟨?_,?_⟩<;>omega)) ?_)
  refine zd [[0,0,0],[0,0,0]] [] (ga (l.getD 0 default) (l.getD 1 default)) ?_
  simp -implicitDefEqProofs only [tabN,aV,↓zb,push_cast,simprocAttr,tte]
  refine zd [[0,0,0]] [] (c_rnot (yL (l.getD 0 default) (l.getD 1 default))) ?_
  simp -implicitDefEqProofs only [tabN,aV,↓zb,push_cast,simprocAttr,tte]
  refine ⟨zg (by kernel_rfl),?_⟩
  exact zu (by first | trivial | (simp;done) | (simp;omega)) (by rw [<-hr]<;>first | rfl | (simp [zq];done) | (simp_all [zq];done)) (by simp [ends])
 refine za (fun h16=>?_) fun h16=>?_
 ·have op:e.op=16:=by simpa using h16
  rw [op] at hk
  have hM:zW row e l=wK (l.getD 0 default) (l.getD 1 default):=by simp [zW,zz,hc,op]
  rw [hM] at hr
  have hl:2<=l.length:=len2 (by simpa [yj] using hk)
  repeat (refine And.intro (by first | omega | (refine ⟨?_,?_⟩<;>omega)) ?_)
  refine zd [[0,0,0],[0,0,0]] [] (c_rless (l.getD 0 default) (l.getD 1 default)) ?_
  simp -implicitDefEqProofs only [tabN,aV,↓zb,push_cast,simprocAttr,tte]
  refine ⟨zg (by kernel_rfl),?_⟩
  exact zu (by first | trivial | (simp;done) | (simp;omega)) (by rw [<-hr]<;>first | rfl | (simp [zq];done) | (simp_all [zq];done)) (by simp [ends])
 refine za (fun h17=>?_) fun h17=>?_
 ·have op:e.op=17:=by simpa using h17
  rw [op] at hk
  have hM:zW row e l=notM (wK (l.getD 1 default) (l.getD 0 default)):=by simp [zW,zz,hc,op]
  rw [hM] at hr
  have hl:2<=l.length:=len2 (by simpa [yj] using hk)
  repeat (refine And.intro (by first | omega | (refine ⟨?_,?_⟩<;>omega)) ?_)
  refine zd [[0,0,0],[0,0,0]] [] (c_rless (l.getD 1 default) (l.getD 0 default)) ?_
  simp -implicitDefEqProofs only [tabN,aV,↓zb,push_cast,simprocAttr,tte]
  refine zd [[0,0,0]] [] (c_rnot (wK (l.getD 1 default) (l.getD 0 default))) ?_
  simp -implicitDefEqProofs only [tabN,aV,↓zb,push_cast,simprocAttr,tte]
  refine ⟨zg (by kernel_rfl),?_⟩
  exact zu (by first | trivial | (simp;done) | (simp;omega)) (by rw [<-hr]<;>first | rfl | (simp [zq];done) | (simp_all [zq];done)) (by simp [ends])
 refine za (fun h18=>?_) fun h18=>?_
 ·have op:e.op=18:=by simpa using h18
  rw [op] at hk
  have hM:zW row e l=wK (l.getD 1 default) (l.getD 0 default):=by simp [zW,zz,hc,op]
  rw [hM] at hr
  have hl:2<=l.length:=len2 (by simpa [yj] using hk)
  repeat (refine And.intro (by first | omega | (refine ⟨?_,?_⟩<;>omega)) ?_)
  refine zd [[0,0,0],[0,0,0]] [] (c_rless (l.getD 1 default) (l.getD 0 default)) ?_
  simp -implicitDefEqProofs only [tabN,aV,↓zb,push_cast,simprocAttr,tte]
  refine ⟨zg (by kernel_rfl),?_⟩
  exact zu (by first | trivial | (simp;done) | (simp;omega)) (by rw [<-hr]<;>first | rfl | (simp [zq];done) | (simp_all [zq];done)) (by simp [ends])
 refine za (fun h19=>?_) fun h19=>?_
 ·have op:e.op=19:=by simpa using h19
  rw [op] at hk
  have hM:zW row e l=notM (wK (l.getD 0 default) (l.getD 1 default)):=by simp [zW,zz,hc,op]
  rw [hM] at hr
  have hl:2<=l.length:=len2 (by simpa [yj] using hk)
  repeat (refine And.intro (by first | omega | (refine ⟨?_,?_⟩<;>omega)) ?_)
  refine zd [[0,0,0],[0,0,0]] [] (c_rless (l.getD 0 default) (l.getD 1 default)) ?_
  simp -implicitDefEqProofs only [tabN,aV,↓zb,push_cast,simprocAttr,tte]
  refine zd [[0,0,0]] [] (c_rnot (wK (l.getD 0 default) (l.getD 1 default))) ?_
  simp -implicitDefEqProofs only [tabN,aV,↓zb,push_cast,simprocAttr,tte]
  refine ⟨zg (by kernel_rfl),?_⟩
  exact zu (by first | trivial | (simp;done) | (simp;omega)) (by rw [<-hr]<;>first | rfl | (simp [zq];done) | (simp_all [zq];done)) (by simp [ends])
 refine za (fun h20=>?_) fun h20=>?_
 ·have op:e.op=20:=by simpa using h20
  rw [op] at hk
  have hM:zW row e l=ofV (wE (l.getD 0 default) (l.getD 1 default)):=by simp [zW,zz,hc,op]
  rw [hM] at hr
  have hl:2<=l.length:=len2 (by simpa [yj] using hk)
  repeat (refine And.intro (by first | omega | (refine ⟨?_,?_⟩<;>omega)) ?_)
  refine zd [[0,0,0],[0,0,0]] [] (c_rsame (l.getD 0 default) (l.getD 1 default)) ?_
  simp -implicitDefEqProofs only [tabN,aV,↓zb,push_cast,simprocAttr,tte]
  refine zd [[0]] [] (c_of (wE (l.getD 0 default) (l.getD 1 default))) ?_
  simp -implicitDefEqProofs only [tabN,aV,↓zb,push_cast,simprocAttr,tte]
  refine ⟨zg (by kernel_rfl),?_⟩
  exact zu (by first | trivial | (simp;done) | (simp;omega)) (by rw [<-hr]<;>first | rfl | (simp [zq];done) | (simp_all [zq];done)) (by simp [ends])
 refine za (fun h21=>?_) fun h21=>?_
 ·have op:e.op=21:=by simpa using h21
  rw [op] at hk
  have hM:zW row e l=ofV ((l.getD 0 default).kind==0):=by simp [zW,zz,hc,op]
  rw [hM] at hr
  have hl:1<=l.length:=len1 (by simpa [yj] using hk)
  repeat (refine And.intro (by first | omega | (refine ⟨?_,?_⟩<;>omega)) ?_)
  refine zd [[0]] [] (c_of ((l.getD 0 default).kind==0)) ?_
  simp -implicitDefEqProofs only [tabN,aV,↓zb,push_cast,simprocAttr,tte]
  exact zu (by first | trivial | (simp;done) | (simp;omega)) (by rw [<-hr]<;>first | rfl | (simp [zq];done) | (simp_all [zq];done)) (by simp [ends])
 refine za (fun h22=>?_) fun h22=>?_
 ·have op:e.op=22:=by simpa using h22
  rw [op] at hk
  have hM:zW row e l=andM (l.getD 0 default) (l.getD 1 default):=by simp [zW,zz,hc,op]
  rw [hM] at hr
  have hl:2<=l.length:=len2 (by simpa [yj] using hk)
  repeat (refine And.intro (by first | omega | (refine ⟨?_,?_⟩<;>omega)) ?_)
  refine zd [[0,0,0],[0,0,0]] [] (c_rand (l.getD 0 default) (l.getD 1 default)) ?_
  simp -implicitDefEqProofs only [tabN,aV,↓zb,push_cast,simprocAttr,tte]
  refine ⟨zg (by kernel_rfl),?_⟩
  exact zu (by first | trivial | (simp;done) | (simp;omega)) (by rw [<-hr]<;>first | rfl | (simp [zq];done) | (simp_all [zq];done)) (by simp [ends])
 refine za (fun h23=>?_) fun h23=>?_
 ·have op:e.op=23:=by simpa using h23
  rw [op] at hk
  have hM:zW row e l=orM (l.getD 0 default) (l.getD 1 default):=by simp [zW,zz,hc,op]
  rw [hM] at hr
  have hl:2<=l.length:=len2 (by simpa [yj] using hk)
  repeat (refine And.intro (by first | omega | (refine ⟨?_,?_⟩<;>omega)) ?_)
  refine zd [[0,0,0],[0,0,0]] [] (c_ror (l.getD 0 default) (l.getD 1 default)) ?_
  simp -implicitDefEqProofs only [tabN,aV,↓zb,push_cast,simprocAttr,tte]
  refine ⟨zg (by kernel_rfl),?_⟩
  exact zu (by first | trivial | (simp;done) | (simp;omega)) (by rw [<-hr]<;>first | rfl | (simp [zq];done) | (simp_all [zq];done)) (by simp [ends])
 refine za (fun h24=>?_) fun h24=>?_
 ·have op:e.op=24:=by simpa using h24
  rw [op] at hk
  have hM:zW row e l=notM (l.getD 0 default):=by simp [zW,zz,hc,op]
  rw [hM] at hr
  have hl:1<=l.length:=len1 (by simpa [yj] using hk)
  repeat (refine And.intro (by first | omega | (refine ⟨?_,?_⟩<;>omega)) ?_)
  refine zd [[0,0,0]] [] (c_rnot (l.getD 0 default)) ?_
  simp -implicitDefEqProofs only [tabN,aV,↓zb,push_cast,simprocAttr,tte]
  exact zu (by first | trivial | (simp;done) | (simp;omega)) (by rw [<-hr]<;>first | rfl | (simp [zq];done) | (simp_all [zq];done)) (by simp [ends])
 refine za (fun h25=>?_) fun h25=>?_
 ·have op:e.op=25:=by simpa using h25
  rw [op] at hk
  have hM:zW row e l=ofV (zP (l.getD 0 default)==1):=by simp [zW,zz,hc,op]
  rw [hM] at hr
  have hl:1<=l.length:=len1 (by simpa [yj] using hk)
  repeat (refine And.intro (by first | omega | (refine ⟨?_,?_⟩<;>omega)) ?_)
  refine zd [[0,0,0]] [] (vp (l.getD 0 default)) ?_
  simp -implicitDefEqProofs only [tabN,aV,↓zb,push_cast,simprocAttr,tte]
  refine zd [[0]] [] (c_of (zP (l.getD 0 default)==1)) ?_
  simp -implicitDefEqProofs only [tabN,aV,↓zb,push_cast,simprocAttr,tte]
  exact zu (by first | trivial | (simp;done) | (simp;omega)) (by rw [<-hr]<;>first | rfl | (simp [zq];done) | (simp_all [zq];done)) (by simp [ends])
 refine za (fun h26=>?_) fun h26=>?_
 ·have op:e.op=26:=by simpa using h26
  rw [op] at hk
  have hl:3≤l.length:=by have:(l.length:Int)=3:=by simpa [yj] using hk
                         omega
  repeat (refine And.intro (by first | omega | (refine ⟨?_,?_⟩<;>omega)) ?_)
  refine zd [[0,0,0]] [] (vp (l.getD 0 default)) ?_
  simp -implicitDefEqProofs only [tabN,aV,↓zb,push_cast,simprocAttr,tte]
  refine za (fun g=>?_) fun g=>?_
  ·have g1:zP (l.getD 0 default)=1:=by simpa using g
   rw [List.getD_eq_getElem?_getD] at g1
   have hM:zW row e l=(l.getD 1 default):=by simp [zW,zz,hc,op,g1]
   rw [hM] at hr
   refine ⟨(by first | omega | trivial | (refine ⟨?_,?_⟩<;>first | omega | trivial | (refine ⟨?_,?_⟩<;>first | omega | trivial | (refine ⟨?_,?_⟩<;>first | omega | trivial | rfl)))),by omega,by omega,?_⟩
   exact zu (by first | trivial | (simp;done) | (simp;omega)) (by rw [<-hr]<;>first | rfl | (simp [zq];done) | (simp_all [zq];done)) (by simp [ends])
  ·have g1: ¬zP (l.getD 0 default)=1:=by simpa using g
   rw [List.getD_eq_getElem?_getD] at g1
   have hM:zW row e l=(l.getD 2 default):=by simp [zW,zz,hc,op,g1]
   rw [hM] at hr
   refine ⟨(by first | omega | trivial | (refine ⟨?_,?_⟩<;>first | omega | trivial | (refine ⟨?_,?_⟩<;>first | omega | trivial | (refine ⟨?_,?_⟩<;>first | omega | trivial | rfl)))),by omega,by omega,?_⟩
   exact zu (by first | trivial | (simp;done) | (simp;omega)) (by rw [<-hr]<;>first | rfl | (simp [zq];done) | (simp_all [zq];done)) (by simp [ends])
 refine za (fun h27=>?_) fun h27=>?_
 ·have op:e.op=27:=by simpa using h27
  rw [op] at hk
  have hl:2<=l.length:=len2 (by simpa [yj] using hk)
  repeat (refine And.intro (by first | omega | (refine ⟨?_,?_⟩<;>omega)) ?_)
  refine za (fun g=>?_) fun g=>?_
  ·have g1: ¬(l.getD 0 default).kind=0:=by simpa using g
   rw [List.getD_eq_getElem?_getD] at g1
   have hM:zW row e l=(l.getD 0 default):=by simp [zW,zz,hc,op,g1]
   rw [hM] at hr
   refine ⟨(by first | omega | trivial | (refine ⟨?_,?_⟩<;>first | omega | trivial | (refine ⟨?_,?_⟩<;>first | omega | trivial | (refine ⟨?_,?_⟩<;>first | omega | trivial | rfl)))),by omega,by omega,?_⟩
   exact zu (by first | trivial | (simp;done) | (simp;omega)) (by rw [<-hr]<;>first | rfl | (simp [zq];done) | (simp_all [zq];done)) (by simp [ends])
  ·have g1:(l.getD 0 default).kind=0:=by simpa using g
   rw [List.getD_eq_getElem?_getD] at g1
   have hM:zW row e l=(l.getD 1 default):=by simp [zW,zz,hc,op,g1]
   rw [hM] at hr
   refine ⟨(by first | omega | trivial | (refine ⟨?_,?_⟩<;>first | omega | trivial | (refine ⟨?_,?_⟩<;>first | omega | trivial | (refine ⟨?_,?_⟩<;>first | omega | trivial | rfl)))),by omega,by omega,?_⟩
   exact zu (by first | trivial | (simp;done) | (simp;omega)) (by rw [<-hr]<;>first | rfl | (simp [zq];done) | (simp_all [zq];done)) (by simp [ends])
 refine za (fun h28=>?_) fun h28=>?_
 ·have op:e.op=28:=by simpa using h28
  rw [op] at hk
  have hl0:2≤l.length:=by have:(l.length:Int)≥2:=by simpa [yj] using hk
                          omega
  have hM:zW row e l=inM (l.getD 0 default) (yL (l.getD 0 default) (l.getD 1 default)) (l.drop 2):=by
   simp only [zW,hc,op]
   show inM (l.getD 0 default) (ofV false) (l.drop 1)=_
   rw [zR _ 1 (by omega),inM,orM_false]
  rw [hM] at hr
  generalize hv0:l.getD 0 default=v0 at hr ⊢
  have hacc: ∃acc:Nat->Val,acc 2=yL v0 (l.getD 1 default)/\(∀n,n<l.length->2<=n->acc (n+1)=orM (acc n) (yL v0 (l.getD n default)))/\acc l.length=inM v0 (yL v0 (l.getD 1 default)) (l.drop 2):=by
   refine ⟨fun n=>inM v0 (yL v0 (l.getD 1 default)) ((l.drop 2).take (n-2)),by simp [inM],fun n h1 h2=>?_,?_⟩
   ·have e1:n+1-2=(n-2)+1:=by omega
    have e2:(l.drop 2).getD (n-2) default=l.getD n default:=by
     simp only [List.getD_eq_getElem?_getD,List.getElem?_drop]
     rw [show 2+(n-2)=n by omega]
    simp only []
    rw [e1,zH _ _ (by simp;omega),inM_snoc,e2]
   ·simp only []
    rw [List.take_of_length_le (by simp)]
  obtain ⟨acc,ha2,has,haN⟩:=hacc
  rw [<-haN] at hr
  repeat (refine And.intro (by first | omega | (refine ⟨?_,?_⟩<;>omega)) ?_)
  refine zd [[0,0,0],[0,0,0]] [] (ga v0 (l.getD 1 default)) ?_
  simp -implicitDefEqProofs only [tabN,aV,↓zb,push_cast,simprocAttr,tte]
  refine ⟨zg (by kernel_rfl),?_⟩
  rw [<-ha2]
  refine yc mixed ttok (fun n:Nat=>(⟨[(8,.d (.lit (.int .i64 n))),(5,.vec 500 l.length),(4,.ptr 4 0),(7,.ptr 7 0)],[(500,.vec 45 3 (ze rV l) 0),(7,.var [.d (.lit (.int .i64 (acc n).kind)),.d (.lit (.int .i64 (acc n).num)),.d (.lit (.string (acc n).text))]),(4,.var [.d (.lit (.int .i64 0)),.d (.lit (.int .i64 0)),.d (.lit (.string ByteArray.empty))])]⟩:SL)) (fun n=>l.length-n) (fun n=>2<=n/\n<=l.length) 2 ⟨by omega,by omega⟩ ?_ ?_
  ·exact Weak.keepL (by simp [hl2,ends]) (by simp [ends]) (by simp [ends])
  intro I hI n ⟨hn1,hn⟩
  simp -implicitDefEqProofs only [↓zb,push_cast,simprocAttr,tte]
  refine za (fun h=>?_) fun h=>?_
  ·simp only [decide_eq_true_eq] at h
   have h':n<l.length:=by omega
   have hw:=zj h' (by omega)
   repeat (refine And.intro (by first | omega | (refine ⟨?_,?_⟩<;>omega)) ?_)
   simp only [hv0]
   refine zd [[0,0,0],[0,0,0]] [] (ga v0 (l.getD n default)) ?_
   simp -implicitDefEqProofs only [tabN,aV,↓zb,push_cast,simprocAttr,tte]
   refine zd [[0,0,0],[0,0,0]] [] (c_ror (acc n) (yL v0 (l.getD n default))) ?_
   simp -implicitDefEqProofs only [tabN,aV,↓zb,push_cast,simprocAttr,tte]
   refine ⟨zg (by kernel_rfl),?_⟩
   rw [<-has n h' hn1]
   exact zw hI (n+1) ⟨by omega,by omega⟩ (by show l.length-(n+1)<l.length-n;omega) (Weak.keepL (by simp [hw,ends]) (by simp [ends]) (by simp [ends]))
  ·simp only [decide_eq_false_iff_not] at h
   obtain rfl:n=l.length:=by omega
   exact zu (by first | trivial | (simp;done) | (simp;omega)) (by rw [<-hr]<;>first | rfl | (simp [zq];done) | (simp_all [zq];done)) (by simp [ends])
 have hcase:e.op=6\/e.op=7\/e.op=8\/e.op=9\/e.op=10\/e.op=12:=by
  simp only [beq_eq_false_iff_ne,ne_eq] at h1 h2 h3 h4 h5 h11 h13 h14 h15 h16 h17 h18 h19 h20 h21 h22 h23 h24 h25 h26 h27 h28
  omega
 have hl0:2<=l.length:=by
  rcases hcase with h | h | h | h | h | h<;>rw [h] at hk<;>exact len2 (by simpa [yj] using hk)
 have hM:zW row e l=uA e.op (l.getD 0 default) (l.getD 1 default):=by
  rcases hcase with h | h | h | h | h | h<;>simp [zW,zz,hc,h]
 rw [hM] at hr
 repeat (refine And.intro (by first | omega | (refine ⟨?_,?_⟩<;>omega)) ?_)
 refine zd [[0],[0,0,0],[0,0,0]] [] (c_rarith e.op (l.getD 0 default) (l.getD 1 default)) ?_
 simp -implicitDefEqProofs only [tabN,aV,↓zb,push_cast,simprocAttr,tte]
 refine ⟨zg (by kernel_rfl),?_⟩
 exact zu (by first | trivial | (simp;done) | (simp;omega)) (by rw [<-hr]<;>first | rfl | (simp [zq];done) | (simp_all [zq];done)) (by simp [ends])
end
section
open Go.Am
attribute [local simp, local push_cast] num boo str ints aV aTab zA aS aT aC aRow rRow
def cmpR:List Val->List Val->Int
 | [],[]=>0
 | [],_::_=> -1
 | _::_,[]=>1
 | x::a,y::b=>if cmpM x y≠0 then cmpM x y else cmpR a b
theorem cmpR_end {a b:List Val} {n:Nat} (ha:n<=a.length) (hb:n<=b.length) (h:n=a.length\/n=b.length):
 cmpR (a.drop n) (b.drop n)=if a.length<b.length then -1 else if a.length>b.length then 1 else 0:=by
 rcases h with rfl | rfl
 ·rw [List.drop_length]
  by_cases h2:a.length<b.length
  ·rw [zR _ _ h2,if_pos h2];rfl
  ·have:b.drop a.length=[]:=List.drop_eq_nil_of_le (by omega)
   rw [this,if_neg h2,if_neg (by omega)];rfl
 ·rw [List.drop_length]
  by_cases h2:b.length<a.length
  ·rw [zR _ _ h2,if_neg (by omega),if_pos h2];rfl
  ·have:a.drop b.length=[]:=List.drop_eq_nil_of_le (by omega)
   rw [this,if_neg (by omega),if_neg (by omega)];rfl
theorem c_cmpRows (a b:List Val) (ha:a.length≤1000000):ACall Tryz.prog 70 [aRow a,aRow b] [] (num (cmpR a b)) []:=by
 refine zp mixed ttok Tryz.func70 Tryz.ntmps70 Tryz.results70 ?_
 generalize hr:num (cmpR a b)=R
 simp -implicitDefEqProofs only [argT,↓zb,push_cast,simprocAttr,tte]
 refine yc mixed ttok (fun n:Nat=>(⟨[(5,.d (.lit (.int .i64 n))),(0,aRow a),(1,aRow b)],[]⟩:SL)) (fun n=>a.length-n) (fun n=>n<=a.length/\n<=b.length/\cmpR (a.drop n) (b.drop n)=cmpR a b) 0 ⟨Nat.zero_le _,Nat.zero_le _,rfl⟩ ?_ ?_
 ·exact Weak.keepL (by simp [ends]) (by simp [ends]) (by simp [ends])
 intro I hI n ⟨hn,hn2,hi⟩
 simp -implicitDefEqProofs only [↓zb,push_cast,simprocAttr,tte]
 refine za (fun h1=>?_) fun h1=>?_
 ·simp only [decide_eq_true_eq] at h1
  have h1':n<a.length:=by omega
  refine za (fun h2=>?_) fun h2=>?_
  ·simp only [decide_eq_true_eq] at h2
   have h2':n<b.length:=by omega
   have hw:=zj h1' (by omega)
   rw [zR _ _ h1',zR _ _ h2',cmpR] at hi
   refine ⟨⟨by omega,h1⟩,⟨by omega,h2⟩,?_⟩
   refine zd [[0,0,0],[0,0,0]] [] (qp (a.getD n default) (b.getD n default)) ?_
   simp -implicitDefEqProofs only [↓zb,push_cast,simprocAttr,tte]
   refine ⟨zg (by kernel_rfl),?_⟩
   refine za (fun g=>?_) fun g=>?_
   ·rw [if_pos (by simpa using g)] at hi
    exact zk trivial (by rw [<-hr,<-hi];rfl) (by simp [ends])
   ·rw [if_neg (by simpa using g)] at hi
    exact zw hI (n+1) ⟨h1',h2',hi⟩ (by show a.length-(n+1)<a.length-n;omega) (Weak.keepL (by simp [hw,ends]) (by simp [ends]) (by simp [ends]))
  ·simp only [decide_eq_false_iff_not] at h2
   rw [cmpR_end hn hn2 (.inr (by omega))] at hi
   refine za (fun k1=>?_) fun k1=>?_
   ·simp only [decide_eq_true_eq] at k1
    exact zk trivial (by rw [<-hr,<-hi,if_pos (by omega)];rfl) (by simp [ends])
   refine za (fun k2=>?_) fun k2=>?_
   ·simp only [decide_eq_false_iff_not,gt_iff_lt,decide_eq_true_eq] at k1 k2
    exact zk trivial (by rw [<-hr,<-hi,if_neg (by omega),if_pos (by omega)];rfl) (by simp [ends])
   ·simp only [decide_eq_false_iff_not,gt_iff_lt] at k1 k2
    exact zk trivial (by rw [<-hr,<-hi,if_neg (by omega),if_neg (by omega)];rfl) (by simp [ends])
 ·simp only [decide_eq_false_iff_not] at h1
  rw [cmpR_end hn hn2 (.inl (by omega))] at hi
  refine za (fun k1=>?_) fun k1=>?_
  ·simp only [decide_eq_true_eq] at k1
   exact zk trivial (by rw [<-hr,<-hi,if_pos (by omega)];rfl) (by simp [ends])
  refine za (fun k2=>?_) fun k2=>?_
  ·simp only [decide_eq_false_iff_not,gt_iff_lt,decide_eq_true_eq] at k1 k2
   exact zk trivial (by rw [<-hr,<-hi,if_neg (by omega),if_pos (by omega)];rfl) (by simp [ends])
  ·simp only [decide_eq_false_iff_not,gt_iff_lt] at k1 k2
   exact zk trivial (by rw [<-hr,<-hi,if_neg (by omega),if_neg (by omega)];rfl) (by simp [ends])
end
end Go.Proofs.YtampbaaiddbacaaGreatDoor
