/- Made queries answer as specified (part Wb) -/
import Derived.Test.YtnmibokjpedkiaaGreatDoorWa
set_option maxRecDepth 100000
set_option maxHeartbeats 4000000
set_option linter.all false
namespace Go.Proofs.YtnmibokjpedkiaaGreatDoor
open Go.Am
section
def Ta:=And.intro @num.eq_1 <| And.intro @boo.eq_1 <| And.intro @str.eq_1 <| And.intro @ints.eq_1 <| And.intro @aV.eq_1 <| And.intro @aTab.eq_1 <| And.intro @z8.eq_1 <| And.intro @aS.eq_1 <| And.intro @aT.eq_1 <| @aC.eq_1
attribute [local simp, local push_cast] Ta
theorem zw {p:Prop} {k n:Int} {s:ByteArray} {t:UL} {o:UM} {R:A} (hp:p) (hr:aV ⟨k,n,s⟩=R) (ho:keepIn (inO []) o):
 retx (some (p,.agg [.d (.lit (.int .i64 k)),.d (.lit (.int .i64 n)),.d (.lit (.string s))])) ⟨t,o⟩ R []:=by
 subst hr;exact zv [0,0,0] rfl hp Zd rfl rfl trivial ho
theorem tabN:Tab.tab 2=some [.lit (.int .i64 0),.lit (.int .i64 0),.lit (.string ByteArray.empty)]:=rfl
def zl:Val:=⟨0,0,ByteArray.empty⟩
def yg (n:Int):Val:=if n≠0/\n≠1 then zl else ⟨2,n,ByteArray.empty⟩
def ofV (b:Bool):Val:=⟨2,if b then 1 else 0,ByteArray.empty⟩
def zM (v:Val):Int:=if v.kind≠2 then 2 else if v.num=1 then 1 else 0
theorem Zm {p:Prop} (h:p:=by first | trivial | (simp;done) | (simp;omega)):p:=h
theorem ZR {p q:Prop} (h:q) (e:p=q:=by conv=>lhs;simp -implicitDefEqProofs only [argT,tabN,↓zb,push_cast,simprocAttr,tt]):p:=(e).mpr h
theorem XE {p P0:Prop} (zf_:P0) (h:P0->p:=by intro zf_;rw [<-zf_]<;>first | rfl | (simp [yg,zl];done) | (simp_all [yg,zl];done)):p:=h zf_
theorem NR{p:Prop}(h:p:=by
 generalize hr:aV (yg n)=R;refine ZR ?_;refine za (fun h1=>?_) fun h1=>?_
 ·refine za (fun h2=>?_) fun h2=>?_
  ·exact zw Zm (XE hr) Zb
  ·exact zw Zm (XE hr) Zb
 ·exact zw Zm (XE hr) Zb):p:=h
theorem jl (n:Int):ACall Tryz.prog 173 [num n] [] (aV (yg n)) []:=by
 refine zn mixed ttok Tryz.func173 Tryz.ntmps173 Tryz.results173 ?_;exact NR
theorem vR (n:Int):ACall Tryz.prog 93 [num n] [] (aV (yg n)) []:=by
 refine zn mixed ttok Tryz.func93 Tryz.ntmps93 Tryz.results93 ?_;exact NR
theorem Z5 {p q:Prop} (h:q) (e:p=q:=by conv=>lhs;simp -implicitDefEqProofs only [aV,↓zb,push_cast,simprocAttr,tt]):p:=(e).mpr h
theorem ZK {p P0:Prop} (zf_:P0) (h:P0->p:=by intro zf_;rw [<-zf_]<;>first | rfl | (simp [ofV,yg];done) | (simp_all [ofV,yg];done)):p:=h zf_
theorem MD{p:Prop}(h:p:=by
 refine Z5 ?_;exact zw Zm (ZK hr) Zb):p:=h
theorem Hm{p:Prop}(h:p:=by
 refine zg [[0]] [] (jl 1) ?_;exact MD):p:=h
theorem G8{p:Prop}(h:p:=by
 generalize hr:aV (ofV b)=R;refine Zn ?_;refine za (fun h1=>?_) fun h1=>?_
 ·exact Hm
 ·refine zg [[0]] [] (jl 0) ?_;exact MD):p:=h
theorem c_truth (b:Bool):ACall Tryz.prog 200 [boo b] [] (aV (ofV b)) []:=by
 refine zn mixed ttok Tryz.func200 Tryz.ntmps200 Tryz.results200 ?_;exact G8
theorem c_etruth (b:Bool):ACall Tryz.prog 169 [boo b] [] (aV (ofV b)) []:=by
 refine zn mixed ttok Tryz.func169 Tryz.ntmps169 Tryz.results169 ?_;exact G8
theorem GP{p:Prop}(h:p:=by
 refine zg [[0]] [] (vR 1) ?_;exact MD):p:=h
theorem GQ{p:Prop}(h:p:=by
 refine zg [[0]] [] (vR 0) ?_;exact MD):p:=h
theorem c_of (b:Bool):ACall Tryz.prog 137 [boo b] [] (aV (ofV b)) []:=by
 refine zn mixed ttok Tryz.func137 Tryz.ntmps137 Tryz.results137 ?_;generalize hr:aV (ofV b)=R;refine Zn ?_;refine za (fun h1=>?_) fun h1=>?_
 ·exact GP
 ·exact GQ
theorem Ws {p:Prop} (h:p:=by rw [<-hr];simp at h1 h2;simp [zM,h1,h2,num]):p:=h
theorem ND{p:Prop}(h:p:=by
 generalize hr:num (zM v)=R;refine Zn ?_;refine za (fun h1=>?_) fun h1=>?_
 ·exact zm trivial (by rw [<-hr];simp at h1;simp [zM,h1,num]) Zb
 refine za (fun h2=>?_) fun h2=>?_
 ·exact zm trivial Ws Zb
 ·exact zm trivial Ws Zb):p:=h
theorem j4 (v:Val):ACall Tryz.prog 60 [aV v] [] (num (zM v)) []:=by
 refine zn mixed ttok Tryz.func60 Tryz.ntmps60 Tryz.results60 ?_;exact ND
theorem u3 (v:Val):ACall Tryz.prog 72 [aV v] [] (num (zM v)) []:=by
 refine zn mixed ttok Tryz.func72 Tryz.ntmps72 Tryz.results72 ?_;exact ND
def notM (v:Val):Val:=if zM v=2 then zl else ofV (zM v==0)
theorem Zr {p P0:Prop} (zf_:P0) (h:P0->p:=by intro zf_;rw [<-zf_]<;>first | rfl | (simp [zl];done) | (simp_all [zl];done)):p:=h zf_
theorem Xb {p q:Prop} (h:q) (e:p=q:=by conv=>lhs;simp -implicitDefEqProofs only [tabN,↓zb,push_cast,simprocAttr,tt]):p:=(e).mpr h
theorem c_not (v:Val):ACall Tryz.prog 167 [aV v] [] (aV (notM v)) []:=by
 refine zn mixed ttok Tryz.func167 Tryz.ntmps167 Tryz.results167 ?_;generalize hr:aV (notM v)=R;refine ZR ?_;refine zg [[0,0,0]] [] (j4 v) ?_;have ht:zM v=0\/zM v=1\/zM v=2:=by unfold zM;split<;>(try split)<;>simp
 refine Xb ?_;unfold notM at hr;generalize zM v=x at ht hr;refine za (fun h1=>?_) fun h1=>?_
 ·have hw:IntKind.i64.wrap (1-x)=1-x:=zt Za Za;simp only [hw];refine zg [[0]] [] (jl (1-x)) ?_;refine Z5 ?_;rcases ht with rfl | rfl | rfl
  ·exact zw Zm (ZK hr) Zb
  ·exact zw Zm (ZK hr) Zb
  ·simp at h1
 ·have hx:x=2:=Zc h1;subst hx;exact zw Zm (Zr hr) Zb
theorem c_rnot (v:Val):ACall Tryz.prog 135 [aV v] [] (aV (notM v)) []:=by
 refine zn mixed ttok Tryz.func135 Tryz.ntmps135 Tryz.results135 ?_;generalize hr:aV (notM v)=R;refine ZR ?_;refine zg [[0,0,0]] [] (u3 v) ?_;have ht:zM v=0\/zM v=1\/zM v=2:=by unfold zM;split<;>(try split)<;>simp
 refine Zf ?_;unfold notM at hr;generalize zM v=x at ht hr;refine za (fun h1=>?_) fun h1=>?_
 ·refine zg [[0]] [] (vR 1) ?_;have hx:x=0:=Zc h1;subst hx;exact MD
 refine za (fun h2=>?_) fun h2=>?_
 ·refine zg [[0]] [] (vR 0) ?_;have hx:x=1:=Zc h2;subst hx;exact MD
 ·have hx:x=2:=by simp at h1 h2;omega
  subst hx;exact zw Zm (Zr hr) Zb
def andM (a b:Val):Val:=if zM a=0\/zM b=0 then ofV false else if zM a=2\/zM b=2 then zl else ofV true
def orM (a b:Val):Val:=if zM a=1\/zM b=1 then ofV true else if zM a=2\/zM b=2 then zl else ofV false
theorem c_and (a b:Val):ACall Tryz.prog 171 [aV a,aV b] [] (aV (andM a b)) []:=by
 refine zn mixed ttok Tryz.func171 Tryz.ntmps171 Tryz.results171 ?_;generalize hr:aV (andM a b)=R;refine ZR ?_;refine zg [[0,0,0]] [] (j4 a) ?_;refine Xb ?_;refine zg [[0,0,0]] [] (j4 b) ?_;refine Xb ?_;refine ⟨ze Zg,?_⟩;unfold andM at hr;generalize zM a=x at hr;generalize zM b=y at hr;refine za (fun h1=>?_) fun h1=>?_
 ·refine zg [[0]] [] (jl 0) ?_;exact MD
 refine za (fun h2=>?_) fun h2=>?_
 ·refine zg [[0]] [] (jl 0) ?_;exact MD
 refine za (fun h3=>?_) fun h3=>?_
 ·exact zw Zm (Zr hr) Zb
 refine za (fun h4=>?_) fun h4=>?_
 ·exact zw Zm (Zr hr) Zb
 ·exact Hm
theorem c_or2 (a b:Val):ACall Tryz.prog 172 [aV a,aV b] [] (aV (orM a b)) []:=by
 refine zn mixed ttok Tryz.func172 Tryz.ntmps172 Tryz.results172 ?_;generalize hr:aV (orM a b)=R;refine ZR ?_;refine zg [[0,0,0]] [] (j4 a) ?_;refine Xb ?_;refine zg [[0,0,0]] [] (j4 b) ?_;refine Xb ?_;refine ⟨ze Zg,?_⟩;unfold orM at hr;generalize zM a=x at hr;generalize zM b=y at hr;refine za (fun h1=>?_) fun h1=>?_
 ·exact Hm
 refine za (fun h2=>?_) fun h2=>?_
 ·exact Hm
 refine za (fun h3=>?_) fun h3=>?_
 ·exact zw Zm (Zr hr) Zb
 refine za (fun h4=>?_) fun h4=>?_
 ·exact zw Zm (Zr hr) Zb
 ·refine zg [[0]] [] (jl 0) ?_;exact MD
theorem c_rand (a b:Val):ACall Tryz.prog 138 [aV a,aV b] [] (aV (andM a b)) []:=by
 refine zn mixed ttok Tryz.func138 Tryz.ntmps138 Tryz.results138 ?_;generalize hr:aV (andM a b)=R;refine ZR ?_;refine zg [[0,0,0]] [] (u3 a) ?_;refine Zf ?_;refine zg [[0,0,0]] [] (u3 b) ?_;refine Zf ?_;refine ⟨ze Zg,?_⟩;unfold andM at hr;generalize zM a=x at hr;generalize zM b=y at hr;refine za (fun h1=>?_) fun h1=>?_
 ·exact GQ
 refine za (fun h2=>?_) fun h2=>?_
 ·exact GQ
 refine za (fun h3=>?_) fun h3=>?_
 ·exact zw Zm (Zr hr) Zb
 refine za (fun h4=>?_) fun h4=>?_
 ·exact zw Zm (Zr hr) Zb
 ·exact GP
theorem c_ror (a b:Val):ACall Tryz.prog 139 [aV a,aV b] [] (aV (orM a b)) []:=by
 refine zn mixed ttok Tryz.func139 Tryz.ntmps139 Tryz.results139 ?_;generalize hr:aV (orM a b)=R;refine ZR ?_;refine zg [[0,0,0]] [] (u3 a) ?_;refine Zf ?_;refine zg [[0,0,0]] [] (u3 b) ?_;refine Zf ?_;refine ⟨ze Zg,?_⟩;unfold orM at hr;generalize zM a=x at hr;generalize zM b=y at hr;refine za (fun h1=>?_) fun h1=>?_
 ·exact GP
 refine za (fun h2=>?_) fun h2=>?_
 ·exact GP
 refine za (fun h3=>?_) fun h3=>?_
 ·exact zw Zm (Zr hr) Zb
 refine za (fun h4=>?_) fun h4=>?_
 ·exact zw Zm (Zr hr) Zb
 ·exact GQ
def cmpI (x y:Int):Int:=if x<y then -1 else if x>y then 1 else 0
def cmpS (x y:ByteArray):Int:=if Op.bytesLess x.toList y.toList then -1 else if x.toList=y.toList then 0 else 1
def cmpM (a b:Val):Int:=if cmpI a.kind b.kind≠0 then cmpI a.kind b.kind else if cmpI a.num b.num≠0 then cmpI a.num b.num else cmpS a.text b.text
theorem c_isNaN (x:Int):ACall Tryz.prog 222 [num x] [] (boo false) []:=by
 refine zn mixed ttok Tryz.func222 Tryz.ntmps222 Tryz.results222 ?_;generalize hr:boo false=R;refine Zn ?_;exact N7
theorem c_isNaN64 (x:Int):ACall Tryz.prog 223 [num x] [] (boo false) []:=by
 refine zn mixed ttok Tryz.func223 Tryz.ntmps223 Tryz.results223 ?_;generalize hr:boo false=R;refine Zn ?_;exact N7
theorem c_isNaNs (x:ByteArray):ACall Tryz.prog 224 [str x] [] (boo false) []:=by
 refine zn mixed ttok Tryz.func224 Tryz.ntmps224 Tryz.results224 ?_;generalize hr:boo false=R;refine Zn ?_;exact zm trivial (by rw [<-hr];simp [boo]) Zb
theorem WI {p:Prop} (h:p:=by rw [<-hr];simp at h1 h2;rw [if_neg (by omega),if_pos (by omega)];rfl):p:=h
theorem WJ {p:Prop} (h:p:=by rw [<-hr];simp at h1 h2;rw [if_neg (by omega),if_neg (by omega)];rfl):p:=h
theorem NI{p:Prop}(h:p:=by
 refine Zf ?_;unfold cmpI at hr;refine za (fun h1=>?_) fun h1=>?_
 ·exact zm trivial (by rw [<-hr];simp_all [num]) Zb
 refine za (fun h2=>?_) fun h2=>?_
 ·exact zm trivial WI Zb
 ·exact zm trivial WJ Zb):p:=h
theorem c_cmpI (x y:Int):ACall Tryz.prog 204 [num x,num y] [] (num (cmpI x y)) []:=by
 refine zn mixed ttok Tryz.func204 Tryz.ntmps204 Tryz.results204 ?_;generalize hr:num (cmpI x y)=R;refine Zn ?_;refine zg [[0]] [] (c_isNaN x) ?_;refine Zf ?_;refine zg [[0]] [] (c_isNaN y) ?_;exact NI
theorem c_cmpI64 (x y:Int):ACall Tryz.prog 205 [num x,num y] [] (num (cmpI x y)) []:=by
 refine zn mixed ttok Tryz.func205 Tryz.ntmps205 Tryz.results205 ?_;generalize hr:num (cmpI x y)=R;refine Zn ?_;refine zg [[0]] [] (c_isNaN64 x) ?_;refine Zf ?_;refine zg [[0]] [] (c_isNaN64 y) ?_;exact NI
theorem c_cmpS (x y:ByteArray):ACall Tryz.prog 206 [str x,str y] [] (num (cmpS x y)) []:=by
 refine zn mixed ttok Tryz.func206 Tryz.ntmps206 Tryz.results206 ?_;generalize hr:num (cmpS x y)=R;refine Zn ?_;refine zg [[0]] [] (c_isNaNs x) ?_;refine Zf ?_;refine zg [[0]] [] (c_isNaNs y) ?_;refine Zf ?_;unfold cmpS at hr;refine za (fun h1=>?_) fun h1=>?_
 ·exact zm trivial (by rw [<-hr];simp_all [num]) Zb
 refine za (fun h2=>?_) fun h2=>?_
 ·exact zm trivial (by rw [<-hr];rw [h1];simp [h1] at h2;simp [h2,num]) Zb
 ·exact zm trivial (by rw [<-hr];rw [h1];simp [h1] at h2;simp [h2,num]) Zb
def gn:List Int->Int
 | []=>0
 | x::l=>if x≠0 then x else gn l
theorem Hi{p:Prop}(h:p:=by
 exact zm trivial (by rw [<-hr,<-hi];rfl) Zb):p:=h
theorem c_cor (l:List Int) (hl:l.length<=1000):ACall Tryz.prog 203 [ints l] [] (num (gn l)) []:=by
 refine zn mixed ttok Tryz.func203 Tryz.ntmps203 Tryz.results203 ?_;generalize hr:num (gn l)=R;refine Zn ?_;refine zq mixed ttok 8 [3,6,7] [] Zv Zw l.length (fun n=>gn (l.drop n)=gn l) (fun _=>[]) (fun _=>[]) rfl ?_ ?_
 ·exact Ya Zh Zh Zh
 intro I hI n hn hi;refine Zx ?_;refine za (fun h=>?_) fun h=>?_
 ·simp only [Yg] at h;have h':n<l.length:=Za;have hw:=zh h' Za;rw [zA _ n h',gn] at hi;refine ⟨Zs,?_⟩;refine za (fun h2=>?_) fun h2=>?_
  ·exact zm trivial (by rw [<-hr,<-hi,if_pos (by simpa using h2)];rfl) Zb
  ·rw [if_neg (Zc h2)] at hi;exact zp hI n rfl h' hi (Ze hw) (Ze hw) (Ze hw) (Ze hw)
 ·have hn':n=l.length:=by simp at h;omega
  subst hn';rw [Um] at hi;exact Hi
theorem c_compare (a b:Val):ACall Tryz.prog 178 [aV a,aV b] [] (num (cmpM a b)) []:=by
 refine zn mixed ttok Tryz.func178 Tryz.ntmps178 Tryz.results178 ?_;generalize hr:num (cmpM a b)=R;refine Zn ?_;refine zg [[0],[0]] [] (c_cmpI a.kind b.kind) ?_;refine Zf ?_;refine zg [[0],[0]] [] (c_cmpI64 a.num b.num) ?_;refine Zf ?_;refine zg [[0],[0]] [] (c_cmpS a.text b.text) ?_;refine Zf ?_;refine zg [[1]] [] (c_cor [cmpI a.kind b.kind,cmpI a.num b.num,cmpS a.text b.text] Zd) ?_;refine Zf ?_;refine ⟨ze Zg,?_⟩;have he:gn [cmpI a.kind b.kind,cmpI a.num b.num,cmpS a.text b.text]=cmpM a b:=by
  simp only [gn,cmpM]
  repeat' split
  all_goals simp_all
 rw [he];exact N7
theorem bl_eq: ∀(x y:List UInt8),Op.bytesLess x y=decide (x<y)
 | [],[]=>by simp [Op.bytesLess]
 | _::_,[]=>by simp [Op.bytesLess]
 | [],_::_=>by simp [Op.bytesLess]
 | a::x,b::y=>by
   rw [Op.bytesLess,bl_eq x y];simp only [List.cons_lt_cons_iff];by_cases h1:a<b<;>by_cases h2:a=b<;>by_cases h3:x<y<;>simp [h1,h2,h3]
def wz (a b:Val):Bool:=(a.kind==b.kind&&a.num==b.num)&&(a.text.toList==b.text.toList)
theorem ul (x y:Int):cmpI x y=0 ↔ x=y:=by unfold cmpI;split<;>(try split)<;>omega
theorem cmpS_zero (x y:ByteArray):cmpS x y=0 ↔ x.toList=y.toList:=by
 unfold cmpS
 split
 ·rename_i h;refine ⟨fun h=>absurd h Zi,fun e=>?_⟩;rw [e] at h;exact absurd h (by rw [bl_eq,Yg];exact List.lt_irrefl _)
 ·split
  ·rename_i h;simp [h]
  ·rename_i h;simp [h]
theorem cmpM_zero (a b:Val):(cmpM a b==0)=wz a b:=by
 unfold cmpM wz;rw [Ud];simp only [beq_iff_eq,Yy];by_cases h1:cmpI a.kind b.kind=0
 ·rw [if_neg (Zc h1)];have h1':=(ul _ _).1 h1;by_cases h2:cmpI a.num b.num=0
  ·rw [if_neg (Zc h2),cmpS_zero];simp [h1',(ul _ _).1 h2]
  ·rw [if_pos h2];simp [h1',h2,mt (ul _ _).2 h2]
 ·rw [if_pos h1];simp [h1,mt (ul _ _).2 h1]
theorem WK {p P0:Prop} (zf_:P0) (h:P0->p:=by intro zf_;rw [<-zf_,if_pos (by rw [if_neg (by omega),if_pos (by omega)];decide),if_neg (by omega),if_pos (by omega)];rfl):p:=h zf_
theorem c_rcompare (a b:Val):ACall Tryz.prog 53 [aV a,aV b] [] (num (cmpM a b)) []:=by
 refine zn mixed ttok Tryz.func53 Tryz.ntmps53 Tryz.results53 ?_;generalize hr:num (cmpM a b)=R;refine Zn ?_;unfold cmpM cmpI cmpS at hr;refine za (fun h1=>?_) fun h1=>?_
 ·simp at h1;exact zm trivial (by rw [<-hr,if_pos (by rw [if_pos h1];decide),if_pos h1];rfl) Zb
 refine za (fun h2=>?_) fun h2=>?_
 ·simp at h1 h2;exact zm trivial (WK hr) Zb
 simp at h1 h2;rw [if_neg (by rw [if_neg (by omega),if_neg (by omega)];decide)] at hr;refine za (fun h3=>?_) fun h3=>?_
 ·simp at h3;exact zm trivial (by rw [<-hr,if_pos (by rw [if_pos h3];decide),if_pos h3];rfl) Zb
 refine za (fun h4=>?_) fun h4=>?_
 ·simp at h3 h4;exact zm trivial (WK hr) Zb
 simp at h3 h4;rw [if_neg (by rw [if_neg (by omega),if_neg (by omega)];decide)] at hr;refine za (fun h5=>?_) fun h5=>?_
 ·exact zm trivial (Zo hr (if_pos h5)) Zb
 rw [h5] at hr ⊢;refine za (fun h6=>?_) fun h6=>?_
 ·simp at h6;exact zm trivial (by rw [<-hr];simp [h6,num]) Zb
 ·simp at h6;exact zm trivial (by rw [<-hr];simp [h6,num]) Zb
theorem c_same (a b:Val):ACall Tryz.prog 170 [aV a,aV b] [] (boo (wz a b)) []:=by
 refine zn mixed ttok Tryz.func170 Tryz.ntmps170 Tryz.results170 ?_;generalize hr:boo (wz a b)=R;refine Zn ?_;exact zm trivial (by rw [<-hr];simp [wz,boo,Bool.and_assoc]) Zb
theorem c_rsame (a b:Val):ACall Tryz.prog 27 [aV a,aV b] [] (boo (wz a b)) []:=by
 refine zn mixed ttok Tryz.func27 Tryz.ntmps27 Tryz.results27 ?_;generalize hr:boo (wz a b)=R;refine Zn ?_;refine zg [[0,0,0],[0,0,0]] [] (c_rcompare a b) ?_;refine Zf ?_;exact zm trivial (by rw [<-hr,<-cmpM_zero];rfl) Zb
def yY (a b:Val):Val:=if a.kind=0\/b.kind=0 then zl else ofV (wz a b)
def vL (a b:Val):Val:=if a.kind=0\/b.kind=0 then zl else ofV (decide (cmpM a b<0))
theorem Wu {p:Prop} (h:p:=by rw [<-hr]<;>first | rfl | (simp [h1,h2];done) | (simp_all [h1,h2];done)):p:=h
theorem JS{p:Prop}(h:p:=by
 refine Z5 ?_;simp at h1 h2;exact zw Zm Wu Zb):p:=h
theorem c_equal (a b:Val):ACall Tryz.prog 166 [aV a,aV b] [] (aV (yY a b)) []:=by
 refine zn mixed ttok Tryz.func166 Tryz.ntmps166 Tryz.results166 ?_;generalize hr:aV (yY a b)=R;refine ZR ?_;unfold yY at hr;refine za (fun h1=>?_) fun h1=>?_
 ·exact zw Zm (Zr hr) Zb
 refine za (fun h2=>?_) fun h2=>?_
 ·exact zw Zm (Zr hr) Zb
 refine zg [[0,0,0],[0,0,0]] [] (c_same a b) ?_;refine Zf ?_;refine zg [[0]] [] (c_truth (wz a b)) ?_;exact JS
theorem c_requal (a b:Val):ACall Tryz.prog 134 [aV a,aV b] [] (aV (yY a b)) []:=by
 refine zn mixed ttok Tryz.func134 Tryz.ntmps134 Tryz.results134 ?_;generalize hr:aV (yY a b)=R;refine ZR ?_;unfold yY at hr;refine za (fun h1=>?_) fun h1=>?_
 ·exact zw Zm (Zr hr) Zb
 refine za (fun h2=>?_) fun h2=>?_
 ·exact zw Zm (Zr hr) Zb
 refine zg [[0,0,0],[0,0,0]] [] (c_rsame a b) ?_;refine Zf ?_;refine zg [[0]] [] (c_of (wz a b)) ?_;exact JS
theorem c_less (a b:Val):ACall Tryz.prog 168 [aV a,aV b] [] (aV (vL a b)) []:=by
 refine zn mixed ttok Tryz.func168 Tryz.ntmps168 Tryz.results168 ?_;generalize hr:aV (vL a b)=R;refine ZR ?_;unfold vL at hr;refine za (fun h1=>?_) fun h1=>?_
 ·exact zw Zm (Zr hr) Zb
 refine za (fun h2=>?_) fun h2=>?_
 ·exact zw Zm (Zr hr) Zb
 refine zg [[0,0,0],[0,0,0]] [] (c_compare a b) ?_;refine Zf ?_;refine zg [[0]] [] (c_truth (decide (cmpM a b<0))) ?_;exact JS
theorem c_rless (a b:Val):ACall Tryz.prog 136 [aV a,aV b] [] (aV (vL a b)) []:=by
 refine zn mixed ttok Tryz.func136 Tryz.ntmps136 Tryz.results136 ?_;generalize hr:aV (vL a b)=R;refine ZR ?_;unfold vL at hr;refine za (fun h1=>?_) fun h1=>?_
 ·exact zw Zm (Zr hr) Zb
 refine za (fun h2=>?_) fun h2=>?_
 ·exact zw Zm (Zr hr) Zb
 refine zg [[0,0,0],[0,0,0]] [] (c_rcompare a b) ?_;refine Zf ?_;refine zg [[0]] [] (c_of (decide (cmpM a b<0))) ?_;exact JS
theorem cmpI_neg (x y:Int):cmpI x y<0 ↔ x<y:=by unfold cmpI;split<;>(try split)<;>omega
theorem cmpS_neg (x y:ByteArray):cmpS x y<0 ↔ x.toList<y.toList:=by
 unfold cmpS;rw [bl_eq]
 split
 ·rename_i h;simpa using h
 ·rename_i h;simp only [Yg] at h
  split<;>simp [h]
theorem toList_inj {x y:ByteArray} (h:x.toList=y.toList):x=y:=by
 cases x;cases y;simpa [YM] using h
theorem cmpM_neg (a b:Val):cmpM a b<0 ↔ a.kind<b.kind\/a.kind=b.kind/\(a.num<b.num\/a.num=b.num/\a.text.toList<b.text.toList):=by
 unfold cmpM;by_cases h1:cmpI a.kind b.kind=0
 ·rw [if_neg (Zc h1)];have h1':=(ul _ _).1 h1;by_cases h2:cmpI a.num b.num=0
  ·rw [if_neg (Zc h2),cmpS_neg];simp [h1',(ul _ _).1 h2]
  ·rw [if_pos h2,cmpI_neg];have:=mt (ul _ _).2 h2;simp [h1',this]
 ·rw [if_pos h1,cmpI_neg];have:=mt (ul _ _).2 h1;simp [this]
theorem val_ext {a b:Val} (h1:a.kind=b.kind) (h2:a.num=b.num) (h3:a.text.toList=b.text.toList):a=b:=by
 cases a;cases b;simp only at h1 h2 h3;rw [h1,h2,toList_inj h3]
theorem wZ (a b:Val):cmpM a b=0 ↔ a=b:=by
 have:=cmpM_zero a b;refine ⟨fun h=>?_,fun h=>?_⟩
 ·rw [h] at this;simp only [wz,beq_self_eq_true] at this;have h2:=this.symm;simp only [Yy,beq_iff_eq] at h2;exact val_ext h2.1.1 h2.1.2 h2.2
 ·subst h;rw [show wz a a=true by simp [wz]] at this;simpa using this
theorem gA (a:Val): ¬cmpM a a<0:=Z8 ((wZ a a).2 rfl)
theorem kk {a b c:Val} (h1:cmpM a b<0) (h2:cmpM b c<0):cmpM a c<0:=by
 rw [cmpM_neg] at *;rcases h1 with h1 | ⟨h1,h1'⟩<;>rcases h2 with h2 | ⟨h2,h2'⟩
 ·left;omega
 ·left;omega
 ·left;omega
 ·right
  refine ⟨Za,?_⟩;rcases h1' with h1' | ⟨h1',h3⟩<;>rcases h2' with h2' | ⟨h2',h4⟩
  ·left;omega
  ·left;omega
  ·left;omega
  ·exact .inr ⟨Za,List.lt_trans h3 h4⟩
theorem cmpM_tri (a b:Val) (h1: ¬cmpM a b<0) (h2: ¬cmpM b a<0):a=b:=by
 rw [cmpM_neg] at *;simp only [not_or,not_and,Int.not_lt] at h1 h2;have hk:a.kind=b.kind:=Za;have h1':=h1.2 hk;have h2':=h2.2 hk.symm;have hn:a.num=b.num:=Za;have h1'':=h1'.2 hn;have h2'':=h2'.2 hn.symm;exact val_ext hk hn (List.le_antisymm (List.not_lt.1 h2'') (List.not_lt.1 h1''))
theorem cmpM_le (a b:Val):cmpM a b<=0 ↔ ¬cmpM b a<0:=by
 refine ⟨fun h h2=>?_,fun h=>?_⟩
 ·rcases Int.lt_or_eq_of_le h with h | h
  ·exact gA _ (kk h h2)
  ·rw [wZ] at h;subst h;exact gA _ h2
 ·by_cases h3:cmpM a b<0
  ·omega
  ·rw [(wZ a b).2 (cmpM_tri a b h3 h)];decide
def okN (a:Int):Prop:= -1000000000000<=a/\a<=1000000000000
def absI (a:Int):Int:=if a<0 then -a else a
def numM (op a b:Int):Int×Bool:=
 if op=6 then (a+b,true) else if op=7 then (a-b,true)
 else if op=8 then (if a≠0/\b≠0/\absI a>(1000000000000:Int).tdiv (absI b) then (0,false) else (a * b,true))
 else if op=9 then (if b≠0 then (a.tdiv b,true) else (0,false))
 else if op=10 then (if b≠0 then (a.tmod b,true) else (0,false)) else (0,false)
theorem absI_pos {a:Int} (h:a≠0):0<absI a:=by unfold absI;split<;>omega
theorem abs_max {a:Int} (h:okN a):(if -a>a then -a else a)=absI a:=by unfold okN at h;unfold absI;split<;>split<;>omega
theorem tdiv_le {a b:Int} (ha:0<=a) (hb:0<b):0<=a.tdiv b/\a.tdiv b<=a:=by
 rw [Int.tdiv_eq_ediv_of_nonneg ha];exact ⟨Int.ediv_nonneg ha (Int.le_of_lt hb),Int.ediv_le_self _ ha⟩
theorem mul_ok {a b:Int} (ha:okN a) (hb:okN b) (h: ¬(a≠0/\b≠0/\absI a>(1000000000000:Int).tdiv (absI b))):okN (a * b):=by
 by_cases h1:a=0
 ·subst h1;simp [okN]
 by_cases h2:b=0
 ·subst h2;simp [okN]
 have h3:absI a<=(1000000000000:Int).tdiv (absI b):=by
  have: ¬absI a>(1000000000000:Int).tdiv (absI b):=fun h4=>h ⟨h1,h2,h4⟩;omega
 have hp:=absI_pos h2;rw [Int.tdiv_eq_ediv_of_nonneg Zi,Int.le_ediv_iff_mul_le hp] at h3;have e:a * b=absI a * absI b\/a * b= -(absI a * absI b):=by
  unfold absI
  split<;>split
  ·left;simp [Int.neg_mul,Int.mul_neg]
  ·right;simp [Int.neg_mul]
  ·right;simp [Int.mul_neg]
  ·left;rfl
 have hq:0<=absI a * absI b:=Int.mul_nonneg (Int.le_of_lt (absI_pos h1)) (Int.le_of_lt hp);unfold okN;omega
theorem tdiv_ok {a b:Int} (ha:okN a) (hb:b≠0):okN (a.tdiv b):=by
 have h:=Int.natAbs_tdiv_le_natAbs a b;unfold okN at *;omega
theorem tmod_ok {a b:Int} (ha:okN a) (hb:b≠0):okN (a.tmod b):=by
 have h:(a.tmod b).natAbs<=a.natAbs:=by
  rw [Int.natAbs_tmod];exact Nat.mod_le _ _
 unfold okN at *;omega
theorem jD {a:Int} (h: -9000000000000<=a/\a<=9000000000000):IntKind.i64.wrap a=a:=zt Za Za
theorem Kt{p:Prop}(h:p:=by
 simp only [decide_eq_true_eq] at h3;exact zP trivial (Zo hr (if_pos ⟨hz.1,hz.2,h3⟩)) Zb):p:=h
theorem c_numbers (op a b:Int) (ha:okN a) (hb:okN b):ACall Tryz.prog 199 [num op,num a,num b] [] (.tup [num (numM op a b).1,boo (numM op a b).2]) []:=by
 refine zn mixed ttok Tryz.func199 Tryz.ntmps199 Tryz.results199 ?_;generalize hr:A.tup [num (numM op a b).1,boo (numM op a b).2]=R;have ha':=ha;have hb':=hb;unfold okN at ha' hb';have w1:=jD (a:=a+b) Za;have w2:=jD (a:=a-b) Za;have w3:=jD (a:= -a) Za;have w4:=jD (a:= -b) Za;have e3:(0:Int)-a= -a:=Za;have e4:(0:Int)-b= -b:=Za;unfold numM at hr;simp -implicitDefEqProofs only [argT,w1,w2,w3,w4,e3,e4,abs_max ha,abs_max hb,↓zb,push_cast,simprocAttr,tt];refine za (fun h6=>?_) fun h6=>?_
 ·exact zP trivial (by rw [<-hr,if_pos (by simpa using h6)];rfl) Zb
 rw [if_neg (Zc h6)] at hr;refine za (fun h7=>?_) fun h7=>?_
 ·exact zP trivial (by rw [<-hr,if_pos (by simpa using h7)];rfl) Zb
 rw [if_neg (Zc h7)] at hr;refine za (fun h8=>?_) fun h8=>?_
 ·rw [if_pos (Zc h8)] at hr;by_cases hz:a≠0/\b≠0
  ·have hp:=absI_pos hz.2;have hd:=tdiv_le (a:=1000000000000) Zi hp;have w5:=jD (a:=(1000000000000:Int).tdiv (absI b)) Za;refine za (fun h1=>?_) fun h1=>?_
   ·refine za (fun h2=>?_) fun h2=>?_
    ·refine ⟨Za,?_⟩;simp only [w5];refine za (fun h3=>?_) fun h3=>?_
     ·simp only [decide_eq_true_eq] at h3
      exact zP trivial (by rw [<-hr,if_pos ⟨hz.1,hz.2,h3⟩];rfl) (by simp [ends])
     ·simp only [Ye] at h3;have hn: ¬(a≠0/\b≠0/\absI a>(1000000000000:Int).tdiv (absI b)):=fun h=>h3 h.2.2;have hm:=mul_ok ha hb hn;unfold okN at hm;have w6:=jD (a:=a * b) Za;simp only [w6];exact zP trivial (Zo hr (if_neg hn)) Zb
    ·simp at h2;omega
   ·simp at h1;omega
  ·have hn: ¬(a≠0∧b≠0∧absI a>(1000000000000:Int).tdiv (absI b)):=fun h=>hz ⟨h.1,h.2.1⟩;have hm:=mul_ok ha hb hn;unfold okN at hm;have w6:=jD (a:=a * b) Za;rw [if_neg hn] at hr;refine za (fun h1=>?_) fun h1=>?_
   ·refine za (fun h2=>?_) fun h2=>?_
    ·simp at h1 h2;omega
    ·simp only [w6];exact zP trivial (ZJ hr) Zb
   ·simp only [w6];exact zP trivial (ZJ hr) Zb
 rw [if_neg (Zc h8)] at hr;refine za (fun h9=>?_) fun h9=>?_
 ·rw [if_pos (Zc h9)] at hr;refine za (fun h1=>?_) fun h1=>?_
  ·have h1':b≠0:=Zc h1;have hm:=tdiv_ok ha h1';unfold okN at hm;have w6:=jD (a:=a.tdiv b) Za;simp only [w6];exact ⟨h1',zP trivial (Zo hr (if_pos h1')) Zb⟩
  ·have h1': ¬b≠0:=Zc h1;exact zP trivial (Zo hr (if_neg h1')) Zb
 rw [if_neg (Zc h9)] at hr;refine za (fun h10=>?_) fun h10=>?_
 ·rw [if_pos (Zc h10)] at hr;refine za (fun h1=>?_) fun h1=>?_
  ·have h1':b≠0:=Zc h1;exact ⟨h1',zP trivial (Zo hr (if_pos h1')) Zb⟩
  ·have h1': ¬b≠0:=Zc h1;exact zP trivial (Zo hr (if_neg h1')) Zb
 rw [if_neg (Zc h10)] at hr;exact zP trivial (ZJ hr) Zb
theorem c_ne (x t:Int):ACall Tryz.prog 236 [num x,.ptr 1000 0] [(1000,.var [num t])] (boo (x !=t)) [(1000,.var [num t])]:=by
 refine zn mixed ttok Tryz.func236 Tryz.ntmps236 Tryz.results236 ?_;generalize hr:boo (x !=t)=R;refine Zn ?_;exact NA
theorem c_idxN (l:List Int) (t:Int) (hl:l.length<=1000000000):
 ACall Tryz.prog 197 [ints l,.clo 236 [.ptr 1000 0]] [(1000,.var [num t])] (num (fidx (fun x=>x !=t) l)) [(1000,.var [num t])]:=by
 refine zn mixed ttok Tryz.func197 Tryz.ntmps197 Tryz.results197 ?_;generalize hr:num (fidx (fun x=>x !=t) l)=R;refine Zn ?_;refine zq mixed ttok 8 [0,1,6,7] [1000] Zv Zw l.length (fun n=> ∀i,i<n->(l.getD i default !=t)=false) (fun _=>[]) (fun _=>[]) (fun i h=>absurd h (Yu _)) ?_ ?_
 ·exact Ya Zh Zh Zh
 intro I hI n hn hi;refine Zx ?_;refine za (fun h=>?_) fun h=>?_
 ·simp only [Yg] at h;have h':n<l.length:=Za;have hw:=zh h' Za;refine ⟨Zs,?_⟩;refine zg [[0],[]] [(1000,1000)] (c_ne (l.getD n default) t) ?_;refine Zf ?_;exact Mt
 ·exact Nk
theorem c_containsN (l:List Int) (t:Int) (hl:l.length<=1000000000):
 ACall Tryz.prog 160 [ints l,.clo 236 [.ptr 1000 0]] [(1000,.var [num t])] (boo (l.any fun x=>x !=t)) [(1000,.var [num t])]:=by
 refine zn mixed ttok Tryz.func160 Tryz.ntmps160 Tryz.results160 ?_;generalize hr:boo (l.any fun x=>x !=t)=R;refine Zn ?_;refine zg [[1],[]] [(1000,1000)] (c_idxN l t hl) ?_;exact J3
theorem c_every (l:List Int) (t:Int) (hl:l.length<=1000000000):ACall Tryz.prog 235 [num t,ints l] [] (boo (l.all fun x=>x==t)) []:=by
 refine zn mixed ttok Tryz.func235 Tryz.ntmps235 Tryz.results235 ?_;generalize hr:boo (l.all fun x=>x==t)=R;refine Zn ?_;refine zg [[1],[]] [(1000,2)] (c_containsN l t hl) ?_;refine Zf ?_;have:(l.all fun x=>x==t)= !(l.any fun x=>x !=t):=by
  rw [List.not_any_eq_all_not];simp [bne]
 exact MI
def fitM (o:OpD) (l:List Int):Bool:=
 if o.types=1 then l.all (fun x=>x==1) else if o.types=2 then l.all (fun x=>x==3) else if o.types=3 then l.all (fun x=>x==2)
 else if o.types=4 then l.all (fun x=>x==l.getD 0 default) else if o.types=6 then (l.getD 0 default==2)&&(l.getD 1 default==l.getD 2 default) else true
theorem J6{p:Prop}(h:p:=by
 exact zm trivial (Zo hr hM) Zb):p:=h
theorem c_fit (o:OpD) (l:List Int) (hl:l.length<=1000000000) (h4:o.types=4->0<l.length) (h6:o.types=6->l.length=3):ACall Tryz.prog 218 [aOp o,ints l] [] (boo (fitM o l)) []:=by
 refine zn mixed ttok Tryz.func218 Tryz.ntmps218 Tryz.results218 ?_;generalize hr:boo (fitM o l)=R;simp -implicitDefEqProofs only [argT,aOp,↓zb,push_cast,simprocAttr,tt];refine za (fun k1=>?_) fun k1=>?_
 ·have hk:o.types=1:=Zc k1;have hM:fitM o l=l.all (fun x=>x==1):=by rw [fitM,if_pos hk]
  refine zg [[0],[1]] [] (c_every l 1 hl) ?_;refine Zf ?_;exact J6
 have hk1: ¬o.types=1:=Zc k1;refine za (fun k2=>?_) fun k2=>?_
 ·have hk:o.types=2:=Zc k2;have hM:fitM o l=l.all (fun x=>x==3):=by rw [fitM,if_neg hk1,if_pos hk]
  refine zg [[0],[1]] [] (c_every l 3 hl) ?_;refine Zf ?_;exact J6
 have hk2: ¬o.types=2:=Zc k2;refine za (fun k3=>?_) fun k3=>?_
 ·have hk:o.types=3:=Zc k3;have hM:fitM o l=l.all (fun x=>x==2):=by rw [fitM,if_neg hk1,if_neg hk2,if_pos hk]
  refine zg [[0],[1]] [] (c_every l 2 hl) ?_;refine Zf ?_;exact J6
 have hk3: ¬o.types=3:=Zc k3;refine za (fun k4=>?_) fun k4=>?_
 ·have hk:o.types=4:=Zc k4;have hM:fitM o l=l.all (fun x=>x==l.getD 0 default):=by rw [fitM,if_neg hk1,if_neg hk2,if_neg hk3,if_pos hk]
  have:=h4 hk;refine ⟨Zs,?_⟩;refine zg [[0],[1]] [] (c_every l (l.getD 0 default) hl) ?_;refine Zf ?_;exact J6
 have hk4: ¬o.types=4:=Zc k4;refine za (fun k6=>?_) fun k6=>?_
 ·have hk:o.types=6:=Zc k6;have hM:fitM o l=((l.getD 0 default==2)&&(l.getD 1 default==l.getD 2 default)):=by rw [fitM,if_neg hk1,if_neg hk2,if_neg hk3,if_neg hk4,if_pos hk]
  have:=h6 hk;refine ⟨Zs,?_⟩;refine za (fun g=>?_) fun g=>?_
  ·refine ⟨Zs,Zs,ze Zg,?_⟩;exact Hc
  ·refine ⟨ze Zg,?_⟩;exact zm trivial (by rw [<-hr,hM,g,Yl];rfl) Zb
 ·have hk6: ¬o.types=6:=Zc k6;have hM:fitM o l=true:=by rw [fitM,if_neg hk1,if_neg hk2,if_neg hk3,if_neg hk4,if_neg hk6]
  exact J6
end
section
attribute [local simp, local push_cast] Ta aOp
def xf (k:Int):Bool:=(k==1 || k==2) || k==3
def ownM (ts:List Int) (e:Ex) (l:List Int):Int×Int:=
 if (!isOp e.op || !yu e) then (0,1)
 else if !yU e then (0,9)
 else if (e.op==5&&(decide (e.col<0) || decide (e.col≥ts.length))) then (0,3)
 else if ((e.op==5&& !xf (ts.getD e.col.toNat default)) || !fitM (yW e.op) l) then (0,4)
 else if e.op==5 then (ts.getD e.col.toNat default,0)
 else if e.op==1 then (e.type,0)
 else if (yW e.op).own==0 then (l.getD (l.length-1) default,0)
 else ((yW e.op).own,0)
def typK (f:Ex->List Int->Int×Int) (e:Ex) (rs:List (Int×Int)):Int×Int:=if ferr Prod.snd rs=0 then f e (rs.map Prod.fst) else (0,ferr Prod.snd rs)
mutual
def typG (f:Ex->List Int->Int×Int):Ex->Int×Int
 | .mk a b c d g ks=>typK f (.mk a b c d g ks) (typL f ks)
def typL (f:Ex->List Int->Int×Int):List Ex->List (Int×Int)
 | []=>[]
 | e::l=>typG f e::typL f l
end
theorem typL_eq (f:Ex->List Int->Int×Int): ∀l,typL f l=l.map (typG f)
 | []=>rfl
 | e::l=>by rw [typL,typL_eq f l];rfl
theorem qp (f:Ex->List Int->Int×Int) (e:Ex):typG f e=typK f e (e.kids.map (typG f)):=by cases e;rw [typG,typL_eq];rfl
theorem vN {α β:Type} (g:β->Int) (h:α->β): ∀l:List α,ferr g (l.map h)=ferr (fun x=>g (h x)) l
 | []=>rfl
 | x::l=>by simp only [Y0,ferr,vN g h l]
theorem xV {α:Type} [Inhabited α] (g:α->Int): ∀(l:List α) (n:Nat),n<l.length->(∀i,i<n->g (l.getD i default)=0)->g (l.getD n default)≠0->ferr g l=g (l.getD n default)
 | [],n,h,_,_=>by simp at h
 | x::l,0,_,_,hg=>by simp at hg;simp [ferr,hg]
 | x::l,n+1,h,hb,hg=>by
   have h0:=hb 0 Za;simp at h0;simp only [ferr,h0,if_true];rw [xV g l n (Zc h) (fun i hi=>by simpa using hb (i+1) (by omega)) (Zc hg)];simp
theorem yQ {α:Type} [Inhabited α] (g:α->Int): ∀(l:List α),(∀i,i<l.length->g (l.getD i default)=0)->ferr g l=0
 | [],_=>rfl
 | x::l,hb=>by
   have h0:=hb 0 Zd;simp at h0;simp only [ferr,h0,if_true];exact yQ g l (fun i hi=>by simpa using hb (i+1) (by simpa using hi))
def uP (f:Ex->List Int->Int×Int) (e:Ex) (n:Nat):List Int:=(e.kids.take n).map fun k=>(typG f k).1
theorem tysTo_length (f:Ex->List Int->Int×Int) (e:Ex) (n:Nat) (h:n<=e.kids.length):(uP f e n).length=n:=by simp [uP];omega
theorem tysTo_succ (f:Ex->List Int->Int×Int) (e:Ex) (n:Nat) (h:n<e.kids.length):uP f e (n+1)=uP f e n++[(typG f (e.kids.getD n default)).1]:=by rw [uP,zy _ _ h,YE];rfl
def zQ (p:Int×Int):A:= .tup [num p.1,num p.2]
theorem tab_alike: ∀op:Int,isOp op=true->(yW op).types=4->2<=(yW op).kids:=by
 have h:(List.range 29).all (fun n=> !decide ((opTab.getD n default).types=4) || decide (2<=(opTab.getD n default).kids))=true:=Zi;intro op ho ht;rw [yW,ho,if_pos rfl,opAt] at ht ⊢;simp only [isOp,Yy,Yg] at ho;have:=all_range.1 h op.toNat Za;rw [ht] at this;simpa using this
theorem tab_choice: ∀op:Int,isOp op=true->(yW op).types=6->(yW op).kids=3/\op≠28:=by
 have h:(List.range 29).all (fun n=> !decide ((opTab.getD n default).types=6) || (decide ((opTab.getD n default).kids=3)&&decide (n≠28)))=true:=Zi;intro op ho ht;rw [yW,ho,if_pos rfl,opAt] at ht ⊢;simp only [isOp,Yy,Yg] at ho;have:=all_range.1 h op.toNat Za;rw [ht] at this;simp only [decide_true,Uk,Yx,Yy,Yg] at this;exact ⟨this.1,Za⟩
theorem tab_own: ∀op:Int,isOp op=true->(yW op).own=0->op=1\/op=5\/1<=(yW op).kids:=by
 have h:(List.range 29).all (fun n=> !decide ((opTab.getD n default).own=0) || (decide (n=0) || decide (n=1) || decide (n=5) || decide (1<=(opTab.getD n default).kids)))=true:=Zi;intro op ho ht;rw [yW,ho,if_pos rfl,opAt] at ht ⊢;simp only [isOp,Yy,Yg] at ho;have:=all_range.1 h op.toNat Za;rw [ht] at this;simp only [decide_true,Uk,Yx,Ul,Yg] at this;omega
theorem ki {e:Ex} (h:yU e=true):(yW e.op).kids<=e.kids.length/\(e.op≠28->(e.kids.length:Int)=(yW e.op).kids):=by
 simp only [yU,Yy,Ul,beq_iff_eq,Yg] at h;omega
theorem Z9 {p:Prop} (h:p:=by rw [zt (by omega) (by omega)];omega):p:=h
theorem ZE {p P0 P1 P2:Prop} (zf_:P0) (zg_:P1) (zh_:P2) (h:P0->P1->P2->p:=by intro zf_ zg_ zh_;simp [zf_,zg_,zh_,zf,ends]):p:=h zf_ zg_ zh_
theorem ZW {p q:Prop} (h:q) (e:p=q:=by conv=>lhs;simp -implicitDefEqProofs only [zQ,↓zb,push_cast,simprocAttr,tt]):p:=(e).mpr h
theorem Wv {p:Prop} (h:p:=by rw [vN];exact xV _ _ n h' hi g'):p:=h
theorem Ww {p:Prop} (h:p:=by rw [vN];exact yQ _ _ hi):p:=h
theorem WL {p:Prop} (h:p:=by simp only [ownM,h1',h2',h3',h4,h5,h6,h7',h8',Uk,Uu,Y7,Yx,Yz,Y4,YT,Yo,Yl,YI,Yq,YC,Y8,if_true,if_false]):p:=h
theorem WM {p:Prop} (h:p:=by simp only [ownM,h1',h2',h3',h4,h8',h5,h6,Uk,Uu,Y7,Yx,Yz,Y4,YT,Yo,Yl,YI,Yq,YC,Y8,if_true,if_false]):p:=h
theorem M7{p:Prop}(h:p:=by
 exact zP trivial (Zo hr hv) Zb):p:=h
theorem Jb{p:Prop}(h:p:=by
 refine ⟨⟨hl2.symm,Z2 hl2⟩,?_⟩;exact zp hI n rfl h' (fun i h2=>if h3:i=n then by rw [h3];exact g' else hi i Za) (ZE hw hs hl2) (ZE hw hs hl2) (ZE hw hs hl2) (ZE hw hs hl2)):p:=h
theorem c_typ (ts:List Int) (hts:ts.length<=1000000000): ∀e:Ex,Ok12 e->ACall Tryz.prog 192 [ints ts,aE e] [] (zQ (typG (ownM ts) e)) []:=
 jY (p:=fun e=>Ok12 e->ACall Tryz.prog 192 [ints ts,aE e] [] (zQ (typG (ownM ts) e)) []) fun e ih ho=>by
 refine zn mixed ttok Tryz.func192 Tryz.ntmps192 Tryz.results192 ?_;generalize hr:zQ (typG (ownM ts) e)=R;have hl:=ho.kids;refine Zn ?_;refine zq mixed ttok 17 [0,3,15,16] [3] Zv Zw e.kids.length (fun n=> ∀i,i<n->(typG (ownM ts) (e.kids.getD i default)).2=0) (fun n=>[(6,.vec 500 n)]) (fun n=>[(500,.vec 3 1 (zd rI (uP (ownM ts) e n)) 0)]) (fun i h=>absurd h (Yu _)) ?_ ?_
 ·exact (Weak.nilL 6 500 3 1 rfl rfl).trans (Weak.keepL (by simp [cst,ends]) (by simp [cst,uP,ends]) (by simp [cst,ends]))
 intro I hI n hn hi;have hl2:=tysTo_length (ownM ts) e n hn;refine Zx ?_;refine za (fun h=>?_) fun h=>?_
 ·simp only [Yg] at h;have h':n<e.kids.length:=Za;have hw:=zh h' Za;have hs:=tysTo_succ (ownM ts) e n h';refine ⟨Zs,?_⟩;refine zg [[1],[0,0,0,0,0,6]] [] (ih _ (zk h') (ho.kid (zk h'))) ?_;refine ZW ?_;refine za (fun g=>?_) fun g=>?_
  ·have g':(typG (ownM ts) (e.kids.getD n default)).2≠0:=Zc g;have hf:ferr Prod.snd (e.kids.map (typG (ownM ts)))=(typG (ownM ts) (e.kids.getD n default)).2:=Wv;have hE:typG (ownM ts) e=(0,(typG (ownM ts) (e.kids.getD n default)).2):=by rw [qp (ownM ts) e,typK,hf,if_neg g']
   exact zP trivial (Zo hr hE) Zb
  ·have g':(typG (ownM ts) (e.kids.getD n default)).2=0:=Zc g;exact Jb
 simp only [Ye] at h;obtain rfl:n=e.kids.length:=Za;clear hI;have hf:ferr Prod.snd (e.kids.map (typG (ownM ts)))=0:=Ww;have hT:uP (ownM ts) e e.kids.length=(e.kids.map (typG (ownM ts))).map Prod.fst:=by rw [uP,Yk,Ux];rfl
 have hM:typG (ownM ts) e=ownM ts e (uP (ownM ts) e e.kids.length):=by rw [qp (ownM ts) e,typK,if_pos hf,hT]
 rw [hM] at hr;generalize uP (ownM ts) e e.kids.length=l at hl2 hr ⊢;refine zg [[0,0,0,0,0,6]] [] (c_known e) ?_;simp -implicitDefEqProofs only [aOp,↓zb,push_cast,simprocAttr,tt];have hf4:isOp e.op=true->yU e=true->(yW e.op).types=4->0<l.length:=fun a b c=>by
  have:=tab_alike _ a c;have:=ki b;omega
 have hf6:isOp e.op=true->yU e=true->(yW e.op).types=6->l.length=3:=fun a b c=>by
  have h9:=tab_choice _ a c;have h8:=(ki b).2 h9.2;omega
 have hf0:isOp e.op=true->yU e=true-> ¬e.op=1-> ¬e.op=5->(yW e.op).own=0->0<l.length:=fun a b c d f=>by
  have h9:=tab_own _ a f;have h8:=ki b;omega
 refine za (fun h1=>?_) fun h1=>?_
 ·have h1':isOp e.op=false:=Zc h1;have hv:ownM ts e l=(0,1):=by simp only [ownM,h1',Uk,Uu,Y7,Yx,Yz,Y4,YT,Yo,Yl,YI,Yq,YC,Y8,if_true,if_false]
  exact M7
 have h1':isOp e.op=true:=Zc h1;refine zg [[0,0,0,0,0,6]] [] (c_clean e) ?_;refine Zf ?_;refine za (fun h2=>?_) fun h2=>?_
 ·have h2':yu e=false:=Zc h2;have hv:ownM ts e l=(0,1):=by simp only [ownM,h2',Uk,Uu,Y7,Yx,Yz,Y4,YT,Yo,Yl,YI,Yq,YC,Y8,if_true,if_false]
  exact M7
 have h2':yu e=true:=Zc h2;refine za (fun h3=>?_) fun h3=>?_
 ·have h3':yU e=false:=Zc h3;have hv:ownM ts e l=(0,9):=by simp only [ownM,h1',h2',h3',Uk,Uu,Y7,Yx,Yz,Y4,YT,Yo,Yl,YI,Yq,YC,Y8,if_true,if_false]
  exact M7
 have h3':yU e=true:=Zc h3
 replace hf4:=hf4 h1' h3'
 replace hf6:=hf6 h1' h3'
 replace hf0:=hf0 h1' h3'
 refine za (fun h4=>?_) fun h4=>?_
 ·refine za (fun h5=>?_) fun h5=>?_
  ·have hv:ownM ts e l=(0,3):=by simp only [ownM,h1',h2',h3',h4,h5,Uk,Uu,Y7,Yx,Yz,Y4,YT,Yo,Yl,YI,Yq,YC,Y8,if_true,if_false]
   exact M7
  refine za (fun h6=>?_) fun h6=>?_
  ·have hv:ownM ts e l=(0,3):=by simp only [ownM,h1',h2',h3',h4,h5,h6,Uk,Uu,Y7,Yx,Yz,Y4,YT,Yo,Yl,YI,Yq,YC,Y8,if_true,if_false]
   exact M7
  rw [h4,yC];refine ⟨by simp only [Ye] at h5 h6;omega,?_⟩;refine zg [[0]] [] (c_isType (ts.getD e.col.toNat default)) ?_;refine Zf ?_;rw [show (((ts.getD e.col.toNat default==1) || (ts.getD e.col.toNat default==2)) || (ts.getD e.col.toNat default==3))=xf (ts.getD e.col.toNat default) from rfl];refine za (fun h7=>?_) fun h7=>?_
  ·have h7':xf (ts.getD e.col.toNat default)=false:=Zc h7;have hv:ownM ts e l=(0,4):=by simp only [ownM,h1',h2',h3',h4,h5,h6,h7',Uk,Uu,Y7,Yx,Yz,Y4,YT,Yo,Yl,YI,Yq,YC,Y8,if_true,if_false]
   exact M7
  have h7':xf (ts.getD e.col.toNat default)=true:=Zc h7;refine zg [[0,0,0,0],[1]] [] (c_fit (yW e.op) l Za hf4 hf6) ?_;refine Zf ?_;refine za (fun h8=>?_) fun h8=>?_
  ·have h8':fitM (yW e.op) l=false:=Zc h8;have hv:ownM ts e l=(0,4):=WL;exact M7
  have h8':fitM (yW e.op) l=true:=Zc h8;rw [h4,yC];refine ⟨by simp only [Ye] at h5 h6;omega,?_⟩;have hv:ownM ts e l=(ts.getD e.col.toNat default,0):=WL;exact M7
 rw [h4,kG];refine zg [[0,0,0,0],[1]] [] (c_fit (yW e.op) l Za hf4 hf6) ?_;refine Zf ?_;refine za (fun h8=>?_) fun h8=>?_
 ·have h8':fitM (yW e.op) l=false:=Zc h8;have hv:ownM ts e l=(0,4):=by simp only [ownM,h1',h2',h3',h4,h8',Uk,Uu,Y7,Yx,Yz,Y4,YT,Yo,Yl,YI,Yq,YC,Y8,if_true,if_false]
  exact M7
 have h8':fitM (yW e.op) l=true:=Zc h8;rw [h4,kG];refine za (fun h5=>?_) fun h5=>?_
 ·have hv:ownM ts e l=(e.type,0):=by simp only [ownM,h1',h2',h3',h4,h8',h5,Uk,Uu,Y7,Yx,Yz,Y4,YT,Yo,Yl,YI,Yq,YC,Y8,if_true,if_false]
  exact M7
 refine za (fun h6=>?_) fun h6=>?_
 ·have h5': ¬e.op=1:=Zc h5;have h4': ¬e.op=5:=Zc h4;have h6':(yW e.op).own=0:=Zc h6;have hp:=hf0 h5' h4' h6';have hw:IntKind.i64.wrap ((e.kids.length:Int)-1)=((l.length-1:Nat):Int):=Z9;rw [hw];have hv:ownM ts e l=(l.getD (l.length-1) default,0):=WM;refine ⟨hl2.symm,⟨⟨Za,Za⟩,hl2.symm⟩,Za,hl2.symm,?_⟩;exact M7
 have hv:ownM ts e l=((yW e.op).own,0):=WM;exact M7
end
section
attribute [local simp, local push_cast] Ta yj zQ
def yb (f:Ex->List Int->Int×Int) (e:Ex):Int×Int:=if ve e>200 then (0,8) else if wD e>24 then (0,13) else typG f e
theorem Hf{p:Prop}(h:p:=by
 have hv:yb (ownM ts) e=(0,13):=by rw [yb,if_neg h',if_pos (Yd g)]
 exact M7):p:=h
theorem c_type (ts:List Int) (hts:ts.length<=1000000000) (e:Ex) (ho:Ok12 e):ACall Tryz.prog 148 [ints ts,aE e] [] (zQ (yb (ownM ts) e)) []:=by
 refine zn mixed ttok Tryz.func148 Tryz.ntmps148 Tryz.results148 ?_;generalize hr:zQ (yb (ownM ts) e)=R;refine Zn ?_;refine zg [[0,0,0,0,0,6]] [] (c_size e ho) ?_;refine Zf ?_;refine za (fun h=>?_) fun h=>?_
 ·have hv:yb (ownM ts) e=(0,8):=if_pos (Yd h);exact M7
 have h': ¬ve e>200:=Yc h;refine zg [[0,0,0,0,0,6]] [] (c_depth e ho) ?_;refine Zf ?_;refine za (fun g=>?_) fun g=>?_
 ·exact Hf
 have g': ¬wD e>24:=Yc g;refine zg [[1],[0,0,0,0,0,6]] [] (c_typ ts hts e ho) ?_;have hv:yb (ownM ts) e=typG (ownM ts) e:=by rw [yb,if_neg h',if_neg g']
 refine ZW ?_;exact M7
def uy (f:Nat->Int) (N:Nat):Int:=ferr f (List.range N)
theorem jP {N i:Nat} (h:i<N):(List.range N).getD i default=i:=by rw [Yf,List.getElem?_range h];rfl
theorem qf {f:Nat->Int} {N n:Nat} (h:n<N) (hi: ∀i,i<n->f i=0) (hn:f n≠0):uy f N=f n:=by
 have:=xV f (List.range N) n (Zc h) (fun i h2=>by rw [jP (by omega)];exact hi i h2) (by rw [jP h];exact hn);rwa [jP h] at this
theorem uG {f:Nat->Int} {N:Nat} (hi: ∀i,i<N->f i=0):uy f N=0:=
 yQ f (List.range N) fun i h=>by rw [List.length_range] at h;rw [jP h];exact hi i h
def u5 (k:Int):Bool:=(k !=1&&k !=2)&&k !=3
def uR (k:Int):Int:=if 0>k then 0 else k
def xj (t:Tbl) (i:Nat):Int:=
 if !jq (t.columns.getD i default).name then 3 else if uR (byC t.columns (t.columns.getD i default).name)<i then 5 else if u5 (t.columns.getD i default).type then 4 else 0
def xK (t:Tbl) (e:Ex):Int:=if (yb (ownM (yd t)) e).2≠0 then (yb (ownM (yd t)) e).2 else if (yb (ownM (yd t)) e).1≠2 then 4 else 0
def bigT (t:Tbl):Bool:=((decide ((t.columns.length:Int)>8) || decide ((t.uniques.length:Int)>3)) || decide ((t.foreigns.length:Int)>3)) || decide ((t.checks.length:Int)>4)
def xA (t:Tbl):Int:=
 if bigT t then 8 else if t.columns.length=0 then 9
 else if uy (xj t) t.columns.length≠0 then uy (xj t) t.columns.length
 else if xS t≠0 then xS t else ferr (xK t) t.checks
theorem ZX {p:Prop} (h:p:=by rw [<-hE (by rw [hc];decide),hc];rfl):p:=h
theorem Ms{p:Prop}(h:p:=by
 refine ZW ?_;refine ⟨ze Zg,?_⟩;refine za (fun g1=>?_) fun g1=>?_
 ·have g1':(yb (ownM (yd t)) (t.checks.getD n default)).2≠0:=Zc g1;have hc:xK t (t.checks.getD n default)=(yb (ownM (yd t)) (t.checks.getD n default)).2:=if_pos g1';exact zm trivial (by rw [<-hE (by rw [hc];exact g1'),hc];rfl) Zb
 have g1': ¬(yb (ownM (yd t)) (t.checks.getD n default)).2≠0:=Zc g1;refine za (fun g2=>?_) fun g2=>?_
 ·have g2':(yb (ownM (yd t)) (t.checks.getD n default)).1≠2:=Zc g2;have hc:xK t (t.checks.getD n default)=4:=by rw [xK,if_neg g1',if_pos g2']
  exact zm trivial ZX Zb
 have g2': ¬(yb (ownM (yd t)) (t.checks.getD n default)).1≠2:=Zc g2;have hc:xK t (t.checks.getD n default)=0:=by rw [xK,if_neg g1',if_neg g2']
 exact zp hI n rfl h' (fun i h2=>if h3:i=n then by rw [h3];exact hc else hi i Za) (Ze hw) (Ze hw) (Ze hw) (Ze hw)):p:=h
theorem JE{p:Prop}(h:p:=by
 have:=qf h' hi hne;rw [<-hr,hM,this,if_pos hne]):p:=h
theorem Ks{p:Prop}(h:p:=by
 have h5':t.columns.length=0:=Zc h5;exact zm trivial (by rw [<-hr,xA,if_neg hb,if_pos h5'];rfl) Zb):p:=h
theorem Kw{p:Prop}(h:p:=by
 simp only [Ye] at h;obtain rfl:n=t.checks.length:=Za;exact zm trivial (ZI hr hM2 (yQ _ _ hi)) Zb):p:=h
theorem c_table (t:Tbl) (ht:SmallT t):ACall Tryz.prog 84 [aT t] [] (num (xA t)) []:=by
 refine zn mixed ttok Tryz.func84 Tryz.ntmps84 Tryz.results84 ?_;generalize hr:num (xA t)=R;refine Zn ?_;have hcl:=ht.cols;have hkl:=ht.chk;have hbig:bigT t=true->retx (some (True,A.d (D.lit (Value.int .i64 8)))) ⟨[],[(1,vT t)]⟩ R []:=fun hb=>zm trivial (by rw [<-hr,xA,if_pos hb];rfl) Zb;simp only [vT] at hbig;refine za (fun h1=>?_) fun h1=>?_
 ·exact hbig (by rw [bigT,h1];simp only [Yz])
 refine za (fun h2=>?_) fun h2=>?_
 ·exact hbig (by rw [bigT,h2];simp only [Y4,Yz])
 refine za (fun h3=>?_) fun h3=>?_
 ·exact hbig (by rw [bigT,h3];simp only [Y4,Yz])
 refine za (fun h4=>?_) fun h4=>?_
 ·exact hbig (by rw [bigT,h4];simp only [Y4])
 clear hbig;have hb: ¬bigT t=true:=by rw [bigT,h1,h2,h3,h4];decide
 refine za (fun h5=>?_) fun h5=>?_
 ·exact Ks
 have h5': ¬t.columns.length=0:=Zc h5;have hM:xA t=if uy (xj t) t.columns.length≠0 then uy (xj t) t.columns.length
  else if xS t≠0 then xS t else ferr (xK t) t.checks:=by rw [xA,if_neg hb,if_neg h5']
 clear h1 h2 h3 h4 h5;refine zq mixed ttok 43 [1,41,42] [1] Zv Zw t.columns.length (fun n=> ∀i,i<n->xj t i=0) (fun _=>[]) (fun _=>[]) (fun i h=>absurd h (Yu _)) ?_ ?_
 ·exact Ya Zh Zh Zh
 intro I hI n hn hi;refine Zx ?_;refine za (fun h=>?_) fun h=>?_
 ·simp only [Yg] at h;have h':n<t.columns.length:=Za;have hw:=zh h' Za;have hE:xj t n≠0->num (xj t n)=R:=fun hne=>by
   exact JE
  refine ⟨Zs,?_⟩;refine zg [[0]] [] (c_name (t.columns.getD n default).name) ?_;refine Zf ?_;refine za (fun g1=>?_) fun g1=>?_
  ·have hc:xj t n=3:=if_pos g1;exact zm trivial ZX Zb
  refine zg [[0,3,1,1,2,6],[0]] [] (c_column t (t.columns.getD n default).name Za) ?_;refine Zf ?_;refine za (fun g2=>?_) fun g2=>?_
  ·have hc:xj t n=5:=by rw [xj,if_neg (by rw [g1];decide)];exact if_pos (Yd g2)
   exact zm trivial ZX Zb
  have hcB:xj t n=if u5 (t.columns.getD n default).type then 4 else 0:=by rw [xj,if_neg (by rw [g1];decide)];exact if_neg (Yc g2)
  have hinv:u5 (t.columns.getD n default).type=false-> ∀i,i<n+1->xj t i=0:=fun hb i h2=>if h3:i=n then by rw [h3,hcB,hb];rfl else hi i Za
  refine za (fun g3=>?_) fun g3=>?_
  ·refine za (fun g4=>?_) fun g4=>?_
   ·refine za (fun g5=>?_) fun g5=>?_
    ·have hc:xj t n=4:=by rw [hcB,u5,g3,g4,g5];rfl
     exact zm trivial ZX Zb
    ·exact zp hI n rfl h' (hinv (by rw [u5,g5,YI])) (Ze hw) (Ze hw) (Ze hw) (Ze hw)
   ·exact zp hI n rfl h' (hinv (by rw [u5,g4,YI,Yl])) (Ze hw) (Ze hw) (Ze hw) (Ze hw)
  ·exact zp hI n rfl h' (hinv (by rw [u5,g3,Yl,Yl])) (Ze hw) (Ze hw) (Ze hw) (Ze hw)
 simp only [Ye] at h;obtain rfl:n=t.columns.length:=Za;clear hI;have hM2:xA t=if xS t≠0 then xS t else ferr (xK t) t.checks:=by rw [hM,uG hi,if_neg (by decide)]
 clear hM h;refine zg [[0,3,1,1,2,6]] [] (c_keys t ht) ?_;refine Zf ?_;refine za (fun k1=>?_) fun k1=>?_
 ·have k1':xS t≠0:=Zc k1;exact zm trivial (ZI hr hM2 (if_pos k1')) Zb
 have k1': ¬xS t≠0:=Zc k1;rw [if_neg k1'] at hM2;refine zq mixed ttok 84 [1,82,83] [1] Zv Zw t.checks.length (fun n=> ∀i,i<n->xK t (t.checks.getD i default)=0) (fun _=>[]) (fun _=>[]) (fun i h=>absurd h (Yu _)) ?_ ?_
 ·exact Ya Zh Zh Zh
 clear hi hn I;intro I hI n hn hi;refine Zx ?_;refine za (fun h=>?_) fun h=>?_
 ·simp only [Yg] at h;have h':n<t.checks.length:=Za;have hw:=zh h' Za;have hE:xK t (t.checks.getD n default)≠0->num (xK t (t.checks.getD n default))=R:=fun hne=>by
   have:=xV (xK t) t.checks n h' hi hne;rw [<-hr,hM2,this]
  have hl:(yd t).length<=1000000000:=by rw [yd,Y2];omega
  refine ⟨Zs,?_⟩;refine zg [[0,3,1,1,2,6]] [] (c_types t Za) ?_;refine Zf ?_;refine zg [[1],[0,0,0,0,0,6]] [] (c_type (yd t) hl (t.checks.getD n default) (ht.chks _ (zk h'))) ?_;exact Ms
 exact Kw
end
section
attribute [local simp, local push_cast] Ta yj zQ vT
theorem ne_nat {a b:Nat} (h:((a:Int) !=(b:Int))=true): ¬a=b:=fun e=>by rw [e] at h;simp at h
theorem kd {a b:Nat} (h:((a:Int) !=(b:Int))=false):a=b:=by simp only [bne_eq_false_iff_eq] at h;omega
def aFk (f:Fk):A:= .agg [.d (.sl 1 (zd rI f.columns)),.d (.lit (.string f.table))]
attribute [local simp, local push_cast] aFk
def x8 (t:Tbl) (k:Int):Int:=(t.columns.getD k.toNat default).type
theorem c_ref1 (t u:Tbl) (i j:Int) (hi:inC t i) (hj:inC u j):ACall Tryz.prog 150 [num i,num j,.ptr 1000 0,.ptr 1001 0] [(1000,vT t),(1001,vT u)] (boo (x8 t i==x8 u j)) [(1000,vT t),(1001,vT u)]:=by
 refine zn mixed ttok Tryz.func150 Tryz.ntmps150 Tryz.results150 ?_;generalize hr:boo (x8 t i==x8 u j)=R;obtain ⟨hi0,hi1⟩:=hi;obtain ⟨hj0,hj1⟩:=hj;refine XP ?_;refine ⟨⟨hi0,hi1⟩,⟨hj0,hj1⟩,ze Zg,?_⟩;exact NA
def jj (t u:Tbl) (a b:List Int):Bool:=a.length==b.length&&(List.range a.length).all fun i=>x8 t (a.getD i default)==x8 u (b.getD i default)
theorem M5{p:Prop}(h:p:=by
 exact zp hI n rfl h' (fun i h2=>if h3:i=n then by rw [h3];exact g' else hi i Za) (Ze hw) (Ze hw) (Ze hw) (Ze hw)):p:=h
theorem c_eqF (t u:Tbl) (a b:List Int) (ha: ∀k∈a,inC t k) (hb: ∀k∈b,inC u k) (hl:a.length<=1000):
 ACall Tryz.prog 149 [ints a,ints b,.clo 150 [.ptr 1000 0,.ptr 1001 0]] [(1000,vT t),(1001,vT u)] (boo (jj t u a b)) [(1000,vT t),(1001,vT u)]:=by
 refine zn mixed ttok Tryz.func149 Tryz.ntmps149 Tryz.results149 ?_;generalize hr:boo (jj t u a b)=R;refine XP ?_;refine za (fun h0=>?_) fun h0=>?_
 ·have h0': ¬a.length=b.length:=ne_nat h0;refine zv [0] rfl Zd Zj ?_ Zk Zb Zb;rw [<-hr,jj,beq_false_of_ne h0'];rfl
 have h0':a.length=b.length:=kd h0;refine zq mixed ttok 17 [0,1,2,15,16] [1000,1001] Zv Zw a.length (fun n=> ∀i,i<n->(x8 t (a.getD i default)==x8 u (b.getD i default))=true) (fun _=>[]) (fun _=>[]) (fun i h=>absurd h (Yu _)) ?_ ?_
 ·exact Ya Zh Zh Zh
 intro I hI n hn hi;refine Zx ?_;refine za (fun h=>?_) fun h=>?_
 ·simp only [Yg] at h;have h':n<a.length:=Za;have hw:=zh h' Za;refine ⟨Zs,?_⟩;refine ⟨Za,?_⟩;have hc:=c_ref1 t u (a.getD n default) (b.getD n default) (ha _ (zk h')) (hb _ (zk Za));unfold vT at hc;refine zg [[0],[0],[],[]] [(1000,1000),(1001,1001)] (hc) ?_;refine Zf ?_;refine za (fun g=>?_) fun g=>?_
  ·have g':(x8 t (a.getD n default)==x8 u (b.getD n default))=false:=Zc g;refine zv [0] rfl Zd Zj ?_ Zk Zb Zb;have hbad:((List.range a.length).all fun i=>x8 t (a.getD i default)==x8 u (b.getD i default))=false:=wT h' g';rw [<-hr,jj,hbad,YI];rfl
  ·have g':(x8 t (a.getD n default)==x8 u (b.getD n default))=true:=Zc g;exact M5
 ·simp only [Ye] at h;obtain rfl:n=a.length:=Za;refine zv [0] rfl Zd Zj ?_ Zk Zb Zb;rw [<-hr,jj,all_range.2 hi,h0',beq_self_eq_true];rfl
def refM (s:Sch) (t:Tbl) (f:Fk):Int:=
 if byT s f.table<0 then 11 else if jj t (s.getD (byT s f.table).toNat default) f.columns (s.getD (byT s f.table).toNat default).primary then 0 else 6
theorem c_reference (s:Sch) (t:Tbl) (f:Fk) (hs:s.length<=1000) (hl:f.columns.length<=1000) (hf: ∀k∈f.columns,inC t k) (hp: ∀u∈s,∀k∈u.primary,inC u k):
 ACall Tryz.prog 85 [aS s,aT t,aFk f] [] (num (refM s t f)) []:=by
 refine zn mixed ttok Tryz.func85 Tryz.ntmps85 Tryz.results85 ?_;generalize hr:num (refM s t f)=R;refine Zn ?_;refine zg [[6],[0]] [] (c_find s f.table Za) ?_;refine Zf ?_;refine za (fun h=>?_) fun h=>?_
 ·have h':byT s f.table<0:=Zc h;exact zm trivial (by rw [<-hr,refM,if_pos h'];rfl) Zb
 have h': ¬byT s f.table<0:=Zc h;have hlt:=xU (fun t=>t.name.toList==f.table.toList) s;have hM:refM s t f=if jj t (s.getD (byT s f.table).toNat default) f.columns (s.getD (byT s f.table).toNat default).primary then 0 else 6:=if_neg h'
 have hk:byT s f.table<s.length:=hlt;clear hlt h;generalize byT s f.table=k at h' hM hk ⊢;simp only [if_neg (show¬0>k from Za)];refine ⟨⟨Za,hk⟩,?_⟩;have hu:s.getD k.toNat default∈s:=zk Za;have hc:=c_eqF t (s.getD k.toNat default) f.columns (s.getD k.toNat default).primary hf (hp _ hu) hl;unfold vT at hc;refine zg [[1],[1],[]] [(1000,4),(1001,9)] (hc) ?_;refine Zf ?_;refine za (fun g=>?_) fun g=>?_
 ·have g':jj t (s.getD k.toNat default) f.columns (s.getD k.toNat default).primary=false:=Zc g;exact zm trivial (ZI hr hM g') Zb
 ·have g':jj t (s.getD k.toNat default) f.columns (s.getD k.toNat default).primary=true:=Zc g;exact zm trivial (ZI hr hM g') Zb
end
section
attribute [local simp, local push_cast] Ta yj zQ aFk vT
theorem c_order1n:ACall Tryz.prog 152 [.d (.lit (.map none))] [] (boo false) []:=by
 refine zn mixed ttok Tryz.func152 Tryz.ntmps152 Tryz.results152 ?_;generalize hr:boo false=R;refine Zn ?_;exact NA
theorem c_order1 (ks:List Int):ACall Tryz.prog 152 [.mp 1000] [(1000,.mp (encM ks))] (boo (ks.length==0)) [(1000,.mp (encM ks))]:=by
 refine zn mixed ttok Tryz.func152 Tryz.ntmps152 Tryz.results152 ?_;generalize hr:boo (ks.length==0)=R;simp -implicitDefEqProofs only [argT,encM_length,↓zb,push_cast,simprocAttr,tt];subst hr;refine zv [0] rfl Zd Zj ?_ Zk Zb Zb;have:((ks.length:Int)==0)=(ks.length==0):=by rw [Ud];simp
 rw [this];rfl
def freeM:Option (List Int)->Bool
 | none=>false
 | some ks=>ks.length==0
def mobs (a b:Nat) (ms:List (Option (List Int))):List (Nat×Ob):=(a,.var (x6 b ms))::yO b ms
theorem mapsL_mk: ∀(b:Nat) (ms:List (Option (List Int))),b+ms.length<=1000000->noMk (yO b ms)=true
 | b,[],_=>rfl
 | b,none::ms,h=>by
   simp only [yO];exact mapsL_mk (b+1) ms (by simp only [Y5] at h;omega)
 | b,some ks::ms,h=>by
   simp only [yO,noMk,List.all_cons,Yy,Yg];simp only [Y5] at h;exact ⟨Za,mapsL_mk (b+1) ms Za⟩
theorem mobs_mk {ms:List (Option (List Int))} (h:ms.length<=6):noMk (mobs 1000 1001 ms)=true:=by
 simp only [mobs,noMk,List.all_cons,Yy,Yg];exact ⟨Za,mapsL_mk 1001 ms Za⟩
theorem mobs_at {a b:Nat} {ms:List (Option (List Int))} {n:Nat} {ks:List Int} (hab:a<b) (h:ms[n]? =some (some ks)):lookO (mobs a b ms) (b+n)=some (.mp (encM ks)):=by
 rw [mobs,y4 Za];exact yz b h
theorem mobs_in {a b:Nat} {ms:List (Option (List Int))} {n:Nat} {ks:List Int} (h:ms[n]? =some (some ks)):inO (mobs a b ms) (b+n)=true:=vj (inO_maps b h)
theorem gR {a b:Nat} {ms:List (Option (List Int))} (hab:a<b):keepO (lookO (mobs a b ms)) (inO (mobs a b ms)) (mobs a b ms):=
 ⟨⟨by simp [mobs,lookO],um fun n ks h=>mobs_in h⟩,uE fun n ks h=>mobs_at hab h⟩
theorem mobs_all {a b:Nat} {ms:List (Option (List Int))}:keepIn (inO (mobs a b ms)) (mobs a b ms):=
 ⟨.inr inO_cons_l,kz fun n ks h=> .inr (mobs_in h)⟩
theorem XR {p:Prop} (h:p:=by simp [cst,mobs,ends]):p:=h
theorem WB {p q:Prop} (h:q) (e:p=q:=by conv=>lhs;simp -implicitDefEqProofs only [cellM,Ub,↓zb,push_cast,simprocAttr,tt]):p:=(e).mpr h
theorem c_idxM (ms:List (Option (List Int))) (hl:ms.length<=6):
 ACall Tryz.prog 151 [.vs 1000 ms.length,.clo 152 []] (mobs 1000 1001 ms) (num (fidx freeM ms)) (mobs 1000 1001 ms):=by
 refine zn mixed ttok Tryz.func151 Tryz.ntmps151 Tryz.results151 ?_ (hmk:=mobs_mk hl);generalize hr:num (fidx freeM ms)=R;unfold mobs;refine Zn ?_;have hend: ∀(t:UL) (v:Int),num v=R->retx (some (True,A.d (D.lit (Value.int IntKind.i64 v)))) ⟨t,(1000,.var (x6 1001 ms))::yO 1001 ms⟩ R ((1000,.var (x6 1001 ms))::yO 1001 ms):=fun t v hv=>by
  refine zv [0] rfl trivial trivial hv (ZJ hv) ?_ ?_
  ·exact gR Za
  ·exact mobs_all
 refine uV mixed ttok 8 [0,1,7] (by simp only [zF,ends,ite_true,ite_false,reduceIte,Nat.reduceEqDiff,Nat.reduceLeDiff,Nat.reduceLT,Nat.reduceAdd,reduceCtorEq,num,boo,str,ints,aV,aTab,z8,aS,aT,aC,yj,zQ,aFk,vT];rfl) (mobs 1000 1001 ms) ms.length (fun n=> ∀i,i<n->freeM (ms.getD i default)=false) (fun _=>[]) (fun _=>[]) (fun i h=>absurd h (Yu _)) ?_ ?_
 ·refine Ya XR (gR Za) mobs_all
 intro I hI n hn hi;unfold mobs at hI ⊢;refine Zx ?_;refine za (fun h=>?_) fun h=>?_
 ·simp only [Yg] at h;have h':n<ms.length:=Za;have hw:=zh h' Za;refine ⟨Za,?_⟩;have hm:ms[n]? =some (ms.getD n default):=by rw [Yf,List.getElem?_eq_getElem h'];rfl
  rw [j7,hm];generalize ms.getD n default=m at hm;have hfi:ms.getD n default=m:=by rw [Yf,hm];rfl
  have hinv:freeM m=false-> ∀i,i<n+1->freeM (ms.getD i default)=false:=fun hf i h2=>if h3:i=n then by rw [h3,hfi,hf] else hi i Za
  cases m with
  | none=>
    refine WB ?_;refine zg [[0]] [] (c_order1n) ?_;refine Zf ?_;refine ub hI n rfl h' (hinv rfl) (Ya (Xa hw) (gR Za) mobs_all)
  | some ks=>
    refine WB ?_;refine callx_same [[]] (fun _=>1001+n) rfl (c_order1 ks) rfl Zd rfl rfl ⟨⟨?_,rfl⟩,trivial⟩ Zd Zd Zd ?_
    ·exact mobs_at Za hm
    refine Zf ?_;refine za (fun g=>?_) fun g=>?_
    ·exact hend _ _ (by rw [<-hr,vC freeM ms n h' hi (by rw [hfi];exact g)])
    ·refine ub hI n rfl h' (hinv g) (Ya (Xa hw) (gR Za) mobs_all)
 ·simp only [Ye] at h;obtain rfl:n=ms.length:=Za;exact hend _ _ (by rw [<-hr,xE freeM ms hi])
def ua (s:Sch) (l:List Fk):List Int:=l.foldl (fun acc f=>addK acc (byT s f.table)) []
def ms1 (s:Sch) (n:Nat):List (Option (List Int)):=(List.range s.length).map fun i=>if i<n then some (ua s (s.getD i default).foreigns) else none
theorem vh (s:Sch) (n:Nat):(ms1 s n).length=s.length:=by simp [ms1]
theorem ms1_zero (s:Sch):ms1 s 0=List.replicate s.length none:=by
 apply Uc;intro j;simp only [ms1,Yu,if_false,List.getElem?_map,List.getElem?_replicate];by_cases hj:j<s.length
 ·rw [List.getElem?_range hj,if_pos hj];rfl
 ·rw [List.getElem?_eq_none Zt,if_neg hj];rfl
theorem ms1_succ (s:Sch) (n:Nat) (h:n<s.length):(ms1 s n).set n (some (ua s (s.getD n default).foreigns))=ms1 s (n+1):=by
 apply Uc;intro j;rw [List.getElem?_set,vh];by_cases hj:n=j
 ·subst hj;simp [ms1,h]
 ·simp only [hj,if_false,ms1,List.getElem?_map];by_cases hl:j<s.length
  ·rw [List.getElem?_range hl];simp only [Ub]
   congr 1
   by_cases h1:j<n
   ·rw [if_pos h1,if_pos Za]
   ·rw [if_neg h1,if_neg Za]
  ·rw [List.getElem?_eq_none Zt];rfl
theorem depsTo_succ (s:Sch) (l:List Fk) (n:Nat) (h:n<l.length):ua s (l.take (n+1))=addK (ua s (l.take n)) (byT s (l.getD n default).table):=by
 rw [zy _ _ h,ua,List.foldl_append];rfl
theorem yH {ms:List (Option (List Int))} {k:Nat} (h:k<700):lookO (yO 700 ms) k=none:=lookO_maps_lt ms h
attribute [local simp, local push_cast] yH
theorem closedL_set {dom:Nat->Bool} {a:A} (ha:a.closed dom=true): ∀(l:List A) (n:Nat),closedL dom l=true->closedL dom (l.set n a)=true
 | [],_,h=>h
 | x::l,0,h=>by simp only [closedL,List.set_cons_zero,Yy] at h ⊢;exact ⟨ha,h.2⟩
 | x::l,n+1,h=>by simp only [closedL,List.set_cons_succ,Yy] at h ⊢;exact ⟨h.1,closedL_set ha l n h.2⟩
theorem renL_set (r:Nat->Nat) (a:A): ∀(l:List A) (n:Nat),renL r (l.set n a)=(renL r l).set n (a.ren r)
 | [],_=>rfl
 | x::l,0=>rfl
 | x::l,n+1=>by simp only [List.set_cons_succ,renL];rw [renL_set r a l n]
theorem renO_maps {a b:Nat}: ∀{ms:List (Option (List Int))} {c:Nat},a<c->renO a b (yO c ms)=yO c ms
 | [],_,_=>rfl
 | none::l,c,h=>by rw [yO];exact renO_maps (by omega)
 | some ks::l,c,h=>by rw [yO,renO,renO_maps (by omega)];simp only [zT,Ob.ren];rw [if_neg (by omega)]
theorem gf {dom:Nat->Bool} {ms:List (Option (List Int))} (h:ms.length<=6):keepIn dom (yO 700 ms):=kz fun n ks hn=> .inl (by have:=(List.getElem?_eq_some_iff.1 hn).1;omega)
theorem splice_set {α:Type} (l:List α) (n:Nat) (x:α) (h:n<l.length):l.take n++[x]++l.drop (n+1)=l.set n x:=by rw [List.set_eq_take_append_cons_drop,if_pos h,Yn];rfl
def vS (s:Sch):Ob:= .var [.d (.sl 6 (zd rT s))]
theorem keep_a {f:UJ} {s:Sch} {ms:List (Option (List Int))} (h1:f 1=some (vS s)) (h2:f 18=some (.var (x6 700 ms))) (h3: ∀n ks,ms[n]? =some (some ks)->f (700+n)=some (.mp (encM ks))):
 keepO f (inO ((1,vS s)::mobs 18 700 ms)) ((1,vS s)::mobs 18 700 ms):=
 ⟨⟨h1,rfl⟩,⟨h2,um fun n ks h=>vj (mobs_in h)⟩,uE h3⟩
def rM (i:Nat):Nat:=if i=1000 then 18 else i-301
theorem rM_at (n:Nat):rM (1001+n)=700+n:=by simp only [rM];rw [if_neg (by omega)];omega
theorem mobs_big {ms:List (Option (List Int))} (h:ms.length<=6): ∀x∈(mobs 1000 1001 ms).map (·.1),hdd x=true:=by
 intro x hx;rw [mobs,Y0,YB] at hx;rcases hx with hx | hx
 ·subst hx;rfl
 ·obtain ⟨n,_,rfl,hn⟩:=gg hx;have:=(List.getElem?_eq_some_iff.1 hn).1;exact hdd_mid Za Za
theorem mobs_nodup {ms:List (Option (List Int))} (h:ms.length≤6):(((mobs 1000 1001 ms).map (·.1)).map rM).Nodup:=by
 rw [mobs,Y0,Y0];refine List.nodup_cons.2 ⟨fun hm=>?_,?_⟩
 ·obtain ⟨x,hx,he⟩:=Yv.1 hm;obtain ⟨n,_,rfl,_⟩:=gg hx;rw [rM_at] at he;simp [rM] at he;omega
 ·have hN: ∀{ms:List (Option (List Int))} {b:Nat},1001≤b→(((yO b ms).map (·.1)).map rM).Nodup:=by
   intro ms
   induction ms with
   | nil=>intro b _;exact List.Pairwise.nil
   | cons m l ih=>
     intro b hb;cases m with
     | none=>rw [yO];exact ih Za
     | some ks=>
       rw [yO,Y0,Y0];refine List.nodup_cons.2 ⟨fun hm=>?_,ih Za⟩;obtain ⟨x,hx,he⟩:=Yv.1 hm;obtain ⟨n,_,rfl,_⟩:=gg hx;simp only [rM] at he;rw [if_neg Za,if_neg Za] at he;omega
  exact hN (Ys _)
theorem mobs_nodup0 {ms:List (Option (List Int))} (h:ms.length<=6):((mobs 1000 1001 ms).map (·.1)).Nodup:=by
 have:=mobs_nodup h;generalize (mobs 1000 1001 ms).map (·.1)=l at this
 induction l with
 | nil=>exact List.Pairwise.nil
 | cons x l ih=>
   rw [Y0] at this;obtain ⟨h1,h2⟩:=List.nodup_cons.1 this;exact List.nodup_cons.2 ⟨fun hm=>h1 (Yv.2 ⟨x,hm,rfl⟩),ih h2⟩
theorem keep_c {f:UJ} {s:Sch} {ms:List (Option (List Int))} {x:Nat×Ob} (h1:f 1=some (vS s)) (h2:f 18=some (.var (x6 700 ms))) (h3: ∀n ks,ms[n]? =some (some ks)->f (700+n)=some (.mp (encM ks))):
 keepO f (inO (x::(1,vS s)::mobs 18 700 ms)) ((1,vS s)::mobs 18 700 ms):=
 ⟨⟨h1,rfl⟩,⟨h2,um fun n ks h=>vj (vj (mobs_in h))⟩,uE h3⟩
theorem keep_b {f:UJ} {s:Sch} {ms:List (Option (List Int))} {es:List (Value×Value)} {k:Nat} (h1:f 1=some (vS s)) (h29:f 29=some (.mp es)) (h2:f 18=some (.var ((x6 700 ms).set k (.mp 29)))) (h3: ∀n ks,ms[n]? =some (some ks)->f (700+n)=some (.mp (encM ks))):
 keepO f (inO ((1,vS s)::(29,.mp es)::(18,.var ((x6 700 ms).set k (.mp 29)))::yO 700 ms)) ((1,vS s)::(29,.mp es)::(18,.var ((x6 700 ms).set k (.mp 29)))::yO 700 ms):=
 ⟨⟨h1,rfl⟩,⟨h29,rfl⟩,⟨h2,closedL_set (a:= .mp 29) (by simp only [A.closed];exact vj inO_cons_l) _ _ (um fun n ks h=>vj (vj (vj (inO_maps 700 h))))⟩,uE h3⟩
def fks (s:Sch) (i:Nat):List Fk:=(s.getD i default).foreigns
def ux (s:Sch) (p:List Int) (i:Nat):Bool:= !p.contains (i:Int)&&(fks s i).all fun f=>p.contains (byT s f.table)
def xw (s:Sch) (p:List Int):Int:=fidx (ux s p) (List.range s.length)
def yI (s:Sch):Nat->List Int
 | 0=>[]
 | n+1=>yI s n++[xw s (yI s n)]
theorem qv (s:Sch): ∀n,(yI s n).length=n
 | 0=>rfl
 | n+1=>by rw [yI,Yb,qv s n];rfl
def qx (s:Sch):Bool:=(List.range s.length).all fun n=>decide (0<=xw s (yI s n))
def uv (s:Sch):Int:=if qx s then 0 else 7
def qw (s:Sch):List Int:=if qx s then yI s s.length else []
def msA (s:Sch) (p:List Int):List (Option (List Int)):=(List.range s.length).map fun i:Nat=>if p.contains (i:Int) then none else some ((ua s (fks s i)).filter fun k=> !p.contains k)
theorem yG (s:Sch) (p:List Int):(msA s p).length=s.length:=by simp [msA]
theorem msA_nil (s:Sch):ms1 s s.length=msA s []:=by
 unfold ms1 msA;apply Up;intro i hi;rw [if_pos (Zc hi)];have:((ua s (fks s i)).filter fun k=> !([]:List Int).contains k)=ua s (fks s i):=List.filter_eq_self.2 fun _ _=>rfl;rw [if_neg Zd,this];rfl
theorem fidx_map {α β:Type} (p:β->Bool) (g:α->β): ∀l:List α,fidx p (l.map g)=fidx (fun x=>p (g x)) l
 | []=>rfl
 | x::l=>by simp only [Y0,fidx,fidx_map p g l]
theorem fidx_congr {α:Type} {p q:α->Bool}: ∀l:List α,(∀x∈l,p x=q x)->fidx p l=fidx q l
 | [],_=>rfl
 | x::l,h=>by simp only [fidx,h x (by simp),fidx_congr l fun y hy=>h y (by simp [hy])]
theorem addK_mem (ks:List Int) (k x:Int):x∈addK ks k ↔ x∈ks\/x=k:=by
 unfold addK;by_cases h:ks.contains k=true
 ·rw [if_pos h];have:k∈ks:=Zc h;exact ⟨.inl,fun hx=>hx.elim id fun e=>e ▸ this⟩
 ·rw [if_neg h];simp
theorem addK_nodup {ks:List Int} (h:ks.Nodup) (k:Int):(addK ks k).Nodup:=by
 unfold addK;by_cases h2:ks.contains k=true
 ·rwa [if_pos h2]
 ·rw [if_neg h2];have:k ∉ ks:=Zc h2;exact List.nodup_append.2 ⟨h,List.nodup_cons.2 ⟨Zd,List.Pairwise.nil⟩,fun a ha b hb=>by simp at hb;subst hb;exact fun e=>this (e ▸ ha)⟩
theorem depsTo_mem (s:Sch) (l:List Fk) (x:Int):x∈ua s l ↔ ∃f∈l,byT s f.table=x:=by
 have: ∀(l:List Fk) (acc:List Int),x∈l.foldl (fun acc f=>addK acc (byT s f.table)) acc ↔ x∈acc\/ ∃f∈l,byT s f.table=x:=by
  intro l
  induction l with
  | nil=>intro acc;simp
  | cons f l ih=>intro acc;rw [List.foldl_cons,ih,addK_mem];simp [eq_comm,or_assoc]
 rw [ua,this];simp
theorem depsTo_nodup (s:Sch) (l:List Fk):(ua s l).Nodup:=by
 have: ∀(l:List Fk) (acc:List Int),acc.Nodup->(l.foldl (fun acc f=>addK acc (byT s f.table)) acc).Nodup:=by
  intro l
  induction l with
  | nil=>intro acc h;exact h
  | cons f l ih=>intro acc h;exact ih _ (addK_nodup h _)
 exact this l [] List.Pairwise.nil
theorem pick_msA (s:Sch) (p:List Int):fidx freeM (msA s p)=xw s p:=by
 rw [msA,fidx_map,xw];refine fidx_congr _ fun i _=>?_;rw [ux];by_cases h:p.contains (i:Int)=true
 ·rw [if_pos h,h];rfl
 ·have h2:p.contains (i:Int)=false:=Zc h;rw [if_neg h,h2];simp only [freeM,Uu,Yo];rw [Ud];simp only [beq_iff_eq,List.length_eq_zero_iff,UI,Ua,UD,Bool.not_eq_false];constructor
  ·intro hh f hf;exact hh _ ((depsTo_mem s _ _).2 ⟨f,hf,rfl⟩)
  ·intro hh k hk;obtain ⟨f,hf,rfl⟩:=(depsTo_mem s _ _).1 hk;exact hh f hf
def dropK (k:Int) (m:Option (List Int)):Option (List Int):=m.map (·.erase k)
def msJ (k:Int) (ms:List (Option (List Int))) (j:Nat):List (Option (List Int)):=(ms.take j).map (dropK k)++ms.drop j
theorem msJ_length (k:Int) (ms:List (Option (List Int))) (j:Nat):(msJ k ms j).length=ms.length:=by simp [msJ];omega
theorem msJ_get (k:Int) (ms:List (Option (List Int))) (j:Nat) (h:j<ms.length):(msJ k ms j)[j]? =ms[j]? :=by
 rw [msJ,List.getElem?_append_right Zt,List.getElem?_drop]
 congr 1
 simp;omega
theorem msJ_succ (k:Int) (ms:List (Option (List Int))) (j:Nat) (m:Option (List Int)) (h:j<ms.length) (hm:ms[j]? =some m):msJ k ms (j+1)=(msJ k ms j).set j (dropK k m):=by
 have hg:ms[j]=m:=by rw [List.getElem?_eq_getElem h] at hm;simpa using hm
 rw [msJ,msJ,U6 h,U0 h,hg,YE,List.set_append_right (h:=Zt)];have:j-(List.map (dropK k) (List.take j ms)).length=0:=Zt;rw [this];simp
theorem msJ_all (s:Sch) (p:List Int) (k:Int) (h0:0≤k):msJ k ((msA s p).set k.toNat none) s.length=msA s (p++[k]):=by
 have hl:((msA s p).set k.toNat none).length=s.length:=by rw [YF,yG]
 rw [msJ,<-hl,Yk,Um,Yw];apply Uc;intro i;simp only [List.getElem?_map,List.getElem?_set,yG];by_cases hi:i<s.length
 ·have he:k.toNat=i ↔ k=(i:Int):=Za;have hg:(msA s p)[i]? =some (if p.contains (i:Int) then none else some ((ua s (fks s i)).filter fun k=> !p.contains k)):=by simp only [msA,List.getElem?_map];rw [List.getElem?_range hi];rfl
  have hg2:(msA s (p++[k]))[i]? =some (if (p++[k]).contains (i:Int) then none else some ((ua s (fks s i)).filter fun x=> !(p++[k]).contains x)):=by simp only [msA,List.getElem?_map];rw [List.getElem?_range hi];rfl
  rw [hg2,hg];by_cases hk:k=(i:Int)
  ·have hc:(p++[k]).contains (i:Int)=true:=Zu hk;rw [if_pos (he.2 hk),if_pos Za,hc];rfl
  ·have hc:(p++[k]).contains (i:Int)=p.contains (i:Int):=by rw [Ud];simp;exact fun e=>absurd e.symm hk
   rw [if_neg (fun e=>hk (he.1 e)),hc];by_cases hp:p.contains (i:Int)=true
   ·rw [if_pos hp,if_pos hp];rfl
   ·rw [if_neg hp,if_neg hp];simp only [Ub,dropK];rw [List.Nodup.erase_eq_filter ((depsTo_nodup s (fks s i)).filter _),List.filter_filter]
    congr 2
    apply List.filter_congr;intro x _;rw [Ud];simp [and_comm]
 ·have e1:(msA s p)[i]? =none:=List.getElem?_eq_none (by rw [yG];omega);have e2:(msA s (p++[k]))[i]? =none:=List.getElem?_eq_none (by rw [yG];omega);rw [e1,e2]
  split
  ·rw [if_neg Za];rfl
  ·rfl
theorem Zp {p P0:Prop} (zf_:P0) (h:P0->p:=by intro zf_;have:=Yc zf_;omega):p:=h zf_
theorem Zq {p P0:Prop} (zf_:P0) (h:P0->p:=by intro zf_;have:=Yd zf_;omega):p:=h zf_
theorem X0 {p:Prop} (h:p:=by rw [yG];exact hs):p:=h
theorem X3 {p:Prop} (h:p:=by first | rfl | exact kA (by omega)):p:=h
theorem Wx {p:Prop} (h:p:=by simp only [zF,ends,ite_true,ite_false,reduceIte,Nat.reduceEqDiff,Nat.reduceLeDiff,Nat.reduceLT,Nat.reduceAdd,reduceCtorEq,num,boo,str,ints,aV,aTab,z8,aS,aT,aC,yj,zQ,aFk,vT,yH];rfl):p:=h
theorem c_order (s:Sch) (hs:s.length≤6) (hf: ∀t∈s,t.foreigns.length≤1000) (hall: ∀t∈s,∀f∈t.foreigns,0≤byT s f.table):
 ACall Tryz.prog 86 [aS s] [] (.tup [ints (qw s),num (uv s)]) []:=by
 refine zn mixed ttok Tryz.func86 Tryz.ntmps86 Tryz.results86 ?_;generalize hr:A.tup [ints (qw s),num (uv s)]=R;refine Zn ?_;refine ⟨Za,?_⟩;refine uV mixed ttok 22 [1,4,20,21] Wx [] s.length (fun _=>True) (fun _=>[]) (fun n=>(1,vS s)::mobs 18 700 (ms1 s n)) trivial ?_ ?_
 ·refine Ya XR ?_ Zh;simp only [cst,Yw];refine keep_a rfl ?_ fun n ks h=>?_
  ·rw [ms1_zero,mapsA_none];rfl
  ·rw [ms1_zero,List.getElem?_replicate] at h;split at h<;>cases h
 intro I hI n hn hi;simp -implicitDefEqProofs only [cst,mobs,vS,Yw,↓zb,push_cast,simprocAttr,tt];refine za (fun h=>?_) fun h=>?_
 ·simp only [Yg] at h;have h':n<s.length:=Za;refine ⟨Zs,?_⟩;refine ⟨⟨Za,Za⟩,by rw [wA,vh];omega,?_⟩;have hml:n<(x6 700 (ms1 s n)).length:=by rw [wA,vh];omega
  rw [splice_set _ _ _ hml];have hlF:=hf _ (zk h');have hallF:=hall _ (zk h');generalize hF:(List.getD s n default).foreigns=F at hlF hallF;refine uV mixed ttok 34 [1,4,5,20,21,22,32,33] Wx [] F.length (fun _=>True) (fun _=>[])
   (fun k=>(1,vS s)::(29,.mp (encM (ua s (F.take k))))::(18,.var ((x6 700 (ms1 s n)).set n (.mp 29)))::yO 700 (ms1 s n)) trivial ?_ ?_
  ·refine (Weak.mpAny 29 rfl).trans (Ya Zh ?_ ?_)
   ·simp only [cst,Yw];exact keep_b rfl rfl rfl fun i ks hi=>by simp only [ends,ite_true,ite_false,reduceIte,Nat.reduceEqDiff,Nat.reduceLeDiff,Nat.reduceLT,Nat.reduceAdd,reduceCtorEq,num,boo,str,ints,aV,aTab,z8,aS,aT,aC,yj,zQ,aFk,vT,yH,vS];rw [if_neg (by omega),if_neg (by omega),if_neg (by omega),if_neg (by omega),if_neg (by omega),if_neg (by omega),if_neg (by omega)];exact yz 700 hi
   ·simp [cst,keepIn,gf (show (ms1 s n).length<=6 by rw [vh];exact hs)]
  intro J hJ k hk _;simp -implicitDefEqProofs only [cst,vS,Yw,↓zb,push_cast,simprocAttr,tt];refine za (fun g=>?_) fun g=>?_
  ·simp only [Yg] at g;have k':k<F.length:=Za;have hw:=zh k' Za;refine ⟨Zs,?_⟩;refine zg [[6],[0]] [] (c_find s (F.getD k default).table Za) ?_;refine Zf ?_;have hge:=hallF _ (zk k');refine za (fun h=>absurd h (Z8 (YV hge))) fun _=>?_;refine ⟨⟨Za,Za⟩,?_⟩;rw [List.getElem?_set_self hml];simp -implicitDefEqProofs only [if_neg (show¬0>byT s (F.getD k default).table by omega),mput_enc,↓zb,push_cast,simprocAttr,tt];refine ub hJ k rfl k' trivial (Ya (Xa hw) ?_ ?_)
   ·simp only [cst,Yw];exact keep_b rfl (Z4 (depsTo_succ s F k k')) rfl fun i ks hi=>by simp only [ends,ite_true,ite_false,reduceIte,Nat.reduceEqDiff,Nat.reduceLeDiff,Nat.reduceLT,Nat.reduceAdd,reduceCtorEq,num,boo,str,ints,aV,aTab,z8,aS,aT,aC,yj,zQ,aFk,vT,yH,vS];rw [if_neg (by omega),if_neg (by omega),if_neg (by omega),if_neg (by omega),if_neg (by omega),if_neg (by omega)];exact yz 700 hi
   ·simp [cst,keepIn,gf (show (ms1 s n).length<=6 by rw [vh];exact hs)]
  ·simp only [Ye] at g;obtain rfl:k=F.length:=Za;clear hJ;have hwn:=zh h' Za;rw [Yk];refine ub hI n rfl h' trivial ?_;refine (Ya (σ:=⟨[(22,.d (.lit (.int .i64 (n+1:Nat)))),(1,.ptr 1 0),(4,.vs 18 s.length),(20,.d (.sl 6 (zd rT s))),(21,.d (.lit (.int .i64 s.length)))],
    (1,vS s)::(29,.mp (encM (ua s F)))::(18,.var ((x6 700 (ms1 s n)).set n (.mp 29)))::yO 700 (ms1 s n)⟩) (Ze hwn) ?_ ?_).trans ?_
   ·exact keep_b rfl rfl rfl fun i ks hi=>by simp only [ends,ite_true,ite_false,reduceIte,Nat.reduceEqDiff,Nat.reduceLeDiff,Nat.reduceLT,Nat.reduceAdd,reduceCtorEq,num,boo,str,ints,aV,aTab,z8,aS,aT,aC,yj,zQ,aFk,vT,yH];rw [if_neg (by omega),if_neg (by omega),if_neg (by omega)];exact yz 700 hi
   ·simp [keepIn,gf (show (ms1 s n).length<=6 by rw [vh];exact hs)]
   refine (Weak.ren 29 (700+n) Za Za ?_).trans ?_
   ·rw [y4 Za,y4 Za,y4 Za,jV,if_pos Za,show 700+n-700=n from Za,show (ms1 s n)[n]? =some none by simp [ms1,h']]
   have hrn: ∀i,i<(ms1 s n).length->zT 29 (700+n) (700+i)=700+i:=fun i _=>WA;have hset:(x6 700 (ms1 s n)).set n (.mp (700+n))=x6 700 (ms1 s (n+1)):=by
    rw [<-ms1_succ s n h',<-mapsA_set];rfl
   simp only [renT,renO,A.ren,Ob.ren,renL_set,renL_maps hrn,renO_maps (show 29<700 from Za),hF,vS,renL];have e1:zT 29 (700+n) 29=700+n:=by simp [zT]
   have e2:zT 29 (700+n) 1=1:=by simp [zT]
   have e3:zT 29 (700+n) 18=18:=by simp [zT]
   rw [e1,e2,e3,hset];refine Ya XR ?_ ?_
   ·simp only [cst,Yw];refine keep_a rfl (by simp only [ends,ite_true,ite_false,reduceIte,Nat.reduceEqDiff,Nat.reduceLeDiff,Nat.reduceLT,Nat.reduceAdd,reduceCtorEq,num,boo,str,ints,aV,aTab,z8,aS,aT,aC,yj,zQ,aFk,vT,yH];rw [if_neg (by omega)]) fun i ks hi=>?_;rw [<-ms1_succ s n h',List.getElem?_set] at hi;simp only [ends,ite_true,ite_false,reduceIte,Nat.reduceEqDiff,Nat.reduceLeDiff,Nat.reduceLT,Nat.reduceAdd,reduceCtorEq,num,boo,str,ints,aV,aTab,z8,aS,aT,aC,yj,zQ,aFk,vT,yH];rw [if_neg Za];by_cases hin:n=i
    ·subst hin;rw [if_pos rfl,vh,if_pos h',hF] at hi;rw [if_pos rfl];simp only [Option.some.injEq] at hi;rw [hi]
    ·rw [if_neg hin] at hi;rw [if_neg Za,if_neg Za];exact yz 700 hi
   ·refine ⟨.inl X3,.inl X3,.inl X3,gf (by rw [vh];exact hs)⟩
 simp only [Ye] at h;obtain rfl:n=s.length:=Za;clear hI hi hn h I;rw [msA_nil];refine uV mixed ttok 57 [1,4,55,56] Wx [] s.length (fun n=> ∀i,i<n->0<=xw s (yI s i)) (fun n=>[(11,.vec 500 n)])
  (fun n=>(500,.vec 3 1 (zd rI (yI s n)) 0)::(1,vS s)::mobs 18 700 (msA s (yI s n))) (fun i h=>absurd h (Yu _)) ?_ ?_
 ·refine (YU 11 500 3 1 rfl (by simp [lookO,yH])).trans (Ya XR ?_ ?_)
  ·simp only [cst,Yw];refine ⟨⟨rfl,rfl⟩,keep_c rfl rfl fun i ks hi=>?_⟩;simp only [ends,ite_true,ite_false,reduceIte,Nat.reduceEqDiff,Nat.reduceLeDiff,Nat.reduceLT,Nat.reduceAdd,reduceCtorEq,num,boo,str,ints,aV,aTab,z8,aS,aT,aC,yj,zQ,aFk,vT,yH];rw [if_neg Za,if_neg Za,if_neg Za];exact yz 700 hi
  ·simp [cst,keepIn,gf (show (msA s []).length<=6 from X0)]
 intro I hI n hn hi;have hpl:=qv s n;simp -implicitDefEqProofs only [cst,mobs,vS,Yw,YN,Ue,↓zb,push_cast,simprocAttr,tt];refine za (fun h=>?_) fun h=>?_
 ·simp only [Yg] at h;have h':n<s.length:=Za;refine callx_same [[],[]] rM rfl (c_idxM (msA s (yI s n)) X0) rfl Zd (by simp only [yG];rfl) rfl ?_ ?_ ?_ ?_ ?_
  ·refine ⟨⟨?_,um fun i ks hi=>mobs_in hi⟩,hosL_maps fun i ks hi=>?_⟩
   ·simp only [Ob.ren];rw [renL_maps (b':=700) fun i _=>rM_at i];rfl
   ·rw [rM_at,y4 Za,y4 Za,y4 Za];exact yz 700 hi
  ·exact mobs_big X0
  ·exact mobs_nodup X0
  ·exact mobs_nodup0 X0
  rw [pick_msA];refine Zf ?_;have hM6:(msA s (yI s n)).length<=6:=X0;refine za (fun hneg=>?_) fun hneg=>?_
  ·have hneg': ¬0≤xw s (yI s n):=Zq hneg;have hno:qx s=false:=wT h' (YS hneg');have hR:A.tup [ints [],num 7]=R:=by rw [<-hr,qw,uv,hno];rfl
   subst hR;refine zo [[1],[0]] rfl trivial ⟨trivial,trivial,trivial⟩ rfl rfl trivial ?_;exact ⟨.inl rfl,.inl rfl,.inl rfl,gf hM6⟩
  have hge:0<=xw s (yI s n):=Zp hneg;have hlt:xw s (yI s n)<s.length:=by have:=xU (ux s (yI s n)) (List.range s.length);rw [List.length_range] at this;exact this
  have hinv: ∀i,i<n+1->0<=xw s (yI s i):=fun i h2=>if h3:i=n then by rw [h3];exact hge else hi i Za
  have hpk:yI s (n+1)=yI s n++[xw s (yI s n)]:=rfl;refine ⟨⟨hpl.symm,Za⟩,⟨hge,hlt⟩,by rw [wA,yG];omega,?_⟩;have hfin:=msJ_all s (yI s n) (xw s (yI s n)) hge;rw [splice_set _ _ _ (by rw [wA,yG];omega),show A.d (D.lit (Value.map none))=cellM (700+(xw s (yI s n)).toNat) none from rfl,mapsA_set];have hq: ∀(i:Nat) (ks:List Int),((msA s (yI s n)).set (xw s (yI s n)).toNat none)[i]? =some (some ks)->(msA s (yI s n))[i]? =some (some ks):=by
   intro i ks hq;rw [List.getElem?_set] at hq
   split at hq
   ·split at hq<;>cases hq
   ·exact hq
  have hQ6:((msA s (yI s n)).set (xw s (yI s n)).toNat none).length=s.length:=by rw [YF,yG]
  rw [<-hpk] at hfin;generalize hms:msA s (yI s n)=ms at hq hM6;rw [hms] at hQ6 hfin;generalize hQ:ms.set (xw s (yI s n)).toNat none=Q at hq hQ6 hfin;generalize hk:xw s (yI s n)=k at hge hlt;rw [hk] at hpk hfin hQ;refine uV mixed ttok 72 [1,4,11,12,55,56,57,70,71] Wx [] s.length (fun _=>True) (fun _=>[])
   (fun j=>(500,.vec 3 1 (zd rI (yI s (n+1))) 0)::(1,vS s)::mobs 18 700 (msJ k Q j)) trivial ?_ ?_
  ·refine Ya XR ?_ ?_
   ·simp only [cst,Yw];refine ⟨⟨by rw [hpk,<-rowsI_snoc];rfl,rfl⟩,keep_c rfl rfl fun i ks hi=>?_⟩;simp only [ends,ite_true,ite_false,reduceIte,Nat.reduceEqDiff,Nat.reduceLeDiff,Nat.reduceLT,Nat.reduceAdd,reduceCtorEq,num,boo,str,ints,aV,aTab,z8,aS,aT,aC,yj,zQ,aFk,vT,yH]
    repeat rw [if_neg Za]
    exact yz 700 (hq i ks hi)
   ·simp [cst,keepIn,gf hM6]
  intro J hJ j hj _;simp -implicitDefEqProofs only [cst,mobs,vS,Yw,YN,Ue,↓zb,push_cast,simprocAttr,tt];have hw1:=fun (j':j<s.length)=>zh j' Za;refine za (fun g=>?_) fun g=>?_
  ·simp only [Yg] at g;have j':j<s.length:=Za;have hw:=zh j' Za;refine ⟨Zs,?_⟩;have hQj:Q[j]? =some (Q.getD j default):=by rw [Yf,List.getElem?_eq_getElem Za];rfl
   generalize hm:Q.getD j default=m at hQj;have hJs:=msJ_succ k Q j m Za hQj;have hJj:(msJ k Q j)[j]? =some m:=by rw [msJ_get k Q j (by omega)];exact hQj
   have hJl:=msJ_length k Q j;have hJ6:(msJ k Q j).length<=6:=Za;have hset:x6 700 (msJ k Q (j+1))=x6 700 (msJ k Q j):=by
    rw [hJs,<-mapsA_set];apply Uc;intro i;rw [List.getElem?_set,wA]
    split
    ·rename_i he;subst he;rw [if_pos Za,j7,hJj];cases m<;>rfl
    ·rfl
   have hoth: ∀i ks,i≠j->(msJ k Q (j+1))[i]? =some (some ks)->(msJ k Q j)[i]? =some (some ks):=fun i ks hij hi=>by
    rw [hJs,List.getElem?_set,if_neg (fun e=>hij e.symm)] at hi;exact hi
   have hown:(msJ k Q (j+1))[j]? =some (dropK k m):=by rw [hJs,List.getElem?_set,if_pos rfl,if_pos Za]
   rw [j7,hJj];cases m with
   | none=>
     refine WB ?_;refine ub hJ j rfl j' trivial (Ya (by simp [cst,mobs,hw,ends]) ?_ ?_)
     ·simp only [cst,Yw];refine ⟨⟨rfl,rfl⟩,keep_c rfl (Z4 hset) fun i ks hi=>?_⟩;simp only [ends,ite_true,ite_false,reduceIte,Nat.reduceEqDiff,Nat.reduceLeDiff,Nat.reduceLT,Nat.reduceAdd,reduceCtorEq,num,boo,str,ints,aV,aTab,z8,aS,aT,aC,yj,zQ,aFk,vT,yH]
      repeat rw [if_neg Za]
      by_cases hij:i=j
      ·subst hij;rw [hown] at hi;cases hi
      ·exact yz 700 (hoth i ks hij hi)
     ·simp [cst,keepIn,gf hJ6]
   | some ks0=>
     have n500:(500=700+j)=False:=eq_false Za;have n1:(1=700+j)=False:=eq_false Za;have n18:(18=700+j)=False:=eq_false Za;simp -implicitDefEqProofs only [cellM,Ub,yz 700 hJj,n500,n1,n18,mdel_enc,↓zb,push_cast,simprocAttr,tt];refine ub hJ j rfl j' trivial (Ya (by simp [cst,mobs,hw,ends]) ?_ ?_)
     ·simp only [cst,Yw];refine ⟨⟨by rw [y4 (by omega)];rfl,rfl⟩,keep_c (by rw [y4 (by omega)];rfl) (by rw [hset,y4 (by omega)];rfl) fun i ks hi=>?_⟩;by_cases hij:i=j
      ·subst hij;rw [hown] at hi;simp only [dropK,Ub,Option.some.injEq] at hi;subst hi;simp [lookO]
      ·simp only [ends,ite_true,ite_false,reduceIte,Nat.reduceEqDiff,Nat.reduceLeDiff,Nat.reduceLT,Nat.reduceAdd,reduceCtorEq,num,boo,str,ints,aV,aTab,z8,aS,aT,aC,yj,zQ,aFk,vT,yH]
       repeat rw [if_neg Za]
       exact yz 700 (hoth i ks hij hi)
     ·exact ⟨.inl X3,.inl X3,.inl X3,.inl X3,gf hJ6⟩
  ·simp only [Ye] at g;obtain rfl:j=s.length:=Za;rw [hfin];clear hJ J;have hwn:=zh h' Za;refine ub hI n rfl h' hinv (Ya (by simp [cst,mobs,hwn,hpl,ends]) ?_ ?_)
   ·simp only [cst,Yw];refine ⟨⟨rfl,rfl⟩,keep_c rfl rfl fun i ks hi=>?_⟩;simp only [ends,ite_true,ite_false,reduceIte,Nat.reduceEqDiff,Nat.reduceLeDiff,Nat.reduceLT,Nat.reduceAdd,reduceCtorEq,num,boo,str,ints,aV,aTab,z8,aS,aT,aC,yj,zQ,aFk,vT,yH]
    repeat rw [if_neg Za]
    exact yz 700 hi
   ·exact ⟨.inl rfl,.inl rfl,.inl rfl,gf X0⟩
 ·simp only [Ye] at h;obtain rfl:n=s.length:=Za;have hok:qx s=true:=all_range.2 fun i hi2=>YV (hi i hi2);have hR:A.tup [ints (yI s s.length),num 0]=R:=by rw [<-hr,qw,uv,hok];rfl
  subst hR;refine zo [[1],[0]] rfl trivial ⟨(zc rI (yI s s.length)).trans hpl |>.symm,trivial,trivial⟩ rfl rfl trivial ?_;exact ⟨.inl rfl,.inl rfl,.inl rfl,.inl rfl,gf X0⟩
end
section
attribute [local simp, local push_cast] Ta yj zQ aFk vT
def yT (s:Sch) (i:Nat):Int:=
 if !jq (s.getD i default).name then 3 else if uR (byT s (s.getD i default).name)<i then 5 else xA (s.getD i default)
def xr (s:Sch) (t:Tbl):Int:=ferr (refM s t) t.foreigns
def xY (s:Sch):Int:=
 if (s.length:Int)>6 then 8
 else if uy (yT s) s.length≠0 then uy (yT s) s.length
 else if ferr (xr s) s≠0 then ferr (xr s) s else uv s
structure SmallS (s:Sch):Prop where
 len:s.length<=1000
 tab: ∀t∈s,SmallT t
theorem tableM_keys {t:Tbl} (h:xA t=0):xS t=0:=by
 by_cases hk:xS t=0
 ·exact hk
 ·exfalso
  revert h
  simp only [xA]
  repeat' split
  all_goals first | (intro h;omega) | (intro h;exact absurd h (by assumption))
theorem keysM_ok {t:Tbl} (h:xS t=0):xi t.columns.length t.primary=true/\t.primary.any (jf t)=false/\(yE t).all (xi t.columns.length)=true:=by
 unfold xS at h
 split at h
 ·rename_i h1
  split at h
  ·cases h
  ·rename_i h2
   split at h
   ·rename_i h3;exact ⟨h1,Zc h2,h3⟩
   ·cases h
 ·cases h
theorem table_prim {t:Tbl} (h:xA t=0): ∀k∈t.primary,inC t k:=okKey_in (keysM_ok (tableM_keys h)).1
theorem table_fors {t:Tbl} (h:xA t=0): ∀f∈t.foreigns,∀k∈f.columns,inC t k:=fun f hf=>
 okKey_in (Ua.1 (keysM_ok (tableM_keys h)).2.2 f.columns (by simp only [yE,Yr,Yv];exact .inr ⟨f,hf,rfl⟩))
theorem tabErr_table {s:Sch} {i:Nat} (h:yT s i=0):xA (s.getD i default)=0:=by
 unfold yT at h
 split at h
 ·cases h
 ·split at h
  ·cases h
  ·exact h
theorem wR {α:Type} {f:α->Int}: ∀{l:List α},ferr f l=0-> ∀x∈l,f x=0
 | [],_,x,hx=>by simp at hx
 | y::l,h,x,hx=>by
   simp only [ferr] at h
   split at h
   ·rename_i h0;rcases YB.1 hx with rfl | hx
    ·exact h0
    ·exact wR h x hx
   ·rename_i h0;exact absurd h h0
theorem refM_at {s:Sch} {t:Tbl} {f:Fk} (h:refM s t f=0):0<=byT s f.table:=by
 unfold refM at h
 split at h
 ·cases h
 ·omega
theorem uS {α:Type} [Inhabited α] {l:List α} {x:α} (h:x∈l): ∃i,i<l.length/\l.getD i default=x:=by
 obtain ⟨i,hi,rfl⟩:=Uq h;exact ⟨i,hi,by rw [Yf,List.getElem?_eq_getElem hi];rfl⟩
theorem Wz {p:Prop} (h:p:=by rw [hcB];simpa using g3):p:=h
theorem Nz{p:Prop}(h:p:=by
 refine Zf ?_;refine za (fun g3=>?_) fun g3=>?_
 ·have g3':yT s n≠0:=Wz;exact zm trivial (Zo (hE g3') hcB) Zb
 ·have g3':yT s n=0:=Wz;exact zp hI n rfl h' (fun i h2=>if h3:i=n then by rw [h3];exact g3' else hi i Za) (Ze hw) (Ze hw) (Ze hw) (Ze hw)):p:=h
theorem Ga{p:Prop}(h:p:=by
 refine Zf ?_;exact zm trivial (by rw [<-hr,hM2,if_neg (by rw [hz];decide)];rfl) Zb):p:=h
theorem c_svalid (s:Sch) (hs:SmallS s):ACall Tryz.prog 44 [aS s] [] (num (xY s)) []:=by
 refine zn mixed ttok Tryz.func44 Tryz.ntmps44 Tryz.results44 ?_;generalize hr:num (xY s)=R;have hl:=hs.len;refine Zn ?_;refine za (fun h0=>?_) fun h0=>?_
 ·exact zm trivial (by rw [<-hr,xY,if_pos (Yd h0)];rfl) Zb
 have h0': ¬(s.length:Int)>6:=Yc h0;have hM:xY s=if uy (yT s) s.length≠0 then uy (yT s) s.length
  else if ferr (xr s) s≠0 then ferr (xr s) s else uv s:=by rw [xY,if_neg h0']
 refine zq mixed ttok 22 [1,20,21] [1] Zv Zw s.length (fun n=> ∀i,i<n->yT s i=0) (fun _=>[]) (fun _=>[]) (fun i h=>absurd h (Yu _)) ?_ ?_
 ·exact Ya Zh Zh Zh
 intro I hI n hn hi;refine Zx ?_;refine za (fun h=>?_) fun h=>?_
 ·simp only [Yg] at h;have h':n<s.length:=Za;have hw:=zh h' Za;have hE:yT s n≠0->num (yT s n)=R:=fun hne=>by
   exact JE
  have hg:s.getD n default∈s:=zk h';refine ⟨Zs,?_⟩;refine zg [[0]] [] (c_name (s.getD n default).name) ?_;refine Zf ?_;refine za (fun g1=>?_) fun g1=>?_
  ·have hc:yT s n=3:=if_pos g1;exact zm trivial ZX Zb
  refine zg [[6],[0]] [] (c_find s (s.getD n default).name Za) ?_;refine Zf ?_;refine za (fun g2=>?_) fun g2=>?_
  ·have hc:yT s n=5:=by rw [yT,if_neg (by rw [g1];decide)];exact if_pos (Yd g2)
   exact zm trivial ZX Zb
  have hcB:yT s n=xA (s.getD n default):=by rw [yT,if_neg (by rw [g1];decide)];exact if_neg (Yc g2)
  refine zg [[0,3,1,1,2,6]] [] (c_table (s.getD n default) (hs.tab _ hg)) ?_;exact Nz
 simp only [Ye] at h;obtain rfl:n=s.length:=Za;have hM2:xY s=if ferr (xr s) s≠0 then ferr (xr s) s else uv s:=by rw [hM,uG hi,if_neg (by decide)]
 have htab: ∀t∈s,xA t=0:=fun t ht=>by
  obtain ⟨i,h1,h2⟩:=uS ht;rw [<-h2];exact tabErr_table (hi i h1)
 clear hI hM h hi hn I;refine zq mixed ttok 50 [1,48,49] [1] Zv Zw s.length (fun n=> ∀i,i<n->xr s (s.getD i default)=0) (fun _=>[]) (fun _=>[]) (fun i h=>absurd h (Yu _)) ?_ ?_
 ·exact Ya Zh Zh Zh
 intro I hI n hn hi;refine Zx ?_;refine za (fun h=>?_) fun h=>?_
 ·simp only [Yg] at h;have h':n<s.length:=Za;have hw:=zh h' Za;have hg:s.getD n default∈s:=zk h';have hE:xr s (s.getD n default)≠0->num (xr s (s.getD n default))=R:=fun hne=>by
   have:=xV (xr s) s n h' hi hne;rw [<-hr,hM2,this,if_pos hne]
  refine ⟨Zs,?_⟩;generalize hu:s.getD n default=u at hg hE;have hT:=hs.tab u hg;have hTf:=hT.fors;refine zq mixed ttok 57 [1,9,48,49,50,55,56] [1,9] Zv Zw u.foreigns.length (fun k=> ∀i,i<k->refM s u (u.foreigns.getD i default)=0) (fun _=>[]) (fun _=>[]) (fun i h=>absurd h (Yu _)) ?_ ?_
  ·exact Ya Zh Zh Zh
  intro J hJ k hk hki;refine Zx ?_;refine za (fun g=>?_) fun g=>?_
  ·simp only [Yg] at g;have k':k<u.foreigns.length:=Za;have hwk:=zh k' Za;have hfm:u.foreigns.getD k default∈u.foreigns:=zk k';refine ⟨Zs,?_⟩;refine zg [[6],[0,3,1,1,2,6],[1,0]] [] (c_reference s u (u.foreigns.getD k default) hl (hT.forss _ hfm) (table_fors (htab u hg) _ hfm) (fun v hv=>table_prim (htab v hv))) ?_;refine Zf ?_;refine za (fun g3=>?_) fun g3=>?_
   ·have g3':refM s u (u.foreigns.getD k default)≠0:=Zc g3;have hc:xr s u=refM s u (u.foreigns.getD k default):=xV (refM s u) u.foreigns k k' hki g3';exact zm trivial (by rw [<-hE (by rw [hc];exact g3'),hc];rfl) Zb
   ·have g3':refM s u (u.foreigns.getD k default)=0:=Zc g3;exact zp hJ k rfl k' (fun i h2=>if h3:i=k then by rw [h3];exact g3' else hki i Za) (Ze hwk) (Ze hwk) (Ze hwk) (Ze hwk)
  ·simp only [Ye] at g;obtain rfl:k=u.foreigns.length:=Za;have hz:xr s u=0:=yQ (refM s u) u.foreigns hki;exact zp hI n rfl h' (fun i h2=>if h3:i=n then by rw [h3,hu];exact hz else hi i Za) (Ze hw) (Ze hw) (Ze hw) (Ze hw)
 simp only [Ye] at h;obtain rfl:n=s.length:=Za;clear hI;have hz:ferr (xr s) s=0:=yQ (xr s) s hi;have hall: ∀t∈s,∀f∈t.foreigns,0<=byT s f.table:=fun t ht f hf=>refM_at (wR (wR hz t ht) f hf);refine zg [[6]] [] (c_order s Za (fun t ht=>(hs.tab t ht).fors) hall) ?_;exact Ga
end
end Go.Proofs.YtnmibokjpedkiaaGreatDoor
