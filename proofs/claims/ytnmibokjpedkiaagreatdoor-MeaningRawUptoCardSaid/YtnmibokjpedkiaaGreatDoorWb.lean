/- Queries over made schemas answer as specified (part Wb) -/
import Derived.Test.YtnmibokjpedkiaaGreatDoorWa
set_option maxRecDepth 100000
set_option maxHeartbeats 4000000
set_option linter.all false
namespace Go.Proofs.YtnmibokjpedkiaaGreatDoor
open Go.Am
section
def Wq:=And.intro @num.eq_1 <| And.intro @boo.eq_1 <| And.intro @str.eq_1 <| And.intro @ints.eq_1 <| And.intro @aV.eq_1 <| And.intro @aTab.eq_1 <| And.intro @z7.eq_1 <| And.intro @aS.eq_1 <| And.intro @aT.eq_1 <| @aC.eq_1
attribute [local simp, local push_cast] Wq
theorem zv {p:Prop} {k n:Int} {s:ByteArray} {t:UD} {o:UE} {R:A} (hp:p) (hr:aV ⟨k,n,s⟩=R) (ho:keepIn (inO []) o):
 retx (some (p,.agg [.d (.lit (.int .i64 k)),.d (.lit (.int .i64 n)),.d (.lit (.string s))])) ⟨t,o⟩ R []:=by
 subst hr;exact zu [0,0,0] rfl hp Zd rfl rfl trivial ho
theorem tabN:Tab.tab 2=some [.lit (.int .i64 0),.lit (.int .i64 0),.lit (.string ByteArray.empty)]:=rfl
def zl:Val:=⟨0,0,ByteArray.empty⟩
def zY (n:Int):Val:=if n≠0/\n≠1 then zl else ⟨2,n,ByteArray.empty⟩
def ofV (b:Bool):Val:=⟨2,if b then 1 else 0,ByteArray.empty⟩
def zV (v:Val):Int:=if v.kind≠2 then 2 else if v.num=1 then 1 else 0
theorem Zm {p:Prop} (h:p:=by first | trivial | (simp;done) | (simp;omega)):p:=h
theorem ZO {p q:Prop} (h:q) (e:p=q:=by conv=>lhs;simp -implicitDefEqProofs only [argT,tabN,↓zb,push_cast,simprocAttr,tt]):p:=(e).mpr h
theorem Xz {p P0:Prop} (zf_:P0) (h:P0->p:=by intro zf_;rw [<-zf_]<;>first | rfl | (simp [zY,zl];done) | (simp_all [zY,zl];done)):p:=h zf_
theorem uO (n:Int):ACall Tryz.prog 173 [num n] [] (aV (zY n)) []:=by
 refine zn mixed ttok Tryz.func173 Tryz.ntmps173 Tryz.results173 ?_;generalize hr:aV (zY n)=R;refine ZO ?_;refine za (fun h1=>?_) fun h1=>?_
 ·refine za (fun h2=>?_) fun h2=>?_
  ·exact zv Zm (Xz hr) Zb
  ·exact zv Zm (Xz hr) Zb
 ·exact zv Zm (Xz hr) Zb
theorem vz (n:Int):ACall Tryz.prog 93 [num n] [] (aV (zY n)) []:=by
 refine zn mixed ttok Tryz.func93 Tryz.ntmps93 Tryz.results93 ?_;generalize hr:aV (zY n)=R;refine ZO ?_;refine za (fun h1=>?_) fun h1=>?_
 ·refine za (fun h2=>?_) fun h2=>?_
  ·exact zv Zm (Xz hr) Zb
  ·exact zv Zm (Xz hr) Zb
 ·exact zv Zm (Xz hr) Zb
theorem Z7 {p q:Prop} (h:q) (e:p=q:=by conv=>lhs;simp -implicitDefEqProofs only [aV,↓zb,push_cast,simprocAttr,tt]):p:=(e).mpr h
theorem ZG {p P0:Prop} (zf_:P0) (h:P0->p:=by intro zf_;rw [<-zf_]<;>first | rfl | (simp [ofV,zY];done) | (simp_all [ofV,zY];done)):p:=h zf_
theorem c_truth (b:Bool):ACall Tryz.prog 200 [boo b] [] (aV (ofV b)) []:=by
 refine zn mixed ttok Tryz.func200 Tryz.ntmps200 Tryz.results200 ?_;generalize hr:aV (ofV b)=R;refine Zn ?_;refine za (fun h1=>?_) fun h1=>?_
 ·refine zf [[0]] [] (uO 1) ?_;refine Z7 ?_;exact zv Zm (ZG hr) Zb
 ·refine zf [[0]] [] (uO 0) ?_;refine Z7 ?_;exact zv Zm (ZG hr) Zb
theorem c_etruth (b:Bool):ACall Tryz.prog 169 [boo b] [] (aV (ofV b)) []:=by
 refine zn mixed ttok Tryz.func169 Tryz.ntmps169 Tryz.results169 ?_;generalize hr:aV (ofV b)=R;refine Zn ?_;refine za (fun h1=>?_) fun h1=>?_
 ·refine zf [[0]] [] (uO 1) ?_;refine Z7 ?_;exact zv Zm (ZG hr) Zb
 ·refine zf [[0]] [] (uO 0) ?_;refine Z7 ?_;exact zv Zm (ZG hr) Zb
theorem c_of (b:Bool):ACall Tryz.prog 137 [boo b] [] (aV (ofV b)) []:=by
 refine zn mixed ttok Tryz.func137 Tryz.ntmps137 Tryz.results137 ?_;generalize hr:aV (ofV b)=R;refine Zn ?_;refine za (fun h1=>?_) fun h1=>?_
 ·refine zf [[0]] [] (vz 1) ?_;refine Z7 ?_;exact zv Zm (ZG hr) Zb
 ·refine zf [[0]] [] (vz 0) ?_;refine Z7 ?_;exact zv Zm (ZG hr) Zb
theorem jh (v:Val):ACall Tryz.prog 60 [aV v] [] (num (zV v)) []:=by
 refine zn mixed ttok Tryz.func60 Tryz.ntmps60 Tryz.results60 ?_;generalize hr:num (zV v)=R;refine Zn ?_;refine za (fun h1=>?_) fun h1=>?_
 ·exact zk trivial (by rw [<-hr];simp at h1;simp [zV,h1,num]) Zb
 refine za (fun h2=>?_) fun h2=>?_
 ·exact zk trivial (by rw [<-hr];simp at h1 h2;simp [zV,h1,h2,num]) Zb
 ·exact zk trivial (by rw [<-hr];simp at h1 h2;simp [zV,h1,h2,num]) Zb
theorem ue (v:Val):ACall Tryz.prog 72 [aV v] [] (num (zV v)) []:=by
 refine zn mixed ttok Tryz.func72 Tryz.ntmps72 Tryz.results72 ?_;generalize hr:num (zV v)=R;refine Zn ?_;refine za (fun h1=>?_) fun h1=>?_
 ·exact zk trivial (by rw [<-hr];simp at h1;simp [zV,h1,num]) Zb
 refine za (fun h2=>?_) fun h2=>?_
 ·exact zk trivial (by rw [<-hr];simp at h1 h2;simp [zV,h1,h2,num]) Zb
 ·exact zk trivial (by rw [<-hr];simp at h1 h2;simp [zV,h1,h2,num]) Zb
def notM (v:Val):Val:=if zV v=2 then zl else ofV (zV v==0)
theorem Zr {p P0:Prop} (zf_:P0) (h:P0->p:=by intro zf_;rw [<-zf_]<;>first | rfl | (simp [zl];done) | (simp_all [zl];done)):p:=h zf_
theorem ZZ {p q:Prop} (h:q) (e:p=q:=by conv=>lhs;simp -implicitDefEqProofs only [tabN,↓zb,push_cast,simprocAttr,tt]):p:=(e).mpr h
theorem c_not (v:Val):ACall Tryz.prog 167 [aV v] [] (aV (notM v)) []:=by
 refine zn mixed ttok Tryz.func167 Tryz.ntmps167 Tryz.results167 ?_;generalize hr:aV (notM v)=R;refine ZO ?_;refine zf [[0,0,0]] [] (jh v) ?_;have ht:zV v=0\/zV v=1\/zV v=2:=by unfold zV;split<;>(try split)<;>simp
 refine ZZ ?_;unfold notM at hr;generalize zV v=x at ht hr;refine za (fun h1=>?_) fun h1=>?_
 ·have hw:IntKind.i64.wrap (1-x)=1-x:=zr Za Za;simp only [hw];refine zf [[0]] [] (uO (1-x)) ?_;refine Z7 ?_;rcases ht with rfl | rfl | rfl
  ·exact zv Zm (ZG hr) Zb
  ·exact zv Zm (ZG hr) Zb
  ·simp at h1
 ·have hx:x=2:=Zc h1;subst hx;exact zv Zm (Zr hr) Zb
theorem c_rnot (v:Val):ACall Tryz.prog 135 [aV v] [] (aV (notM v)) []:=by
 refine zn mixed ttok Tryz.func135 Tryz.ntmps135 Tryz.results135 ?_;generalize hr:aV (notM v)=R;refine ZO ?_;refine zf [[0,0,0]] [] (ue v) ?_;have ht:zV v=0\/zV v=1\/zV v=2:=by unfold zV;split<;>(try split)<;>simp
 refine Zg ?_;unfold notM at hr;generalize zV v=x at ht hr;refine za (fun h1=>?_) fun h1=>?_
 ·refine zf [[0]] [] (vz 1) ?_;have hx:x=0:=Zc h1;subst hx;refine Z7 ?_;exact zv Zm (ZG hr) Zb
 refine za (fun h2=>?_) fun h2=>?_
 ·refine zf [[0]] [] (vz 0) ?_;have hx:x=1:=Zc h2;subst hx;refine Z7 ?_;exact zv Zm (ZG hr) Zb
 ·have hx:x=2:=by simp at h1 h2;omega
  subst hx;exact zv Zm (Zr hr) Zb
def andM (a b:Val):Val:=if zV a=0\/zV b=0 then ofV false else if zV a=2\/zV b=2 then zl else ofV true
def orM (a b:Val):Val:=if zV a=1\/zV b=1 then ofV true else if zV a=2\/zV b=2 then zl else ofV false
theorem c_and (a b:Val):ACall Tryz.prog 171 [aV a,aV b] [] (aV (andM a b)) []:=by
 refine zn mixed ttok Tryz.func171 Tryz.ntmps171 Tryz.results171 ?_;generalize hr:aV (andM a b)=R;refine ZO ?_;refine zf [[0,0,0]] [] (jh a) ?_;refine ZZ ?_;refine zf [[0,0,0]] [] (jh b) ?_;refine ZZ ?_;refine ⟨ze Zf,?_⟩;unfold andM at hr;generalize zV a=x at hr;generalize zV b=y at hr;refine za (fun h1=>?_) fun h1=>?_
 ·refine zf [[0]] [] (uO 0) ?_;refine Z7 ?_;exact zv Zm (ZG hr) Zb
 refine za (fun h2=>?_) fun h2=>?_
 ·refine zf [[0]] [] (uO 0) ?_;refine Z7 ?_;exact zv Zm (ZG hr) Zb
 refine za (fun h3=>?_) fun h3=>?_
 ·exact zv Zm (Zr hr) Zb
 refine za (fun h4=>?_) fun h4=>?_
 ·exact zv Zm (Zr hr) Zb
 ·refine zf [[0]] [] (uO 1) ?_;refine Z7 ?_;exact zv Zm (ZG hr) Zb
theorem c_or2 (a b:Val):ACall Tryz.prog 172 [aV a,aV b] [] (aV (orM a b)) []:=by
 refine zn mixed ttok Tryz.func172 Tryz.ntmps172 Tryz.results172 ?_;generalize hr:aV (orM a b)=R;refine ZO ?_;refine zf [[0,0,0]] [] (jh a) ?_;refine ZZ ?_;refine zf [[0,0,0]] [] (jh b) ?_;refine ZZ ?_;refine ⟨ze Zf,?_⟩;unfold orM at hr;generalize zV a=x at hr;generalize zV b=y at hr;refine za (fun h1=>?_) fun h1=>?_
 ·refine zf [[0]] [] (uO 1) ?_;refine Z7 ?_;exact zv Zm (ZG hr) Zb
 refine za (fun h2=>?_) fun h2=>?_
 ·refine zf [[0]] [] (uO 1) ?_;refine Z7 ?_;exact zv Zm (ZG hr) Zb
 refine za (fun h3=>?_) fun h3=>?_
 ·exact zv Zm (Zr hr) Zb
 refine za (fun h4=>?_) fun h4=>?_
 ·exact zv Zm (Zr hr) Zb
 ·refine zf [[0]] [] (uO 0) ?_;refine Z7 ?_;exact zv Zm (ZG hr) Zb
theorem c_rand (a b:Val):ACall Tryz.prog 138 [aV a,aV b] [] (aV (andM a b)) []:=by
 refine zn mixed ttok Tryz.func138 Tryz.ntmps138 Tryz.results138 ?_;generalize hr:aV (andM a b)=R;refine ZO ?_;refine zf [[0,0,0]] [] (ue a) ?_;refine Zg ?_;refine zf [[0,0,0]] [] (ue b) ?_;refine Zg ?_;refine ⟨ze Zf,?_⟩;unfold andM at hr;generalize zV a=x at hr;generalize zV b=y at hr;refine za (fun h1=>?_) fun h1=>?_
 ·refine zf [[0]] [] (vz 0) ?_;refine Z7 ?_;exact zv Zm (ZG hr) Zb
 refine za (fun h2=>?_) fun h2=>?_
 ·refine zf [[0]] [] (vz 0) ?_;refine Z7 ?_;exact zv Zm (ZG hr) Zb
 refine za (fun h3=>?_) fun h3=>?_
 ·exact zv Zm (Zr hr) Zb
 refine za (fun h4=>?_) fun h4=>?_
 ·exact zv Zm (Zr hr) Zb
 ·refine zf [[0]] [] (vz 1) ?_;refine Z7 ?_;exact zv Zm (ZG hr) Zb
theorem c_ror (a b:Val):ACall Tryz.prog 139 [aV a,aV b] [] (aV (orM a b)) []:=by
 refine zn mixed ttok Tryz.func139 Tryz.ntmps139 Tryz.results139 ?_;generalize hr:aV (orM a b)=R;refine ZO ?_;refine zf [[0,0,0]] [] (ue a) ?_;refine Zg ?_;refine zf [[0,0,0]] [] (ue b) ?_;refine Zg ?_;refine ⟨ze Zf,?_⟩;unfold orM at hr;generalize zV a=x at hr;generalize zV b=y at hr;refine za (fun h1=>?_) fun h1=>?_
 ·refine zf [[0]] [] (vz 1) ?_;refine Z7 ?_;exact zv Zm (ZG hr) Zb
 refine za (fun h2=>?_) fun h2=>?_
 ·refine zf [[0]] [] (vz 1) ?_;refine Z7 ?_;exact zv Zm (ZG hr) Zb
 refine za (fun h3=>?_) fun h3=>?_
 ·exact zv Zm (Zr hr) Zb
 refine za (fun h4=>?_) fun h4=>?_
 ·exact zv Zm (Zr hr) Zb
 ·refine zf [[0]] [] (vz 0) ?_;refine Z7 ?_;exact zv Zm (ZG hr) Zb
def cmpI (x y:Int):Int:=if x<y then -1 else if x>y then 1 else 0
def cmpS (x y:ByteArray):Int:=if Op.bytesLess x.toList y.toList then -1 else if x.toList=y.toList then 0 else 1
def cmpM (a b:Val):Int:=if cmpI a.kind b.kind≠0 then cmpI a.kind b.kind else if cmpI a.num b.num≠0 then cmpI a.num b.num else cmpS a.text b.text
theorem c_isNaN (x:Int):ACall Tryz.prog 222 [num x] [] (boo false) []:=by
 refine zn mixed ttok Tryz.func222 Tryz.ntmps222 Tryz.results222 ?_;generalize hr:boo false=R;refine Zn ?_;exact zk trivial (ZF hr) Zb
theorem c_isNaN64 (x:Int):ACall Tryz.prog 223 [num x] [] (boo false) []:=by
 refine zn mixed ttok Tryz.func223 Tryz.ntmps223 Tryz.results223 ?_;generalize hr:boo false=R;refine Zn ?_;exact zk trivial (ZF hr) Zb
theorem c_isNaNs (x:ByteArray):ACall Tryz.prog 224 [str x] [] (boo false) []:=by
 refine zn mixed ttok Tryz.func224 Tryz.ntmps224 Tryz.results224 ?_;generalize hr:boo false=R;refine Zn ?_;exact zk trivial (by rw [<-hr];simp [boo]) Zb
theorem c_cmpI (x y:Int):ACall Tryz.prog 204 [num x,num y] [] (num (cmpI x y)) []:=by
 refine zn mixed ttok Tryz.func204 Tryz.ntmps204 Tryz.results204 ?_;generalize hr:num (cmpI x y)=R;refine Zn ?_;refine zf [[0]] [] (c_isNaN x) ?_;refine Zg ?_;refine zf [[0]] [] (c_isNaN y) ?_;refine Zg ?_;unfold cmpI at hr;refine za (fun h1=>?_) fun h1=>?_
 ·exact zk trivial (by rw [<-hr];simp_all [num]) Zb
 refine za (fun h2=>?_) fun h2=>?_
 ·exact zk trivial (by rw [<-hr];simp at h1 h2;rw [if_neg Za,if_pos Za];rfl) Zb
 ·exact zk trivial (by rw [<-hr];simp at h1 h2;rw [if_neg Za,if_neg Za];rfl) Zb
theorem c_cmpI64 (x y:Int):ACall Tryz.prog 205 [num x,num y] [] (num (cmpI x y)) []:=by
 refine zn mixed ttok Tryz.func205 Tryz.ntmps205 Tryz.results205 ?_;generalize hr:num (cmpI x y)=R;refine Zn ?_;refine zf [[0]] [] (c_isNaN64 x) ?_;refine Zg ?_;refine zf [[0]] [] (c_isNaN64 y) ?_;refine Zg ?_;unfold cmpI at hr;refine za (fun h1=>?_) fun h1=>?_
 ·exact zk trivial (by rw [<-hr];simp_all [num]) Zb
 refine za (fun h2=>?_) fun h2=>?_
 ·exact zk trivial (by rw [<-hr];simp at h1 h2;rw [if_neg Za,if_pos Za];rfl) Zb
 ·exact zk trivial (by rw [<-hr];simp at h1 h2;rw [if_neg Za,if_neg Za];rfl) Zb
theorem c_cmpS (x y:ByteArray):ACall Tryz.prog 206 [str x,str y] [] (num (cmpS x y)) []:=by
 refine zn mixed ttok Tryz.func206 Tryz.ntmps206 Tryz.results206 ?_;generalize hr:num (cmpS x y)=R;refine Zn ?_;refine zf [[0]] [] (c_isNaNs x) ?_;refine Zg ?_;refine zf [[0]] [] (c_isNaNs y) ?_;refine Zg ?_;unfold cmpS at hr;refine za (fun h1=>?_) fun h1=>?_
 ·exact zk trivial (by rw [<-hr];simp_all [num]) Zb
 refine za (fun h2=>?_) fun h2=>?_
 ·exact zk trivial (by rw [<-hr];rw [h1];simp [h1] at h2;simp [h2,num]) Zb
 ·exact zk trivial (by rw [<-hr];rw [h1];simp [h1] at h2;simp [h2,num]) Zb
def qB:List Int->Int
 | []=>0
 | x::l=>if x≠0 then x else qB l
theorem c_cor (l:List Int) (hl:l.length<=1000):ACall Tryz.prog 203 [ints l] [] (num (qB l)) []:=by
 refine zn mixed ttok Tryz.func203 Tryz.ntmps203 Tryz.results203 ?_;generalize hr:num (qB l)=R;refine Zn ?_;refine zp mixed ttok 8 [3,6,7] [] Zv Zw l.length (fun n=>qB (l.drop n)=qB l) (fun _=>[]) (fun _=>[]) rfl ?_ ?_
 ·exact Ya Zh Zh Zh
 intro I hI n hn hi;refine Zy ?_;refine za (fun h=>?_) fun h=>?_
 ·simp only [Yf] at h;have h':n<l.length:=Za;have hw:=zh h' Za;rw [zx _ n h',qB] at hi;refine ⟨Zt,?_⟩;refine za (fun h2=>?_) fun h2=>?_
  ·exact zk trivial (by rw [<-hr,<-hi,if_pos (Zc h2)];rfl) Zb
  ·rw [if_neg (Zc h2)] at hi;exact zo hI n rfl h' hi (Ze hw) (Ze hw) (Ze hw) (Ze hw)
 ·have hn':n=l.length:=by simp at h;omega
  subst hn';rw [Ua] at hi;exact zk trivial (by rw [<-hr,<-hi];rfl) Zb
theorem c_compare (a b:Val):ACall Tryz.prog 178 [aV a,aV b] [] (num (cmpM a b)) []:=by
 refine zn mixed ttok Tryz.func178 Tryz.ntmps178 Tryz.results178 ?_;generalize hr:num (cmpM a b)=R;refine Zn ?_;refine zf [[0],[0]] [] (c_cmpI a.kind b.kind) ?_;refine Zg ?_;refine zf [[0],[0]] [] (c_cmpI64 a.num b.num) ?_;refine Zg ?_;refine zf [[0],[0]] [] (c_cmpS a.text b.text) ?_;refine Zg ?_;refine zf [[1]] [] (c_cor [cmpI a.kind b.kind,cmpI a.num b.num,cmpS a.text b.text] Zd) ?_;refine Zg ?_;refine ⟨ze Zf,?_⟩;have he:qB [cmpI a.kind b.kind,cmpI a.num b.num,cmpS a.text b.text]=cmpM a b:=by
  simp only [qB,cmpM]
  repeat' split
  all_goals simp_all
 rw [he];exact zk trivial (ZF hr) Zb
theorem bl_eq: ∀(x y:List UInt8),Op.bytesLess x y=decide (x<y)
 | [],[]=>by simp [Op.bytesLess]
 | _::_,[]=>by simp [Op.bytesLess]
 | [],_::_=>by simp [Op.bytesLess]
 | a::x,b::y=>by
   rw [Op.bytesLess,bl_eq x y];simp only [List.cons_lt_cons_iff];by_cases h1:a<b<;>by_cases h2:a=b<;>by_cases h3:x<y<;>simp [h1,h2,h3]
def xY (a b:Val):Bool:=(a.kind==b.kind&&a.num==b.num)&&(a.text.toList==b.text.toList)
theorem vO (x y:Int):cmpI x y=0 ↔ x=y:=by unfold cmpI;split<;>(try split)<;>omega
theorem cmpS_zero (x y:ByteArray):cmpS x y=0 ↔ x.toList=y.toList:=by
 unfold cmpS
 split
 ·rename_i h;refine ⟨fun h=>absurd h Zi,fun e=>?_⟩;rw [e] at h;exact absurd h (by rw [bl_eq,Yf];exact List.lt_irrefl _)
 ·split
  ·rename_i h;simp [h]
  ·rename_i h;simp [h]
theorem cmpM_zero (a b:Val):(cmpM a b==0)=xY a b:=by
 unfold cmpM xY;rw [Ud];simp only [beq_iff_eq,Ys];by_cases h1:cmpI a.kind b.kind=0
 ·rw [if_neg (Zc h1)];have h1':=(vO _ _).1 h1;by_cases h2:cmpI a.num b.num=0
  ·rw [if_neg (Zc h2),cmpS_zero];simp [h1',(vO _ _).1 h2]
  ·rw [if_pos h2];simp [h1',h2,mt (vO _ _).2 h2]
 ·rw [if_pos h1];simp [h1,mt (vO _ _).2 h1]
theorem XR {p P0:Prop} (zf_:P0) (h:P0->p:=by intro zf_;rw [<-zf_,if_pos (by rw [if_neg (by omega),if_pos (by omega)];decide),if_neg (by omega),if_pos (by omega)];rfl):p:=h zf_
theorem c_rcompare (a b:Val):ACall Tryz.prog 53 [aV a,aV b] [] (num (cmpM a b)) []:=by
 refine zn mixed ttok Tryz.func53 Tryz.ntmps53 Tryz.results53 ?_;generalize hr:num (cmpM a b)=R;refine Zn ?_;unfold cmpM cmpI cmpS at hr;refine za (fun h1=>?_) fun h1=>?_
 ·simp at h1;exact zk trivial (by rw [<-hr,if_pos (Z0 (if_pos h1)),if_pos h1];rfl) Zb
 refine za (fun h2=>?_) fun h2=>?_
 ·simp at h1 h2;exact zk trivial (XR hr) Zb
 simp at h1 h2;rw [if_neg (by rw [if_neg (by omega),if_neg (by omega)];decide)] at hr;refine za (fun h3=>?_) fun h3=>?_
 ·simp at h3;exact zk trivial (by rw [<-hr,if_pos (Z0 (if_pos h3)),if_pos h3];rfl) Zb
 refine za (fun h4=>?_) fun h4=>?_
 ·simp at h3 h4;exact zk trivial (XR hr) Zb
 simp at h3 h4;rw [if_neg (by rw [if_neg (by omega),if_neg (by omega)];decide)] at hr;refine za (fun h5=>?_) fun h5=>?_
 ·exact zk trivial (Zq hr (if_pos h5)) Zb
 rw [h5] at hr ⊢;refine za (fun h6=>?_) fun h6=>?_
 ·simp at h6;exact zk trivial (by rw [<-hr];simp [h6,num]) Zb
 ·simp at h6;exact zk trivial (by rw [<-hr];simp [h6,num]) Zb
theorem c_same (a b:Val):ACall Tryz.prog 170 [aV a,aV b] [] (boo (xY a b)) []:=by
 refine zn mixed ttok Tryz.func170 Tryz.ntmps170 Tryz.results170 ?_;generalize hr:boo (xY a b)=R;refine Zn ?_;exact zk trivial (by rw [<-hr];simp [xY,boo,Bool.and_assoc]) Zb
theorem c_rsame (a b:Val):ACall Tryz.prog 27 [aV a,aV b] [] (boo (xY a b)) []:=by
 refine zn mixed ttok Tryz.func27 Tryz.ntmps27 Tryz.results27 ?_;generalize hr:boo (xY a b)=R;refine Zn ?_;refine zf [[0,0,0],[0,0,0]] [] (c_rcompare a b) ?_;refine Zg ?_;exact zk trivial (by rw [<-hr,<-cmpM_zero];rfl) Zb
def yV (a b:Val):Val:=if a.kind=0\/b.kind=0 then zl else ofV (xY a b)
def vI (a b:Val):Val:=if a.kind=0\/b.kind=0 then zl else ofV (decide (cmpM a b<0))
theorem c_equal (a b:Val):ACall Tryz.prog 166 [aV a,aV b] [] (aV (yV a b)) []:=by
 refine zn mixed ttok Tryz.func166 Tryz.ntmps166 Tryz.results166 ?_;generalize hr:aV (yV a b)=R;refine ZO ?_;unfold yV at hr;refine za (fun h1=>?_) fun h1=>?_
 ·exact zv Zm (Zr hr) Zb
 refine za (fun h2=>?_) fun h2=>?_
 ·exact zv Zm (Zr hr) Zb
 refine zf [[0,0,0],[0,0,0]] [] (c_same a b) ?_;refine Zg ?_;refine zf [[0]] [] (c_truth (xY a b)) ?_;refine Z7 ?_;simp at h1 h2;exact zv Zm (by rw [<-hr]<;>first | rfl | (simp [h1,h2];done) | (simp_all [h1,h2];done)) Zb
theorem c_requal (a b:Val):ACall Tryz.prog 134 [aV a,aV b] [] (aV (yV a b)) []:=by
 refine zn mixed ttok Tryz.func134 Tryz.ntmps134 Tryz.results134 ?_;generalize hr:aV (yV a b)=R;refine ZO ?_;unfold yV at hr;refine za (fun h1=>?_) fun h1=>?_
 ·exact zv Zm (Zr hr) Zb
 refine za (fun h2=>?_) fun h2=>?_
 ·exact zv Zm (Zr hr) Zb
 refine zf [[0,0,0],[0,0,0]] [] (c_rsame a b) ?_;refine Zg ?_;refine zf [[0]] [] (c_of (xY a b)) ?_;refine Z7 ?_;simp at h1 h2;exact zv Zm (by rw [<-hr]<;>first | rfl | (simp [h1,h2];done) | (simp_all [h1,h2];done)) Zb
theorem c_less (a b:Val):ACall Tryz.prog 168 [aV a,aV b] [] (aV (vI a b)) []:=by
 refine zn mixed ttok Tryz.func168 Tryz.ntmps168 Tryz.results168 ?_;generalize hr:aV (vI a b)=R;refine ZO ?_;unfold vI at hr;refine za (fun h1=>?_) fun h1=>?_
 ·exact zv Zm (Zr hr) Zb
 refine za (fun h2=>?_) fun h2=>?_
 ·exact zv Zm (Zr hr) Zb
 refine zf [[0,0,0],[0,0,0]] [] (c_compare a b) ?_;refine Zg ?_;refine zf [[0]] [] (c_truth (decide (cmpM a b<0))) ?_;refine Z7 ?_;simp at h1 h2;exact zv Zm (by rw [<-hr]<;>first | rfl | (simp [h1,h2];done) | (simp_all [h1,h2];done)) Zb
theorem c_rless (a b:Val):ACall Tryz.prog 136 [aV a,aV b] [] (aV (vI a b)) []:=by
 refine zn mixed ttok Tryz.func136 Tryz.ntmps136 Tryz.results136 ?_;generalize hr:aV (vI a b)=R;refine ZO ?_;unfold vI at hr;refine za (fun h1=>?_) fun h1=>?_
 ·exact zv Zm (Zr hr) Zb
 refine za (fun h2=>?_) fun h2=>?_
 ·exact zv Zm (Zr hr) Zb
 refine zf [[0,0,0],[0,0,0]] [] (c_rcompare a b) ?_;refine Zg ?_;refine zf [[0]] [] (c_of (decide (cmpM a b<0))) ?_;refine Z7 ?_;simp at h1 h2;exact zv Zm (by rw [<-hr]<;>first | rfl | (simp [h1,h2];done) | (simp_all [h1,h2];done)) Zb
theorem cmpI_neg (x y:Int):cmpI x y<0 ↔ x<y:=by unfold cmpI;split<;>(try split)<;>omega
theorem cmpS_neg (x y:ByteArray):cmpS x y<0 ↔ x.toList<y.toList:=by
 unfold cmpS;rw [bl_eq]
 split
 ·rename_i h;simpa using h
 ·rename_i h;simp only [Yf] at h
  split<;>simp [h]
theorem toList_inj {x y:ByteArray} (h:x.toList=y.toList):x=y:=by
 cases x;cases y;simpa [YM] using h
theorem cmpM_neg (a b:Val):cmpM a b<0 ↔ a.kind<b.kind\/a.kind=b.kind/\(a.num<b.num\/a.num=b.num/\a.text.toList<b.text.toList):=by
 unfold cmpM;by_cases h1:cmpI a.kind b.kind=0
 ·rw [if_neg (Zc h1)];have h1':=(vO _ _).1 h1;by_cases h2:cmpI a.num b.num=0
  ·rw [if_neg (Zc h2),cmpS_neg];simp [h1',(vO _ _).1 h2]
  ·rw [if_pos h2,cmpI_neg];have:=mt (vO _ _).2 h2;simp [h1',this]
 ·rw [if_pos h1,cmpI_neg];have:=mt (vO _ _).2 h1;simp [this]
theorem val_ext {a b:Val} (h1:a.kind=b.kind) (h2:a.num=b.num) (h3:a.text.toList=b.text.toList):a=b:=by
 cases a;cases b;simp only at h1 h2 h3;rw [h1,h2,toList_inj h3]
theorem wH (a b:Val):cmpM a b=0 ↔ a=b:=by
 have:=cmpM_zero a b;refine ⟨fun h=>?_,fun h=>?_⟩
 ·rw [h] at this;simp only [xY,beq_self_eq_true] at this;have h2:=this.symm;simp only [Ys,beq_iff_eq] at h2;exact val_ext h2.1.1 h2.1.2 h2.2
 ·subst h;rw [show xY a a=true by simp [xY]] at this;simpa using this
theorem qK (a:Val): ¬cmpM a a<0:=Z0 ((wH a a).2 rfl)
theorem jH {a b c:Val} (h1:cmpM a b<0) (h2:cmpM b c<0):cmpM a c<0:=by
 rw [cmpM_neg] at *;rcases h1 with h1 | ⟨h1,h1'⟩<;>rcases h2 with h2 | ⟨h2,h2'⟩
 ·left;omega
 ·left;omega
 ·left;omega
 ·right
  refine ⟨Za,?_⟩;rcases h1' with h1' | ⟨h1',h3⟩<;>rcases h2' with h2' | ⟨h2',h4⟩
  ·left;omega
  ·left;omega
  ·left;omega
  ·exact .inr ⟨Za,List.lt_trans h3 h4⟩
theorem cmpM_tri (a b:Val) (h1: ¬cmpM a b<0) (h2: ¬cmpM b a<0):a=b:=by
 rw [cmpM_neg] at *;simp only [not_or,not_and,Int.not_lt] at h1 h2;have hk:a.kind=b.kind:=Za;have h1':=h1.2 hk;have h2':=h2.2 hk.symm;have hn:a.num=b.num:=Za;have h1'':=h1'.2 hn;have h2'':=h2'.2 hn.symm;exact val_ext hk hn (List.le_antisymm (List.not_lt.1 h2'') (List.not_lt.1 h1''))
theorem cmpM_le (a b:Val):cmpM a b<=0 ↔ ¬cmpM b a<0:=by
 refine ⟨fun h h2=>?_,fun h=>?_⟩
 ·rcases Int.lt_or_eq_of_le h with h | h
  ·exact qK _ (jH h h2)
  ·rw [wH] at h;subst h;exact qK _ h2
 ·by_cases h3:cmpM a b<0
  ·omega
  ·rw [(wH a b).2 (cmpM_tri a b h3 h)];decide
def okN (a:Int):Prop:= -1000000000000<=a/\a<=1000000000000
def absI (a:Int):Int:=if a<0 then -a else a
def numM (op a b:Int):Int×Bool:=
 if op=6 then (a+b,true) else if op=7 then (a-b,true)
 else if op=8 then (if a≠0/\b≠0/\absI a>(1000000000000:Int).tdiv (absI b) then (0,false) else (a * b,true))
 else if op=9 then (if b≠0 then (a.tdiv b,true) else (0,false))
 else if op=10 then (if b≠0 then (a.tmod b,true) else (0,false)) else (0,false)
theorem absI_pos {a:Int} (h:a≠0):0<absI a:=by unfold absI;split<;>omega
theorem abs_max {a:Int} (h:okN a):(if -a>a then -a else a)=absI a:=by unfold okN at h;unfold absI;split<;>split<;>omega
theorem tdiv_le {a b:Int} (ha:0<=a) (hb:0<b):0<=a.tdiv b/\a.tdiv b<=a:=by
 rw [Int.tdiv_eq_ediv_of_nonneg ha];exact ⟨Int.ediv_nonneg ha (Int.le_of_lt hb),Int.ediv_le_self _ ha⟩
theorem mul_ok {a b:Int} (ha:okN a) (hb:okN b) (h: ¬(a≠0/\b≠0/\absI a>(1000000000000:Int).tdiv (absI b))):okN (a * b):=by
 by_cases h1:a=0
 ·subst h1;simp [okN]
 by_cases h2:b=0
 ·subst h2;simp [okN]
 have h3:absI a<=(1000000000000:Int).tdiv (absI b):=by
  have: ¬absI a>(1000000000000:Int).tdiv (absI b):=fun h4=>h ⟨h1,h2,h4⟩;omega
 have hp:=absI_pos h2;rw [Int.tdiv_eq_ediv_of_nonneg Zi,Int.le_ediv_iff_mul_le hp] at h3;have e:a * b=absI a * absI b\/a * b= -(absI a * absI b):=by
  unfold absI
  split<;>split
  ·left;simp [Int.neg_mul,Int.mul_neg]
  ·right;simp [Int.neg_mul]
  ·right;simp [Int.mul_neg]
  ·left;rfl
 have hq:0<=absI a * absI b:=Int.mul_nonneg (Int.le_of_lt (absI_pos h1)) (Int.le_of_lt hp);unfold okN;omega
theorem tdiv_ok {a b:Int} (ha:okN a) (hb:b≠0):okN (a.tdiv b):=by
 have h:=Int.natAbs_tdiv_le_natAbs a b;unfold okN at *;omega
theorem tmod_ok {a b:Int} (ha:okN a) (hb:b≠0):okN (a.tmod b):=by
 have h:(a.tmod b).natAbs<=a.natAbs:=by
  rw [Int.natAbs_tmod];exact Nat.mod_le _ _
 unfold okN at *;omega
theorem jq {a:Int} (h: -9000000000000<=a/\a<=9000000000000):IntKind.i64.wrap a=a:=zr Za Za
theorem c_numbers (op a b:Int) (ha:okN a) (hb:okN b):ACall Tryz.prog 199 [num op,num a,num b] [] (.tup [num (numM op a b).1,boo (numM op a b).2]) []:=by
 refine zn mixed ttok Tryz.func199 Tryz.ntmps199 Tryz.results199 ?_;generalize hr:A.tup [num (numM op a b).1,boo (numM op a b).2]=R;have ha':=ha;have hb':=hb;unfold okN at ha' hb';have w1:=jq (a:=a+b) Za;have w2:=jq (a:=a-b) Za;have w3:=jq (a:= -a) Za;have w4:=jq (a:= -b) Za;have e3:(0:Int)-a= -a:=Za;have e4:(0:Int)-b= -b:=Za;unfold numM at hr;simp -implicitDefEqProofs only [argT,w1,w2,w3,w4,e3,e4,abs_max ha,abs_max hb,↓zb,push_cast,simprocAttr,tt];refine za (fun h6=>?_) fun h6=>?_
 ·exact zK trivial (by rw [<-hr,if_pos (Zc h6)];rfl) Zb
 rw [if_neg (Zc h6)] at hr;refine za (fun h7=>?_) fun h7=>?_
 ·exact zK trivial (by rw [<-hr,if_pos (Zc h7)];rfl) Zb
 rw [if_neg (Zc h7)] at hr;refine za (fun h8=>?_) fun h8=>?_
 ·rw [if_pos (Zc h8)] at hr;by_cases hz:a≠0/\b≠0
  ·have hp:=absI_pos hz.2;have hd:=tdiv_le (a:=1000000000000) Zi hp;have w5:=jq (a:=(1000000000000:Int).tdiv (absI b)) Za;refine za (fun h1=>?_) fun h1=>?_
   ·refine za (fun h2=>?_) fun h2=>?_
    ·refine ⟨Za,?_⟩;simp only [w5];refine za (fun h3=>?_) fun h3=>?_
     ·simp only [decide_eq_true_eq] at h3
      exact zK trivial (by rw [<-hr,if_pos ⟨hz.1,hz.2,h3⟩];rfl) (by simp [ends])
     ·simp only [Ye] at h3;have hn: ¬(a≠0/\b≠0/\absI a>(1000000000000:Int).tdiv (absI b)):=fun h=>h3 h.2.2;have hm:=mul_ok ha hb hn;unfold okN at hm;have w6:=jq (a:=a * b) Za;simp only [w6];exact zK trivial (Zq hr (if_neg hn)) Zb
    ·simp at h2;omega
   ·simp at h1;omega
  ·have hn: ¬(a≠0∧b≠0∧absI a>(1000000000000:Int).tdiv (absI b)):=fun h=>hz ⟨h.1,h.2.1⟩;have hm:=mul_ok ha hb hn;unfold okN at hm;have w6:=jq (a:=a * b) Za;rw [if_neg hn] at hr;refine za (fun h1=>?_) fun h1=>?_
   ·refine za (fun h2=>?_) fun h2=>?_
    ·simp at h1 h2;omega
    ·simp only [w6];exact zK trivial (ZF hr) Zb
   ·simp only [w6];exact zK trivial (ZF hr) Zb
 rw [if_neg (Zc h8)] at hr;refine za (fun h9=>?_) fun h9=>?_
 ·rw [if_pos (Zc h9)] at hr;refine za (fun h1=>?_) fun h1=>?_
  ·have h1':b≠0:=Zc h1;have hm:=tdiv_ok ha h1';unfold okN at hm;have w6:=jq (a:=a.tdiv b) Za;simp only [w6];exact ⟨h1',zK trivial (Zq hr (if_pos h1')) Zb⟩
  ·have h1': ¬b≠0:=Zc h1;exact zK trivial (Zq hr (if_neg h1')) Zb
 rw [if_neg (Zc h9)] at hr;refine za (fun h10=>?_) fun h10=>?_
 ·rw [if_pos (Zc h10)] at hr;refine za (fun h1=>?_) fun h1=>?_
  ·have h1':b≠0:=Zc h1;exact ⟨h1',zK trivial (Zq hr (if_pos h1')) Zb⟩
  ·have h1': ¬b≠0:=Zc h1;exact zK trivial (Zq hr (if_neg h1')) Zb
 rw [if_neg (Zc h10)] at hr;exact zK trivial (ZF hr) Zb
theorem c_ne (x t:Int):ACall Tryz.prog 236 [num x,.ptr 1000 0] [(1000,.var [num t])] (boo (x !=t)) [(1000,.var [num t])]:=by
 refine zn mixed ttok Tryz.func236 Tryz.ntmps236 Tryz.results236 ?_;generalize hr:boo (x !=t)=R;refine Zn ?_;refine zu [0] rfl Zd Zk ?_ Zl Zb Zb;exact hr
theorem c_idxN (l:List Int) (t:Int) (hl:l.length<=1000000000):
 ACall Tryz.prog 197 [ints l,.clo 236 [.ptr 1000 0]] [(1000,.var [num t])] (num (fidx (fun x=>x !=t) l)) [(1000,.var [num t])]:=by
 refine zn mixed ttok Tryz.func197 Tryz.ntmps197 Tryz.results197 ?_;generalize hr:num (fidx (fun x=>x !=t) l)=R;refine Zn ?_;refine zp mixed ttok 8 [0,1,6,7] [1000] Zv Zw l.length (fun n=> ∀i,i<n->(l.getD i default !=t)=false) (fun _=>[]) (fun _=>[]) (fun i h=>absurd h (Yu _)) ?_ ?_
 ·exact Ya Zh Zh Zh
 intro I hI n hn hi;refine Zy ?_;refine za (fun h=>?_) fun h=>?_
 ·simp only [Yf] at h;have h':n<l.length:=Za;have hw:=zh h' Za;refine ⟨Zt,?_⟩;refine zf [[0],[]] [(1000,1000)] (c_ne (l.getD n default) t) ?_;refine Zg ?_;refine za (fun g=>?_) fun g=>?_
  ·refine zu [0] rfl Zd Zk ?_ Zl Zb Zb;rw [<-hr,vj _ l n h' hi g];rfl
  ·exact zo hI n rfl h' (fun i h2=>if h3:i=n then by rw [h3];exact g else hi i Za) (Ze hw) (Ze hw) (Ze hw) (Ze hw)
 ·simp only [Ye] at h;obtain rfl:n=l.length:=Za;refine zu [0] rfl Zd Zk ?_ Zl Zb Zb;rw [<-hr,x6 _ l hi];rfl
theorem c_containsN (l:List Int) (t:Int) (hl:l.length<=1000000000):
 ACall Tryz.prog 160 [ints l,.clo 236 [.ptr 1000 0]] [(1000,.var [num t])] (boo (l.any fun x=>x !=t)) [(1000,.var [num t])]:=by
 refine zn mixed ttok Tryz.func160 Tryz.ntmps160 Tryz.results160 ?_;generalize hr:boo (l.any fun x=>x !=t)=R;refine Zn ?_;refine zf [[1],[]] [(1000,1000)] (c_idxN l t hl) ?_;refine Zg ?_;refine zu [0] rfl Zd Zk ?_ Zl Zb Zb;rw [<-hr,<-any_fidx];rfl
theorem c_every (l:List Int) (t:Int) (hl:l.length<=1000000000):ACall Tryz.prog 235 [num t,ints l] [] (boo (l.all fun x=>x==t)) []:=by
 refine zn mixed ttok Tryz.func235 Tryz.ntmps235 Tryz.results235 ?_;generalize hr:boo (l.all fun x=>x==t)=R;refine Zn ?_;refine zf [[1],[]] [(1000,2)] (c_containsN l t hl) ?_;refine Zg ?_;have:(l.all fun x=>x==t)= !(l.any fun x=>x !=t):=by
  rw [List.not_any_eq_all_not];simp [bne]
 exact zk trivial (Zq hr this) Zb
def fitM (o:OpD) (l:List Int):Bool:=
 if o.types=1 then l.all (fun x=>x==1) else if o.types=2 then l.all (fun x=>x==3) else if o.types=3 then l.all (fun x=>x==2)
 else if o.types=4 then l.all (fun x=>x==l.getD 0 default) else if o.types=6 then (l.getD 0 default==2)&&(l.getD 1 default==l.getD 2 default) else true
theorem c_fit (o:OpD) (l:List Int) (hl:l.length<=1000000000) (h4:o.types=4->0<l.length) (h6:o.types=6->l.length=3):ACall Tryz.prog 218 [aOp o,ints l] [] (boo (fitM o l)) []:=by
 refine zn mixed ttok Tryz.func218 Tryz.ntmps218 Tryz.results218 ?_;generalize hr:boo (fitM o l)=R;simp -implicitDefEqProofs only [argT,aOp,↓zb,push_cast,simprocAttr,tt];refine za (fun k1=>?_) fun k1=>?_
 ·have hk:o.types=1:=Zc k1;have hM:fitM o l=l.all (fun x=>x==1):=by rw [fitM,if_pos hk]
  refine zf [[0],[1]] [] (c_every l 1 hl) ?_;refine Zg ?_;exact zk trivial (Zq hr hM) Zb
 have hk1: ¬o.types=1:=Zc k1;refine za (fun k2=>?_) fun k2=>?_
 ·have hk:o.types=2:=Zc k2;have hM:fitM o l=l.all (fun x=>x==3):=by rw [fitM,if_neg hk1,if_pos hk]
  refine zf [[0],[1]] [] (c_every l 3 hl) ?_;refine Zg ?_;exact zk trivial (Zq hr hM) Zb
 have hk2: ¬o.types=2:=Zc k2;refine za (fun k3=>?_) fun k3=>?_
 ·have hk:o.types=3:=Zc k3;have hM:fitM o l=l.all (fun x=>x==2):=by rw [fitM,if_neg hk1,if_neg hk2,if_pos hk]
  refine zf [[0],[1]] [] (c_every l 2 hl) ?_;refine Zg ?_;exact zk trivial (Zq hr hM) Zb
 have hk3: ¬o.types=3:=Zc k3;refine za (fun k4=>?_) fun k4=>?_
 ·have hk:o.types=4:=Zc k4;have hM:fitM o l=l.all (fun x=>x==l.getD 0 default):=by rw [fitM,if_neg hk1,if_neg hk2,if_neg hk3,if_pos hk]
  have:=h4 hk;refine ⟨Zt,?_⟩;refine zf [[0],[1]] [] (c_every l (l.getD 0 default) hl) ?_;refine Zg ?_;exact zk trivial (Zq hr hM) Zb
 have hk4: ¬o.types=4:=Zc k4;refine za (fun k6=>?_) fun k6=>?_
 ·have hk:o.types=6:=Zc k6;have hM:fitM o l=((l.getD 0 default==2)&&(l.getD 1 default==l.getD 2 default)):=by rw [fitM,if_neg hk1,if_neg hk2,if_neg hk3,if_neg hk4,if_pos hk]
  have:=h6 hk;refine ⟨Zt,?_⟩;refine za (fun g=>?_) fun g=>?_
  ·refine ⟨Zt,Zt,ze Zf,?_⟩;exact zk trivial (by rw [<-hr,hM,g,Yj];rfl) Zb
  ·refine ⟨ze Zf,?_⟩;exact zk trivial (by rw [<-hr,hM,g,Yk];rfl) Zb
 ·have hk6: ¬o.types=6:=Zc k6;have hM:fitM o l=true:=by rw [fitM,if_neg hk1,if_neg hk2,if_neg hk3,if_neg hk4,if_neg hk6]
  exact zk trivial (Zq hr hM) Zb
end
section
attribute [local simp, local push_cast] Wq aOp
def yW (k:Int):Bool:=(k==1 || k==2) || k==3
def ownM (ts:List Int) (e:Ex) (l:List Int):Int×Int:=
 if (!isOp e.op || !yh e) then (0,1)
 else if !yQ e then (0,9)
 else if (e.op==5&&(decide (e.col<0) || decide (e.col≥ts.length))) then (0,3)
 else if ((e.op==5&& !yW (ts.getD e.col.toNat default)) || !fitM (yN e.op) l) then (0,4)
 else if e.op==5 then (ts.getD e.col.toNat default,0)
 else if e.op==1 then (e.type,0)
 else if (yN e.op).own==0 then (l.getD (l.length-1) default,0)
 else ((yN e.op).own,0)
def typK (f:Ex->List Int->Int×Int) (e:Ex) (rs:List (Int×Int)):Int×Int:=if ferr Prod.snd rs=0 then f e (rs.map Prod.fst) else (0,ferr Prod.snd rs)
mutual
def typG (f:Ex->List Int->Int×Int):Ex->Int×Int
 | .mk a b c d g ks=>typK f (.mk a b c d g ks) (typL f ks)
def typL (f:Ex->List Int->Int×Int):List Ex->List (Int×Int)
 | []=>[]
 | e::l=>typG f e::typL f l
end
theorem typL_eq (f:Ex->List Int->Int×Int): ∀l,typL f l=l.map (typG f)
 | []=>rfl
 | e::l=>by rw [typL,typL_eq f l];rfl
theorem kS (f:Ex->List Int->Int×Int) (e:Ex):typG f e=typK f e (e.kids.map (typG f)):=by cases e;rw [typG,typL_eq];rfl
theorem vt {α β:Type} (g:β->Int) (h:α->β): ∀l:List α,ferr g (l.map h)=ferr (fun x=>g (h x)) l
 | []=>rfl
 | x::l=>by simp only [Yw,ferr,vt g h l]
theorem xK {α:Type} [Inhabited α] (g:α->Int): ∀(l:List α) (n:Nat),n<l.length->(∀i,i<n->g (l.getD i default)=0)->g (l.getD n default)≠0->ferr g l=g (l.getD n default)
 | [],n,h,_,_=>by simp at h
 | x::l,0,_,_,hg=>by simp at hg;simp [ferr,hg]
 | x::l,n+1,h,hb,hg=>by
   have h0:=hb 0 Za;simp at h0;simp only [ferr,h0,if_true];rw [xK g l n (Zc h) (fun i hi=>by simpa using hb (i+1) Za) (Zc hg)];simp
theorem yJ {α:Type} [Inhabited α] (g:α->Int): ∀(l:List α),(∀i,i<l.length->g (l.getD i default)=0)->ferr g l=0
 | [],_=>rfl
 | x::l,hb=>by
   have h0:=hb 0 Zd;simp at h0;simp only [ferr,h0,if_true];exact yJ g l (fun i hi=>by simpa using hb (i+1) (Zc hi))
def u4 (f:Ex->List Int->Int×Int) (e:Ex) (n:Nat):List Int:=(e.kids.take n).map fun k=>(typG f k).1
theorem tysTo_length (f:Ex->List Int->Int×Int) (e:Ex) (n:Nat) (h:n<=e.kids.length):(u4 f e n).length=n:=by simp [u4];omega
theorem tysTo_succ (f:Ex->List Int->Int×Int) (e:Ex) (n:Nat) (h:n<e.kids.length):u4 f e (n+1)=u4 f e n++[(typG f (e.kids.getD n default)).1]:=by rw [u4,zw _ _ h,YC];rfl
def zL (p:Int×Int):A:= .tup [num p.1,num p.2]
theorem tab_alike: ∀op:Int,isOp op=true->(yN op).types=4->2<=(yN op).kids:=by
 have h:(List.range 29).all (fun n=> !decide ((opTab.getD n default).types=4) || decide (2<=(opTab.getD n default).kids))=true:=Zi;intro op ho ht;rw [yN,ho,if_pos rfl,opAt] at ht ⊢;simp only [isOp,Ys,Yf] at ho;have:=all_range.1 h op.toNat Za;rw [ht] at this;simpa using this
theorem tab_choice: ∀op:Int,isOp op=true->(yN op).types=6->(yN op).kids=3/\op≠28:=by
 have h:(List.range 29).all (fun n=> !decide ((opTab.getD n default).types=6) || (decide ((opTab.getD n default).kids=3)&&decide (n≠28)))=true:=Zi;intro op ho ht;rw [yN,ho,if_pos rfl,opAt] at ht ⊢;simp only [isOp,Ys,Yf] at ho;have:=all_range.1 h op.toNat Za;rw [ht] at this;simp only [decide_true,Um,Yx,Ys,Yf] at this;exact ⟨this.1,Za⟩
theorem tab_own: ∀op:Int,isOp op=true->(yN op).own=0->op=1\/op=5\/1<=(yN op).kids:=by
 have h:(List.range 29).all (fun n=> !decide ((opTab.getD n default).own=0) || (decide (n=0) || decide (n=1) || decide (n=5) || decide (1<=(opTab.getD n default).kids)))=true:=Zi;intro op ho ht;rw [yN,ho,if_pos rfl,opAt] at ht ⊢;simp only [isOp,Ys,Yf] at ho;have:=all_range.1 h op.toNat Za;rw [ht] at this;simp only [decide_true,Um,Yx,Un,Yf] at this;omega
theorem jG {e:Ex} (h:yQ e=true):(yN e.op).kids<=e.kids.length/\(e.op≠28->(e.kids.length:Int)=(yN e.op).kids):=by
 simp only [yQ,Ys,Un,beq_iff_eq,Yf] at h;omega
theorem Zz {p:Prop} (h:p:=by rw [zr (by omega) (by omega)];omega):p:=h
theorem ZD {p P0 P1 P2:Prop} (zf_:P0) (zg_:P1) (zh_:P2) (h:P0->P1->P2->p:=by intro zf_ zg_ zh_;simp [zf_,zg_,zh_,zg,ends]):p:=h zf_ zg_ zh_
theorem ZU {p q:Prop} (h:q) (e:p=q:=by conv=>lhs;simp -implicitDefEqProofs only [zL,↓zb,push_cast,simprocAttr,tt]):p:=(e).mpr h
theorem c_typ (ts:List Int) (hts:ts.length<=1000000000): ∀e:Ex,Ok12 e->ACall Tryz.prog 192 [ints ts,aE e] [] (zL (typG (ownM ts) e)) []:=
 ut (p:=fun e=>Ok12 e->ACall Tryz.prog 192 [ints ts,aE e] [] (zL (typG (ownM ts) e)) []) fun e ih ho=>by
 refine zn mixed ttok Tryz.func192 Tryz.ntmps192 Tryz.results192 ?_;generalize hr:zL (typG (ownM ts) e)=R;have hl:=ho.kids;refine Zn ?_;refine zp mixed ttok 17 [0,3,15,16] [3] Zv Zw e.kids.length (fun n=> ∀i,i<n->(typG (ownM ts) (e.kids.getD i default)).2=0) (fun n=>[(6,.vec 500 n)]) (fun n=>[(500,.vec 3 1 (zd rI (u4 (ownM ts) e n)) 0)]) (fun i h=>absurd h (Yu _)) ?_ ?_
 ·exact (Weak.nilL 6 500 3 1 rfl rfl).trans (Weak.keepL (by simp [cst,ends]) (by simp [cst,u4,ends]) (by simp [cst,ends]))
 intro I hI n hn hi;have hl2:=tysTo_length (ownM ts) e n hn;refine Zy ?_;refine za (fun h=>?_) fun h=>?_
 ·simp only [Yf] at h;have h':n<e.kids.length:=Za;have hw:=zh h' Za;have hs:=tysTo_succ (ownM ts) e n h';refine ⟨Zt,?_⟩;refine zf [[1],[0,0,0,0,0,6]] [] (ih _ (zm h') (ho.kid (zm h'))) ?_;refine ZU ?_;refine za (fun g=>?_) fun g=>?_
  ·have g':(typG (ownM ts) (e.kids.getD n default)).2≠0:=Zc g;have hf:ferr Prod.snd (e.kids.map (typG (ownM ts)))=(typG (ownM ts) (e.kids.getD n default)).2:=by rw [vt];exact xK _ _ n h' hi g'
   have hE:typG (ownM ts) e=(0,(typG (ownM ts) (e.kids.getD n default)).2):=by rw [kS (ownM ts) e,typK,hf,if_neg g']
   exact zK trivial (Zq hr hE) Zb
  ·have g':(typG (ownM ts) (e.kids.getD n default)).2=0:=Zc g;refine ⟨⟨hl2.symm,Z4 hl2⟩,?_⟩;exact zo hI n rfl h' (fun i h2=>if h3:i=n then by rw [h3];exact g' else hi i Za) (ZD hw hs hl2) (ZD hw hs hl2) (ZD hw hs hl2) (ZD hw hs hl2)
 simp only [Ye] at h;obtain rfl:n=e.kids.length:=Za;clear hI;have hf:ferr Prod.snd (e.kids.map (typG (ownM ts)))=0:=by rw [vt];exact yJ _ _ hi
 have hT:u4 (ownM ts) e e.kids.length=(e.kids.map (typG (ownM ts))).map Prod.fst:=by rw [u4,Yl,Ul];rfl
 have hM:typG (ownM ts) e=ownM ts e (u4 (ownM ts) e e.kids.length):=by rw [kS (ownM ts) e,typK,if_pos hf,hT]
 rw [hM] at hr;generalize u4 (ownM ts) e e.kids.length=l at hl2 hr ⊢;refine zf [[0,0,0,0,0,6]] [] (c_known e) ?_;simp -implicitDefEqProofs only [aOp,↓zb,push_cast,simprocAttr,tt];have hf4:isOp e.op=true->yQ e=true->(yN e.op).types=4->0<l.length:=fun a b c=>by
  have:=tab_alike _ a c;have:=jG b;omega
 have hf6:isOp e.op=true->yQ e=true->(yN e.op).types=6->l.length=3:=fun a b c=>by
  have h9:=tab_choice _ a c;have h8:=(jG b).2 h9.2;omega
 have hf0:isOp e.op=true->yQ e=true-> ¬e.op=1-> ¬e.op=5->(yN e.op).own=0->0<l.length:=fun a b c d f=>by
  have h9:=tab_own _ a f;have h8:=jG b;omega
 refine za (fun h1=>?_) fun h1=>?_
 ·have h1':isOp e.op=false:=Zc h1;have hv:ownM ts e l=(0,1):=by simp only [ownM,h1',Um,Uu,Y5,Yx,Yy,Y0,YS,Yj,Yk,YF,Yp,YA,Y7,if_true,if_false]
  exact zK trivial (Zq hr hv) Zb
 have h1':isOp e.op=true:=Zc h1;refine zf [[0,0,0,0,0,6]] [] (c_clean e) ?_;refine Zg ?_;refine za (fun h2=>?_) fun h2=>?_
 ·have h2':yh e=false:=Zc h2;have hv:ownM ts e l=(0,1):=by simp only [ownM,h2',Um,Uu,Y5,Yx,Yy,Y0,YS,Yj,Yk,YF,Yp,YA,Y7,if_true,if_false]
  exact zK trivial (Zq hr hv) Zb
 have h2':yh e=true:=Zc h2;refine za (fun h3=>?_) fun h3=>?_
 ·have h3':yQ e=false:=Zc h3;have hv:ownM ts e l=(0,9):=by simp only [ownM,h1',h2',h3',Um,Uu,Y5,Yx,Yy,Y0,YS,Yj,Yk,YF,Yp,YA,Y7,if_true,if_false]
  exact zK trivial (Zq hr hv) Zb
 have h3':yQ e=true:=Zc h3
 replace hf4:=hf4 h1' h3'
 replace hf6:=hf6 h1' h3'
 replace hf0:=hf0 h1' h3'
 refine za (fun h4=>?_) fun h4=>?_
 ·refine za (fun h5=>?_) fun h5=>?_
  ·have hv:ownM ts e l=(0,3):=by simp only [ownM,h1',h2',h3',h4,h5,Um,Uu,Y5,Yx,Yy,Y0,YS,Yj,Yk,YF,Yp,YA,Y7,if_true,if_false]
   exact zK trivial (Zq hr hv) Zb
  refine za (fun h6=>?_) fun h6=>?_
  ·have hv:ownM ts e l=(0,3):=by simp only [ownM,h1',h2',h3',h4,h5,h6,Um,Uu,Y5,Yx,Yy,Y0,YS,Yj,Yk,YF,Yp,YA,Y7,if_true,if_false]
   exact zK trivial (Zq hr hv) Zb
  rw [h4,yw];refine ⟨by simp only [Ye] at h5 h6;omega,?_⟩;refine zf [[0]] [] (c_isType (ts.getD e.col.toNat default)) ?_;refine Zg ?_;rw [show (((ts.getD e.col.toNat default==1) || (ts.getD e.col.toNat default==2)) || (ts.getD e.col.toNat default==3))=yW (ts.getD e.col.toNat default) from rfl];refine za (fun h7=>?_) fun h7=>?_
  ·have h7':yW (ts.getD e.col.toNat default)=false:=Zc h7;have hv:ownM ts e l=(0,4):=by simp only [ownM,h1',h2',h3',h4,h5,h6,h7',Um,Uu,Y5,Yx,Yy,Y0,YS,Yj,Yk,YF,Yp,YA,Y7,if_true,if_false]
   exact zK trivial (Zq hr hv) Zb
  have h7':yW (ts.getD e.col.toNat default)=true:=Zc h7;refine zf [[0,0,0,0],[1]] [] (c_fit (yN e.op) l Za hf4 hf6) ?_;refine Zg ?_;refine za (fun h8=>?_) fun h8=>?_
  ·have h8':fitM (yN e.op) l=false:=Zc h8;have hv:ownM ts e l=(0,4):=by simp only [ownM,h1',h2',h3',h4,h5,h6,h7',h8',Um,Uu,Y5,Yx,Yy,Y0,YS,Yj,Yk,YF,Yp,YA,Y7,if_true,if_false]
   exact zK trivial (Zq hr hv) Zb
  have h8':fitM (yN e.op) l=true:=Zc h8;rw [h4,yw];refine ⟨by simp only [Ye] at h5 h6;omega,?_⟩;have hv:ownM ts e l=(ts.getD e.col.toNat default,0):=by simp only [ownM,h1',h2',h3',h4,h5,h6,h7',h8',Um,Uu,Y5,Yx,Yy,Y0,YS,Yj,Yk,YF,Yp,YA,Y7,if_true,if_false]
  exact zK trivial (Zq hr hv) Zb
 rw [h4,jZ];refine zf [[0,0,0,0],[1]] [] (c_fit (yN e.op) l Za hf4 hf6) ?_;refine Zg ?_;refine za (fun h8=>?_) fun h8=>?_
 ·have h8':fitM (yN e.op) l=false:=Zc h8;have hv:ownM ts e l=(0,4):=by simp only [ownM,h1',h2',h3',h4,h8',Um,Uu,Y5,Yx,Yy,Y0,YS,Yj,Yk,YF,Yp,YA,Y7,if_true,if_false]
  exact zK trivial (Zq hr hv) Zb
 have h8':fitM (yN e.op) l=true:=Zc h8;rw [h4,jZ];refine za (fun h5=>?_) fun h5=>?_
 ·have hv:ownM ts e l=(e.type,0):=by simp only [ownM,h1',h2',h3',h4,h8',h5,Um,Uu,Y5,Yx,Yy,Y0,YS,Yj,Yk,YF,Yp,YA,Y7,if_true,if_false]
  exact zK trivial (Zq hr hv) Zb
 refine za (fun h6=>?_) fun h6=>?_
 ·have h5': ¬e.op=1:=Zc h5;have h4': ¬e.op=5:=Zc h4;have h6':(yN e.op).own=0:=Zc h6;have hp:=hf0 h5' h4' h6';have hw:IntKind.i64.wrap ((e.kids.length:Int)-1)=((l.length-1:Nat):Int):=Zz;rw [hw];have hv:ownM ts e l=(l.getD (l.length-1) default,0):=by simp only [ownM,h1',h2',h3',h4,h8',h5,h6,Um,Uu,Y5,Yx,Yy,Y0,YS,Yj,Yk,YF,Yp,YA,Y7,if_true,if_false]
  refine ⟨hl2.symm,⟨⟨Za,Za⟩,hl2.symm⟩,Za,hl2.symm,?_⟩;exact zK trivial (Zq hr hv) Zb
 have hv:ownM ts e l=((yN e.op).own,0):=by simp only [ownM,h1',h2',h3',h4,h8',h5,h6,Um,Uu,Y5,Yx,Yy,Y0,YS,Yj,Yk,YF,Yp,YA,Y7,if_true,if_false]
 exact zK trivial (Zq hr hv) Zb
end
section
attribute [local simp, local push_cast] Wq yd zL
def zU (f:Ex->List Int->Int×Int) (e:Ex):Int×Int:=if w8 e>200 then (0,8) else if wn e>24 then (0,13) else typG f e
theorem c_type (ts:List Int) (hts:ts.length<=1000000000) (e:Ex) (ho:Ok12 e):ACall Tryz.prog 148 [ints ts,aE e] [] (zL (zU (ownM ts) e)) []:=by
 refine zn mixed ttok Tryz.func148 Tryz.ntmps148 Tryz.results148 ?_;generalize hr:zL (zU (ownM ts) e)=R;refine Zn ?_;refine zf [[0,0,0,0,0,6]] [] (c_size e ho) ?_;refine Zg ?_;refine za (fun h=>?_) fun h=>?_
 ·have hv:zU (ownM ts) e=(0,8):=if_pos (Yc h);exact zK trivial (Zq hr hv) Zb
 have h': ¬w8 e>200:=Yb h;refine zf [[0,0,0,0,0,6]] [] (c_depth e ho) ?_;refine Zg ?_;refine za (fun g=>?_) fun g=>?_
 ·have hv:zU (ownM ts) e=(0,13):=by rw [zU,if_neg h',if_pos (Yc g)]
  exact zK trivial (Zq hr hv) Zb
 have g': ¬wn e>24:=Yb g;refine zf [[1],[0,0,0,0,0,6]] [] (c_typ ts hts e ho) ?_;have hv:zU (ownM ts) e=typG (ownM ts) e:=by rw [zU,if_neg h',if_neg g']
 refine ZU ?_;exact zK trivial (Zq hr hv) Zb
def ui (f:Nat->Int) (N:Nat):Int:=ferr f (List.range N)
theorem jz {N i:Nat} (h:i<N):(List.range N).getD i default=i:=by rw [Yg,List.getElem?_range h];rfl
theorem kK {f:Nat->Int} {N n:Nat} (h:n<N) (hi: ∀i,i<n->f i=0) (hn:f n≠0):ui f N=f n:=by
 have:=xK f (List.range N) n (Zc h) (fun i h2=>by rw [jz Za];exact hi i h2) (by rw [jz h];exact hn);rwa [jz h] at this
theorem ur {f:Nat->Int} {N:Nat} (hi: ∀i,i<N->f i=0):ui f N=0:=
 yJ f (List.range N) fun i h=>by rw [List.length_range] at h;rw [jz h];exact hi i h
def ug (k:Int):Bool:=(k !=1&&k !=2)&&k !=3
def uT (k:Int):Int:=if 0>k then 0 else k
def xd (t:Tbl) (i:Nat):Int:=
 if !uV (t.columns.getD i default).name then 3 else if uT (byC t.columns (t.columns.getD i default).name)<i then 5 else if ug (t.columns.getD i default).type then 4 else 0
def xA (t:Tbl) (e:Ex):Int:=if (zU (ownM (yj t)) e).2≠0 then (zU (ownM (yj t)) e).2 else if (zU (ownM (yj t)) e).1≠2 then 4 else 0
def bigT (t:Tbl):Bool:=((decide ((t.columns.length:Int)>8) || decide ((t.uniques.length:Int)>3)) || decide ((t.foreigns.length:Int)>3)) || decide ((t.checks.length:Int)>4)
def xz (t:Tbl):Int:=
 if bigT t then 8 else if t.columns.length=0 then 9
 else if ui (xd t) t.columns.length≠0 then ui (xd t) t.columns.length
 else if xJ t≠0 then xJ t else ferr (xA t) t.checks
theorem c_table (t:Tbl) (ht:SmallT t):ACall Tryz.prog 84 [aT t] [] (num (xz t)) []:=by
 refine zn mixed ttok Tryz.func84 Tryz.ntmps84 Tryz.results84 ?_;generalize hr:num (xz t)=R;refine Zn ?_;have hcl:=ht.cols;have hkl:=ht.chk;have hbig:bigT t=true->retx (some (True,A.d (D.lit (Value.int .i64 8)))) ⟨[],[(1,vT t)]⟩ R []:=fun hb=>zk trivial (by rw [<-hr,xz,if_pos hb];rfl) Zb;simp only [vT] at hbig;refine za (fun h1=>?_) fun h1=>?_
 ·exact hbig (by rw [bigT,h1];simp only [Yy])
 refine za (fun h2=>?_) fun h2=>?_
 ·exact hbig (by rw [bigT,h2];simp only [Y0,Yy])
 refine za (fun h3=>?_) fun h3=>?_
 ·exact hbig (by rw [bigT,h3];simp only [Y0,Yy])
 refine za (fun h4=>?_) fun h4=>?_
 ·exact hbig (by rw [bigT,h4];simp only [Y0])
 clear hbig;have hb: ¬bigT t=true:=by rw [bigT,h1,h2,h3,h4];decide
 refine za (fun h5=>?_) fun h5=>?_
 ·have h5':t.columns.length=0:=Zc h5;exact zk trivial (by rw [<-hr,xz,if_neg hb,if_pos h5'];rfl) Zb
 have h5': ¬t.columns.length=0:=Zc h5;have hM:xz t=if ui (xd t) t.columns.length≠0 then ui (xd t) t.columns.length
  else if xJ t≠0 then xJ t else ferr (xA t) t.checks:=by rw [xz,if_neg hb,if_neg h5']
 clear h1 h2 h3 h4 h5;refine zp mixed ttok 43 [1,41,42] [1] Zv Zw t.columns.length (fun n=> ∀i,i<n->xd t i=0) (fun _=>[]) (fun _=>[]) (fun i h=>absurd h (Yu _)) ?_ ?_
 ·exact Ya Zh Zh Zh
 intro I hI n hn hi;refine Zy ?_;refine za (fun h=>?_) fun h=>?_
 ·simp only [Yf] at h;have h':n<t.columns.length:=Za;have hw:=zh h' Za;have hE:xd t n≠0->num (xd t n)=R:=fun hne=>by
   have:=kK h' hi hne;rw [<-hr,hM,this,if_pos hne]
  refine ⟨Zt,?_⟩;refine zf [[0]] [] (c_name (t.columns.getD n default).name) ?_;refine Zg ?_;refine za (fun g1=>?_) fun g1=>?_
  ·have hc:xd t n=3:=if_pos g1;exact zk trivial (by rw [<-hE (Z0 hc),hc];rfl) Zb
  refine zf [[0,3,1,1,2,6],[0]] [] (c_column t (t.columns.getD n default).name Za) ?_;refine Zg ?_;refine za (fun g2=>?_) fun g2=>?_
  ·have hc:xd t n=5:=by rw [xd,if_neg (Z0 g1)];exact if_pos (Yc g2)
   exact zk trivial (by rw [<-hE (Z0 hc),hc];rfl) Zb
  have hcB:xd t n=if ug (t.columns.getD n default).type then 4 else 0:=by rw [xd,if_neg (Z0 g1)];exact if_neg (Yb g2)
  have hinv:ug (t.columns.getD n default).type=false-> ∀i,i<n+1->xd t i=0:=fun hb i h2=>if h3:i=n then by rw [h3,hcB,hb];rfl else hi i Za
  refine za (fun g3=>?_) fun g3=>?_
  ·refine za (fun g4=>?_) fun g4=>?_
   ·refine za (fun g5=>?_) fun g5=>?_
    ·have hc:xd t n=4:=by rw [hcB,ug,g3,g4,g5];rfl
     exact zk trivial (by rw [<-hE (Z0 hc),hc];rfl) Zb
    ·exact zo hI n rfl h' (hinv (by rw [ug,g5,YF])) (Ze hw) (Ze hw) (Ze hw) (Ze hw)
   ·exact zo hI n rfl h' (hinv (by rw [ug,g4,YF,Yk])) (Ze hw) (Ze hw) (Ze hw) (Ze hw)
  ·exact zo hI n rfl h' (hinv (by rw [ug,g3,Yk,Yk])) (Ze hw) (Ze hw) (Ze hw) (Ze hw)
 simp only [Ye] at h;obtain rfl:n=t.columns.length:=Za;clear hI;have hM2:xz t=if xJ t≠0 then xJ t else ferr (xA t) t.checks:=by rw [hM,ur hi,if_neg (by decide)]
 clear hM h;refine zf [[0,3,1,1,2,6]] [] (c_keys t ht) ?_;refine Zg ?_;refine za (fun k1=>?_) fun k1=>?_
 ·have k1':xJ t≠0:=Zc k1;exact zk trivial (ZK hr hM2 (if_pos k1')) Zb
 have k1': ¬xJ t≠0:=Zc k1;rw [if_neg k1'] at hM2;refine zp mixed ttok 84 [1,82,83] [1] Zv Zw t.checks.length (fun n=> ∀i,i<n->xA t (t.checks.getD i default)=0) (fun _=>[]) (fun _=>[]) (fun i h=>absurd h (Yu _)) ?_ ?_
 ·exact Ya Zh Zh Zh
 clear hi hn I;intro I hI n hn hi;refine Zy ?_;refine za (fun h=>?_) fun h=>?_
 ·simp only [Yf] at h;have h':n<t.checks.length:=Za;have hw:=zh h' Za;have hE:xA t (t.checks.getD n default)≠0->num (xA t (t.checks.getD n default))=R:=fun hne=>by
   have:=xK (xA t) t.checks n h' hi hne;rw [<-hr,hM2,this]
  have hl:(yj t).length<=1000000000:=by rw [yj,Y2];omega
  refine ⟨Zt,?_⟩;refine zf [[0,3,1,1,2,6]] [] (c_types t Za) ?_;refine Zg ?_;refine zf [[1],[0,0,0,0,0,6]] [] (c_type (yj t) hl (t.checks.getD n default) (ht.chks _ (zm h'))) ?_;refine ZU ?_;refine ⟨ze Zf,?_⟩;refine za (fun g1=>?_) fun g1=>?_
  ·have g1':(zU (ownM (yj t)) (t.checks.getD n default)).2≠0:=Zc g1;have hc:xA t (t.checks.getD n default)=(zU (ownM (yj t)) (t.checks.getD n default)).2:=if_pos g1';exact zk trivial (by rw [<-hE (by rw [hc];exact g1'),hc];rfl) Zb
  have g1': ¬(zU (ownM (yj t)) (t.checks.getD n default)).2≠0:=Zc g1;refine za (fun g2=>?_) fun g2=>?_
  ·have g2':(zU (ownM (yj t)) (t.checks.getD n default)).1≠2:=Zc g2;have hc:xA t (t.checks.getD n default)=4:=by rw [xA,if_neg g1',if_pos g2']
   exact zk trivial (by rw [<-hE (Z0 hc),hc];rfl) Zb
  have g2': ¬(zU (ownM (yj t)) (t.checks.getD n default)).1≠2:=Zc g2;have hc:xA t (t.checks.getD n default)=0:=by rw [xA,if_neg g1',if_neg g2']
  exact zo hI n rfl h' (fun i h2=>if h3:i=n then by rw [h3];exact hc else hi i Za) (Ze hw) (Ze hw) (Ze hw) (Ze hw)
 simp only [Ye] at h;obtain rfl:n=t.checks.length:=Za;exact zk trivial (ZK hr hM2 (yJ _ _ hi)) Zb
end
section
attribute [local simp, local push_cast] Wq yd zL vT
theorem gK {a b:Nat} (h:((a:Int) !=(b:Int))=true): ¬a=b:=fun e=>by rw [e] at h;simp at h
theorem jA {a b:Nat} (h:((a:Int) !=(b:Int))=false):a=b:=by simp only [bne_eq_false_iff_eq] at h;omega
def aFk (f:Fk):A:= .agg [.d (.sl 1 (zd rI f.columns)),.d (.lit (.string f.table))]
attribute [local simp, local push_cast] aFk
def xy (t:Tbl) (k:Int):Int:=(t.columns.getD k.toNat default).type
theorem c_ref1 (t u:Tbl) (i j:Int) (hi:inC t i) (hj:inC u j):ACall Tryz.prog 150 [num i,num j,.ptr 1000 0,.ptr 1001 0] [(1000,vT t),(1001,vT u)] (boo (xy t i==xy u j)) [(1000,vT t),(1001,vT u)]:=by
 refine zn mixed ttok Tryz.func150 Tryz.ntmps150 Tryz.results150 ?_;generalize hr:boo (xy t i==xy u j)=R;obtain ⟨hi0,hi1⟩:=hi;obtain ⟨hj0,hj1⟩:=hj;refine X8 ?_;refine ⟨⟨hi0,hi1⟩,⟨hj0,hj1⟩,ze Zf,?_⟩;refine zu [0] rfl Zd Zk ?_ Zl Zb Zb;exact hr
def uM (t u:Tbl) (a b:List Int):Bool:=a.length==b.length&&(List.range a.length).all fun i=>xy t (a.getD i default)==xy u (b.getD i default)
theorem c_eqF (t u:Tbl) (a b:List Int) (ha: ∀k∈a,inC t k) (hb: ∀k∈b,inC u k) (hl:a.length<=1000):
 ACall Tryz.prog 149 [ints a,ints b,.clo 150 [.ptr 1000 0,.ptr 1001 0]] [(1000,vT t),(1001,vT u)] (boo (uM t u a b)) [(1000,vT t),(1001,vT u)]:=by
 refine zn mixed ttok Tryz.func149 Tryz.ntmps149 Tryz.results149 ?_;generalize hr:boo (uM t u a b)=R;refine X8 ?_;refine za (fun h0=>?_) fun h0=>?_
 ·have h0': ¬a.length=b.length:=gK h0;refine zu [0] rfl Zd Zk ?_ Zl Zb Zb;rw [<-hr,uM,beq_false_of_ne h0'];rfl
 have h0':a.length=b.length:=jA h0;refine zp mixed ttok 17 [0,1,2,15,16] [1000,1001] Zv Zw a.length (fun n=> ∀i,i<n->(xy t (a.getD i default)==xy u (b.getD i default))=true) (fun _=>[]) (fun _=>[]) (fun i h=>absurd h (Yu _)) ?_ ?_
 ·exact Ya Zh Zh Zh
 intro I hI n hn hi;refine Zy ?_;refine za (fun h=>?_) fun h=>?_
 ·simp only [Yf] at h;have h':n<a.length:=Za;have hw:=zh h' Za;refine ⟨Zt,?_⟩;refine ⟨Za,?_⟩;have hc:=c_ref1 t u (a.getD n default) (b.getD n default) (ha _ (zm h')) (hb _ (zm Za));unfold vT at hc;refine zf [[0],[0],[],[]] [(1000,1000),(1001,1001)] (hc) ?_;refine Zg ?_;refine za (fun g=>?_) fun g=>?_
  ·have g':(xy t (a.getD n default)==xy u (b.getD n default))=false:=Zc g;refine zu [0] rfl Zd Zk ?_ Zl Zb Zb;have hbad:((List.range a.length).all fun i=>xy t (a.getD i default)==xy u (b.getD i default))=false:=ww h' g';rw [<-hr,uM,hbad,YF];rfl
  ·have g':(xy t (a.getD n default)==xy u (b.getD n default))=true:=Zc g;exact zo hI n rfl h' (fun i h2=>if h3:i=n then by rw [h3];exact g' else hi i Za) (Ze hw) (Ze hw) (Ze hw) (Ze hw)
 ·simp only [Ye] at h;obtain rfl:n=a.length:=Za;refine zu [0] rfl Zd Zk ?_ Zl Zb Zb;rw [<-hr,uM,all_range.2 hi,h0',beq_self_eq_true];rfl
def refM (s:Sch) (t:Tbl) (f:Fk):Int:=
 if byT s f.table<0 then 11 else if uM t (s.getD (byT s f.table).toNat default) f.columns (s.getD (byT s f.table).toNat default).primary then 0 else 6
theorem c_reference (s:Sch) (t:Tbl) (f:Fk) (hs:s.length<=1000) (hl:f.columns.length<=1000) (hf: ∀k∈f.columns,inC t k) (hp: ∀u∈s,∀k∈u.primary,inC u k):
 ACall Tryz.prog 85 [aS s,aT t,aFk f] [] (num (refM s t f)) []:=by
 refine zn mixed ttok Tryz.func85 Tryz.ntmps85 Tryz.results85 ?_;generalize hr:num (refM s t f)=R;refine Zn ?_;refine zf [[6],[0]] [] (c_find s f.table Za) ?_;refine Zg ?_;refine za (fun h=>?_) fun h=>?_
 ·have h':byT s f.table<0:=Zc h;exact zk trivial (by rw [<-hr,refM,if_pos h'];rfl) Zb
 have h': ¬byT s f.table<0:=Zc h;have hlt:=wh (fun t=>t.name.toList==f.table.toList) s;have hM:refM s t f=if uM t (s.getD (byT s f.table).toNat default) f.columns (s.getD (byT s f.table).toNat default).primary then 0 else 6:=if_neg h'
 have hk:byT s f.table<s.length:=hlt;clear hlt h;generalize byT s f.table=k at h' hM hk ⊢;simp only [if_neg (show¬0>k from Za)];refine ⟨⟨Za,hk⟩,?_⟩;have hu:s.getD k.toNat default∈s:=zm Za;have hc:=c_eqF t (s.getD k.toNat default) f.columns (s.getD k.toNat default).primary hf (hp _ hu) hl;unfold vT at hc;refine zf [[1],[1],[]] [(1000,4),(1001,9)] (hc) ?_;refine Zg ?_;refine za (fun g=>?_) fun g=>?_
 ·have g':uM t (s.getD k.toNat default) f.columns (s.getD k.toNat default).primary=false:=Zc g;exact zk trivial (ZK hr hM g') Zb
 ·have g':uM t (s.getD k.toNat default) f.columns (s.getD k.toNat default).primary=true:=Zc g;exact zk trivial (ZK hr hM g') Zb
end
section
attribute [local simp, local push_cast] Wq yd zL aFk vT
theorem c_order1n:ACall Tryz.prog 152 [.d (.lit (.map none))] [] (boo false) []:=by
 refine zn mixed ttok Tryz.func152 Tryz.ntmps152 Tryz.results152 ?_;generalize hr:boo false=R;refine Zn ?_;refine zu [0] rfl Zd Zk ?_ Zl Zb Zb;exact hr
theorem c_order1 (ks:List Int):ACall Tryz.prog 152 [.mp 1000] [(1000,.mp (encM ks))] (boo (ks.length==0)) [(1000,.mp (encM ks))]:=by
 refine zn mixed ttok Tryz.func152 Tryz.ntmps152 Tryz.results152 ?_;generalize hr:boo (ks.length==0)=R;simp -implicitDefEqProofs only [argT,encM_length,↓zb,push_cast,simprocAttr,tt];subst hr;refine zu [0] rfl Zd Zk ?_ Zl Zb Zb;have:((ks.length:Int)==0)=(ks.length==0):=by rw [Ud];simp
 rw [this];rfl
def freeM:Option (List Int)->Bool
 | none=>false
 | some ks=>ks.length==0
def mobs (a b:Nat) (ms:List (Option (List Int))):List (Nat×Ob):=(a,.var (xw b ms))::yH b ms
theorem mapsL_mk: ∀(b:Nat) (ms:List (Option (List Int))),b+ms.length<=1000000->noMk (yH b ms)=true
 | b,[],_=>rfl
 | b,none::ms,h=>by
   simp only [yH];exact mapsL_mk (b+1) ms (by simp only [Y6] at h;omega)
 | b,some ks::ms,h=>by
   simp only [yH,noMk,Us,Ys,Yf];simp only [Y6] at h;exact ⟨Za,mapsL_mk (b+1) ms Za⟩
theorem mobs_mk {ms:List (Option (List Int))} (h:ms.length<=6):noMk (mobs 1000 1001 ms)=true:=by
 simp only [mobs,noMk,Us,Ys,Yf];exact ⟨Za,mapsL_mk 1001 ms Za⟩
theorem mobs_at {a b:Nat} {ms:List (Option (List Int))} {n:Nat} {ks:List Int} (hab:a<b) (h:ms[n]? =some (some ks)):lookO (mobs a b ms) (b+n)=some (.mp (encM ks)):=by
 rw [mobs,yl Za];exact yk b h
theorem mobs_in {a b:Nat} {ms:List (Option (List Int))} {n:Nat} {ks:List Int} (h:ms[n]? =some (some ks)):inO (mobs a b ms) (b+n)=true:=wT (inO_maps b h)
theorem qY {a b:Nat} {ms:List (Option (List Int))} (hab:a<b):keepO (lookO (mobs a b ms)) (inO (mobs a b ms)) (mobs a b ms):=
 ⟨⟨by simp [mobs,lookO],vP fun n ks h=>mobs_in h⟩,uo fun n ks h=>mobs_at hab h⟩
theorem mobs_all {a b:Nat} {ms:List (Option (List Int))}:keepIn (inO (mobs a b ms)) (mobs a b ms):=
 ⟨.inr inO_cons_l,jP fun n ks h=> .inr (mobs_in h)⟩
theorem XA {p:Prop} (h:p:=by simp [cst,mobs,ends]):p:=h
theorem XN {p q:Prop} (h:q) (e:p=q:=by conv=>lhs;simp -implicitDefEqProofs only [gA,Ub,↓zb,push_cast,simprocAttr,tt]):p:=(e).mpr h
theorem c_idxM (ms:List (Option (List Int))) (hl:ms.length<=6):
 ACall Tryz.prog 151 [.vs 1000 ms.length,.clo 152 []] (mobs 1000 1001 ms) (num (fidx freeM ms)) (mobs 1000 1001 ms):=by
 refine zn mixed ttok Tryz.func151 Tryz.ntmps151 Tryz.results151 ?_ (hmk:=mobs_mk hl);generalize hr:num (fidx freeM ms)=R;unfold mobs;refine Zn ?_;have hend: ∀(t:UD) (v:Int),num v=R->retx (some (True,A.d (D.lit (Value.int IntKind.i64 v)))) ⟨t,(1000,.var (xw 1001 ms))::yH 1001 ms⟩ R ((1000,.var (xw 1001 ms))::yH 1001 ms):=fun t v hv=>by
  refine zu [0] rfl trivial trivial hv (ZF hv) ?_ ?_
  ·exact qY Za
  ·exact mobs_all
 refine u9 mixed ttok 8 [0,1,7] (by simp only [zA,ends,ite_true,ite_false,reduceIte,Nat.reduceEqDiff,Nat.reduceLeDiff,Nat.reduceLT,Nat.reduceAdd,reduceCtorEq,num,boo,str,ints,aV,aTab,z7,aS,aT,aC,yd,zL,aFk,vT];rfl) (mobs 1000 1001 ms) ms.length (fun n=> ∀i,i<n->freeM (ms.getD i default)=false) (fun _=>[]) (fun _=>[]) (fun i h=>absurd h (Yu _)) ?_ ?_
 ·refine Ya XA (qY Za) mobs_all
 intro I hI n hn hi;unfold mobs at hI ⊢;refine Zy ?_;refine za (fun h=>?_) fun h=>?_
 ·simp only [Yf] at h;have h':n<ms.length:=Za;have hw:=zh h' Za;refine ⟨Za,?_⟩;have hm:ms[n]? =some (ms.getD n default):=by rw [Yg,List.getElem?_eq_getElem h'];rfl
  rw [jl,hm];generalize ms.getD n default=m at hm;have hfi:ms.getD n default=m:=by rw [Yg,hm];rfl
  have hinv:freeM m=false-> ∀i,i<n+1->freeM (ms.getD i default)=false:=fun hf i h2=>if h3:i=n then by rw [h3,hfi,hf] else hi i Za
  cases m with
  | none=>
    refine XN ?_;refine zf [[0]] [] (c_order1n) ?_;refine Zg ?_;refine vD hI n rfl h' (hinv rfl) (Ya (ZY hw) (qY Za) mobs_all)
  | some ks=>
    refine XN ?_;refine callx_same [[]] (fun _=>1001+n) rfl (c_order1 ks) rfl Zd rfl rfl ⟨⟨?_,rfl⟩,trivial⟩ Zd Zd Zd ?_
    ·exact mobs_at Za hm
    refine Zg ?_;refine za (fun g=>?_) fun g=>?_
    ·exact hend _ _ (by rw [<-hr,vj freeM ms n h' hi (by rw [hfi];exact g)])
    ·refine vD hI n rfl h' (hinv g) (Ya (ZY hw) (qY Za) mobs_all)
 ·simp only [Ye] at h;obtain rfl:n=ms.length:=Za;exact hend _ _ (by rw [<-hr,x6 freeM ms hi])
def vC (s:Sch) (l:List Fk):List Int:=l.foldl (fun acc f=>addK acc (byT s f.table)) []
def ms1 (s:Sch) (n:Nat):List (Option (List Int)):=(List.range s.length).map fun i=>if i<n then some (vC s (s.getD i default).foreigns) else none
theorem wO (s:Sch) (n:Nat):(ms1 s n).length=s.length:=by simp [ms1]
theorem ms1_zero (s:Sch):ms1 s 0=List.replicate s.length none:=by
 apply Uc;intro j;simp only [ms1,Yu,if_false,List.getElem?_map,List.getElem?_replicate];by_cases hj:j<s.length
 ·rw [List.getElem?_range hj,if_pos hj];rfl
 ·rw [List.getElem?_eq_none Zs,if_neg hj];rfl
theorem ms1_succ (s:Sch) (n:Nat) (h:n<s.length):(ms1 s n).set n (some (vC s (s.getD n default).foreigns))=ms1 s (n+1):=by
 apply Uc;intro j;rw [List.getElem?_set,wO];by_cases hj:n=j
 ·subst hj;simp [ms1,h]
 ·simp only [hj,if_false,ms1,List.getElem?_map];by_cases hl:j<s.length
  ·rw [List.getElem?_range hl];simp only [Ub]
   congr 1
   by_cases h1:j<n
   ·rw [if_pos h1,if_pos Za]
   ·rw [if_neg h1,if_neg Za]
  ·rw [List.getElem?_eq_none Zs];rfl
theorem depsTo_succ (s:Sch) (l:List Fk) (n:Nat) (h:n<l.length):vC s (l.take (n+1))=addK (vC s (l.take n)) (byT s (l.getD n default).table):=by
 rw [zw _ _ h,vC,List.foldl_append];rfl
theorem yB {ms:List (Option (List Int))} {k:Nat} (h:k<700):lookO (yH 700 ms) k=none:=lookO_maps_lt ms h
attribute [local simp, local push_cast] yB
theorem closedL_set {dom:Nat->Bool} {a:A} (ha:a.closed dom=true): ∀(l:List A) (n:Nat),closedL dom l=true->closedL dom (l.set n a)=true
 | [],_,h=>h
 | x::l,0,h=>by simp only [closedL,List.set_cons_zero,Ys] at h ⊢;exact ⟨ha,h.2⟩
 | x::l,n+1,h=>by simp only [closedL,List.set_cons_succ,Ys] at h ⊢;exact ⟨h.1,closedL_set ha l n h.2⟩
theorem renL_set (r:Nat->Nat) (a:A): ∀(l:List A) (n:Nat),renL r (l.set n a)=(renL r l).set n (a.ren r)
 | [],_=>rfl
 | x::l,0=>rfl
 | x::l,n+1=>by simp only [List.set_cons_succ,renL];rw [renL_set r a l n]
theorem renO_maps {a b:Nat}: ∀{ms:List (Option (List Int))} {c:Nat},a<c->renO a b (yH c ms)=yH c ms
 | [],_,_=>rfl
 | none::l,c,h=>by rw [yH];exact renO_maps (by omega)
 | some ks::l,c,h=>by rw [yH,renO,renO_maps (by omega)];simp only [zM,Ob.ren];rw [if_neg (by omega)]
theorem qz {dom:Nat->Bool} {ms:List (Option (List Int))} (h:ms.length<=6):keepIn dom (yH 700 ms):=jP fun n ks hn=> .inl (by have:=(List.getElem?_eq_some_iff.1 hn).1;omega)
theorem splice_set {α:Type} (l:List α) (n:Nat) (x:α) (h:n<l.length):l.take n++[x]++l.drop (n+1)=l.set n x:=by rw [List.set_eq_take_append_cons_drop,if_pos h,Yo];rfl
def vS (s:Sch):Ob:= .var [.d (.sl 6 (zd rT s))]
theorem keep_a {f:UB} {s:Sch} {ms:List (Option (List Int))} (h1:f 1=some (vS s)) (h2:f 18=some (.var (xw 700 ms))) (h3: ∀n ks,ms[n]? =some (some ks)->f (700+n)=some (.mp (encM ks))):
 keepO f (inO ((1,vS s)::mobs 18 700 ms)) ((1,vS s)::mobs 18 700 ms):=
 ⟨⟨h1,rfl⟩,⟨h2,vP fun n ks h=>wT (mobs_in h)⟩,uo h3⟩
def rM (i:Nat):Nat:=if i=1000 then 18 else i-301
theorem rM_at (n:Nat):rM (1001+n)=700+n:=by simp only [rM];rw [if_neg (by omega)];omega
theorem mobs_big {ms:List (Option (List Int))} (h:ms.length<=6): ∀x∈(mobs 1000 1001 ms).map (·.1),hdd x=true:=by
 intro x hx;rw [mobs,Yw,YJ] at hx;rcases hx with hx | hx
 ·subst hx;rfl
 ·obtain ⟨n,_,rfl,hn⟩:=q8 hx;have:=(List.getElem?_eq_some_iff.1 hn).1;exact hdd_mid Za Za
theorem mobs_nodup {ms:List (Option (List Int))} (h:ms.length≤6):(((mobs 1000 1001 ms).map (·.1)).map rM).Nodup:=by
 rw [mobs,Yw,Yw];refine List.nodup_cons.2 ⟨fun hm=>?_,?_⟩
 ·obtain ⟨x,hx,he⟩:=Y4.1 hm;obtain ⟨n,_,rfl,_⟩:=q8 hx;rw [rM_at] at he;simp [rM] at he;omega
 ·have hN: ∀{ms:List (Option (List Int))} {b:Nat},1001≤b→(((yH b ms).map (·.1)).map rM).Nodup:=by
   intro ms
   induction ms with
   | nil=>intro b _;exact List.Pairwise.nil
   | cons m l ih=>
     intro b hb;cases m with
     | none=>rw [yH];exact ih Za
     | some ks=>
       rw [yH,Yw,Yw];refine List.nodup_cons.2 ⟨fun hm=>?_,ih Za⟩;obtain ⟨x,hx,he⟩:=Y4.1 hm;obtain ⟨n,_,rfl,_⟩:=q8 hx;simp only [rM] at he;rw [if_neg Za,if_neg Za] at he;omega
  exact hN (Yt _)
theorem mobs_nodup0 {ms:List (Option (List Int))} (h:ms.length<=6):((mobs 1000 1001 ms).map (·.1)).Nodup:=by
 have:=mobs_nodup h;generalize (mobs 1000 1001 ms).map (·.1)=l at this
 induction l with
 | nil=>exact List.Pairwise.nil
 | cons x l ih=>
   rw [Yw] at this;obtain ⟨h1,h2⟩:=List.nodup_cons.1 this;exact List.nodup_cons.2 ⟨fun hm=>h1 (Y4.2 ⟨x,hm,rfl⟩),ih h2⟩
theorem keep_c {f:UB} {s:Sch} {ms:List (Option (List Int))} {x:Nat×Ob} (h1:f 1=some (vS s)) (h2:f 18=some (.var (xw 700 ms))) (h3: ∀n ks,ms[n]? =some (some ks)->f (700+n)=some (.mp (encM ks))):
 keepO f (inO (x::(1,vS s)::mobs 18 700 ms)) ((1,vS s)::mobs 18 700 ms):=
 ⟨⟨h1,rfl⟩,⟨h2,vP fun n ks h=>wT (wT (mobs_in h))⟩,uo h3⟩
theorem keep_b {f:UB} {s:Sch} {ms:List (Option (List Int))} {es:List (Value×Value)} {k:Nat} (h1:f 1=some (vS s)) (h29:f 29=some (.mp es)) (h2:f 18=some (.var ((xw 700 ms).set k (.mp 29)))) (h3: ∀n ks,ms[n]? =some (some ks)->f (700+n)=some (.mp (encM ks))):
 keepO f (inO ((1,vS s)::(29,.mp es)::(18,.var ((xw 700 ms).set k (.mp 29)))::yH 700 ms)) ((1,vS s)::(29,.mp es)::(18,.var ((xw 700 ms).set k (.mp 29)))::yH 700 ms):=
 ⟨⟨h1,rfl⟩,⟨h29,rfl⟩,⟨h2,closedL_set (a:= .mp 29) (by simp only [A.closed];exact wT inO_cons_l) _ _ (vP fun n ks h=>wT (wT (wT (inO_maps 700 h))))⟩,uo h3⟩
def fks (s:Sch) (i:Nat):List Fk:=(s.getD i default).foreigns
def ub (s:Sch) (p:List Int) (i:Nat):Bool:= !p.contains (i:Int)&&(fks s i).all fun f=>p.contains (byT s f.table)
def xn (s:Sch) (p:List Int):Int:=fidx (ub s p) (List.range s.length)
def yD (s:Sch):Nat->List Int
 | 0=>[]
 | n+1=>yD s n++[xn s (yD s n)]
theorem kX (s:Sch): ∀n,(yD s n).length=n
 | 0=>rfl
 | n+1=>by rw [yD,Yd,kX s n];rfl
def kZ (s:Sch):Bool:=(List.range s.length).all fun n=>decide (0<=xn s (yD s n))
def vZ (s:Sch):Int:=if kZ s then 0 else 7
def kY (s:Sch):List Int:=if kZ s then yD s s.length else []
def msA (s:Sch) (p:List Int):List (Option (List Int)):=(List.range s.length).map fun i:Nat=>if p.contains (i:Int) then none else some ((vC s (fks s i)).filter fun k=> !p.contains k)
theorem yA (s:Sch) (p:List Int):(msA s p).length=s.length:=by simp [msA]
theorem msA_nil (s:Sch):ms1 s s.length=msA s []:=by
 unfold ms1 msA;apply Uq;intro i hi;rw [if_pos (Zc hi)];have:((vC s (fks s i)).filter fun k=> !([]:List Int).contains k)=vC s (fks s i):=List.filter_eq_self.2 fun _ _=>rfl;rw [if_neg Zd,this];rfl
theorem fidx_map {α β:Type} (p:β->Bool) (g:α->β): ∀l:List α,fidx p (l.map g)=fidx (fun x=>p (g x)) l
 | []=>rfl
 | x::l=>by simp only [Yw,fidx,fidx_map p g l]
theorem fidx_congr {α:Type} {p q:α->Bool}: ∀l:List α,(∀x∈l,p x=q x)->fidx p l=fidx q l
 | [],_=>rfl
 | x::l,h=>by simp only [fidx,h x Zd,fidx_congr l fun y hy=>h y (Zu hy)]
theorem addK_mem (ks:List Int) (k x:Int):x∈addK ks k ↔ x∈ks\/x=k:=by
 unfold addK;by_cases h:ks.contains k=true
 ·rw [if_pos h];have:k∈ks:=Zc h;exact ⟨.inl,fun hx=>hx.elim id fun e=>e ▸ this⟩
 ·rw [if_neg h];simp
theorem addK_nodup {ks:List Int} (h:ks.Nodup) (k:Int):(addK ks k).Nodup:=by
 unfold addK;by_cases h2:ks.contains k=true
 ·rwa [if_pos h2]
 ·rw [if_neg h2];have:k ∉ ks:=Zc h2;exact List.nodup_append.2 ⟨h,List.nodup_cons.2 ⟨Zd,List.Pairwise.nil⟩,fun a ha b hb=>by simp at hb;subst hb;exact fun e=>this (e ▸ ha)⟩
theorem depsTo_mem (s:Sch) (l:List Fk) (x:Int):x∈vC s l ↔ ∃f∈l,byT s f.table=x:=by
 have: ∀(l:List Fk) (acc:List Int),x∈l.foldl (fun acc f=>addK acc (byT s f.table)) acc ↔ x∈acc\/ ∃f∈l,byT s f.table=x:=by
  intro l
  induction l with
  | nil=>intro acc;simp
  | cons f l ih=>intro acc;rw [List.foldl_cons,ih,addK_mem];simp [eq_comm,or_assoc]
 rw [vC,this];simp
theorem depsTo_nodup (s:Sch) (l:List Fk):(vC s l).Nodup:=by
 have: ∀(l:List Fk) (acc:List Int),acc.Nodup->(l.foldl (fun acc f=>addK acc (byT s f.table)) acc).Nodup:=by
  intro l
  induction l with
  | nil=>intro acc h;exact h
  | cons f l ih=>intro acc h;exact ih _ (addK_nodup h _)
 exact this l [] List.Pairwise.nil
theorem pick_msA (s:Sch) (p:List Int):fidx freeM (msA s p)=xn s p:=by
 rw [msA,fidx_map,xn];refine fidx_congr _ fun i _=>?_;rw [ub];by_cases h:p.contains (i:Int)=true
 ·rw [if_pos h,h];rfl
 ·have h2:p.contains (i:Int)=false:=Zc h;rw [if_neg h,h2];simp only [freeM,Uu,Yj];rw [Ud];simp only [beq_iff_eq,List.length_eq_zero_iff,List.filter_eq_nil_iff,YT,Up,Bool.not_eq_false];constructor
  ·intro hh f hf;exact hh _ ((depsTo_mem s _ _).2 ⟨f,hf,rfl⟩)
  ·intro hh k hk;obtain ⟨f,hf,rfl⟩:=(depsTo_mem s _ _).1 hk;exact hh f hf
def dropK (k:Int) (m:Option (List Int)):Option (List Int):=m.map (·.erase k)
def msJ (k:Int) (ms:List (Option (List Int))) (j:Nat):List (Option (List Int)):=(ms.take j).map (dropK k)++ms.drop j
theorem msJ_length (k:Int) (ms:List (Option (List Int))) (j:Nat):(msJ k ms j).length=ms.length:=by simp [msJ];omega
theorem msJ_get (k:Int) (ms:List (Option (List Int))) (j:Nat) (h:j<ms.length):(msJ k ms j)[j]? =ms[j]? :=by
 rw [msJ,List.getElem?_append_right Zs,List.getElem?_drop]
 congr 1
 simp;omega
theorem msJ_succ (k:Int) (ms:List (Option (List Int))) (j:Nat) (m:Option (List Int)) (h:j<ms.length) (hm:ms[j]? =some m):msJ k ms (j+1)=(msJ k ms j).set j (dropK k m):=by
 have hg:ms[j]=m:=by rw [List.getElem?_eq_getElem h] at hm;simpa using hm
 rw [msJ,msJ,U6 h,Ut h,hg,YC,List.set_append_right (h:=Zs)];have:j-(List.map (dropK k) (List.take j ms)).length=0:=Zs;rw [this];simp
theorem msJ_all (s:Sch) (p:List Int) (k:Int) (h0:0≤k):msJ k ((msA s p).set k.toNat none) s.length=msA s (p++[k]):=by
 have hl:((msA s p).set k.toNat none).length=s.length:=by rw [YD,yA]
 rw [msJ,<-hl,Yl,Ua,Yv];apply Uc;intro i;simp only [List.getElem?_map,List.getElem?_set,yA];by_cases hi:i<s.length
 ·have he:k.toNat=i ↔ k=(i:Int):=Za;have hg:(msA s p)[i]? =some (if p.contains (i:Int) then none else some ((vC s (fks s i)).filter fun k=> !p.contains k)):=by simp only [msA,List.getElem?_map];rw [List.getElem?_range hi];rfl
  have hg2:(msA s (p++[k]))[i]? =some (if (p++[k]).contains (i:Int) then none else some ((vC s (fks s i)).filter fun x=> !(p++[k]).contains x)):=by simp only [msA,List.getElem?_map];rw [List.getElem?_range hi];rfl
  rw [hg2,hg];by_cases hk:k=(i:Int)
  ·have hc:(p++[k]).contains (i:Int)=true:=Zu hk;rw [if_pos (he.2 hk),if_pos Za,hc];rfl
  ·have hc:(p++[k]).contains (i:Int)=p.contains (i:Int):=by rw [Ud];simp;exact fun e=>absurd e.symm hk
   rw [if_neg (fun e=>hk (he.1 e)),hc];by_cases hp:p.contains (i:Int)=true
   ·rw [if_pos hp,if_pos hp];rfl
   ·rw [if_neg hp,if_neg hp];simp only [Ub,dropK];rw [List.Nodup.erase_eq_filter ((depsTo_nodup s (fks s i)).filter _),List.filter_filter]
    congr 2
    apply List.filter_congr;intro x _;rw [Ud];simp [and_comm]
 ·have e1:(msA s p)[i]? =none:=List.getElem?_eq_none (by rw [yA];omega);have e2:(msA s (p++[k]))[i]? =none:=List.getElem?_eq_none (by rw [yA];omega);rw [e1,e2]
  split
  ·rw [if_neg Za];rfl
  ·rfl
theorem Zo {p P0:Prop} (zf_:P0) (h:P0->p:=by intro zf_;have:=Yb zf_;omega):p:=h zf_
theorem Zp {p P0:Prop} (zf_:P0) (h:P0->p:=by intro zf_;have:=Yc zf_;omega):p:=h zf_
theorem Xu {p:Prop} (h:p:=by first | rfl | exact jR (by omega)):p:=h
theorem XH {p:Prop} (h:p:=by simp only [zA,ends,ite_true,ite_false,reduceIte,Nat.reduceEqDiff,Nat.reduceLeDiff,Nat.reduceLT,Nat.reduceAdd,reduceCtorEq,num,boo,str,ints,aV,aTab,z7,aS,aT,aC,yd,zL,aFk,vT,yB];rfl):p:=h
theorem c_order (s:Sch) (hs:s.length≤6) (hf: ∀t∈s,t.foreigns.length≤1000) (hall: ∀t∈s,∀f∈t.foreigns,0≤byT s f.table):
 ACall Tryz.prog 86 [aS s] [] (.tup [ints (kY s),num (vZ s)]) []:=by
 refine zn mixed ttok Tryz.func86 Tryz.ntmps86 Tryz.results86 ?_;generalize hr:A.tup [ints (kY s),num (vZ s)]=R;refine Zn ?_;refine ⟨Za,?_⟩;refine u9 mixed ttok 22 [1,4,20,21] XH [] s.length (fun _=>True) (fun _=>[]) (fun n=>(1,vS s)::mobs 18 700 (ms1 s n)) trivial ?_ ?_
 ·refine Ya XA ?_ Zh;simp only [cst,Yv];refine keep_a rfl ?_ fun n ks h=>?_
  ·rw [ms1_zero,mapsA_none];rfl
  ·rw [ms1_zero,List.getElem?_replicate] at h;split at h<;>cases h
 intro I hI n hn hi;simp -implicitDefEqProofs only [cst,mobs,vS,Yv,↓zb,push_cast,simprocAttr,tt];refine za (fun h=>?_) fun h=>?_
 ·simp only [Yf] at h;have h':n<s.length:=Za;refine ⟨Zt,?_⟩;refine ⟨⟨Za,Za⟩,by rw [wg,wO];omega,?_⟩;have hml:n<(xw 700 (ms1 s n)).length:=by rw [wg,wO];omega
  rw [splice_set _ _ _ hml];have hlF:=hf _ (zm h');have hallF:=hall _ (zm h');generalize hF:(List.getD s n default).foreigns=F at hlF hallF;refine u9 mixed ttok 34 [1,4,5,20,21,22,32,33] XH [] F.length (fun _=>True) (fun _=>[])
   (fun k=>(1,vS s)::(29,.mp (encM (vC s (F.take k))))::(18,.var ((xw 700 (ms1 s n)).set n (.mp 29)))::yH 700 (ms1 s n)) trivial ?_ ?_
  ·refine (Weak.mpAny 29 rfl).trans (Ya Zh ?_ ?_)
   ·simp only [cst,Yv];exact keep_b rfl rfl rfl fun i ks hi=>by simp only [ends,ite_true,ite_false,reduceIte,Nat.reduceEqDiff,Nat.reduceLeDiff,Nat.reduceLT,Nat.reduceAdd,reduceCtorEq,num,boo,str,ints,aV,aTab,z7,aS,aT,aC,yd,zL,aFk,vT,yB,vS];rw [if_neg Za,if_neg Za,if_neg Za,if_neg Za,if_neg Za,if_neg Za,if_neg Za];exact yk 700 hi
   ·simp [cst,keepIn,qz (show (ms1 s n).length<=6 by rw [wO];exact hs)]
  intro J hJ k hk _;simp -implicitDefEqProofs only [cst,vS,Yv,↓zb,push_cast,simprocAttr,tt];refine za (fun g=>?_) fun g=>?_
  ·simp only [Yf] at g;have k':k<F.length:=Za;have hw:=zh k' Za;refine ⟨Zt,?_⟩;refine zf [[6],[0]] [] (c_find s (F.getD k default).table Za) ?_;refine Zg ?_;have hge:=hallF _ (zm k');refine za (fun h=>absurd h (Z0 (YN hge))) fun _=>?_;refine ⟨⟨Za,Za⟩,?_⟩;rw [List.getElem?_set_self hml];simp -implicitDefEqProofs only [if_neg (show¬0>byT s (F.getD k default).table by omega),mput_enc,↓zb,push_cast,simprocAttr,tt];refine vD hJ k rfl k' trivial (Ya (ZY hw) ?_ ?_)
   ·simp only [cst,Yv];exact keep_b rfl (Z5 (depsTo_succ s F k k')) rfl fun i ks hi=>by simp only [ends,ite_true,ite_false,reduceIte,Nat.reduceEqDiff,Nat.reduceLeDiff,Nat.reduceLT,Nat.reduceAdd,reduceCtorEq,num,boo,str,ints,aV,aTab,z7,aS,aT,aC,yd,zL,aFk,vT,yB,vS];rw [if_neg Za,if_neg Za,if_neg Za,if_neg Za,if_neg Za,if_neg Za];exact yk 700 hi
   ·simp [cst,keepIn,qz (show (ms1 s n).length<=6 by rw [wO];exact hs)]
  ·simp only [Ye] at g;obtain rfl:k=F.length:=Za;clear hJ;have hwn:=zh h' Za;rw [Yl];refine vD hI n rfl h' trivial ?_;refine (Ya (σ:=⟨[(22,.d (.lit (.int .i64 (n+1:Nat)))),(1,.ptr 1 0),(4,.vs 18 s.length),(20,.d (.sl 6 (zd rT s))),(21,.d (.lit (.int .i64 s.length)))],
    (1,vS s)::(29,.mp (encM (vC s F)))::(18,.var ((xw 700 (ms1 s n)).set n (.mp 29)))::yH 700 (ms1 s n)⟩) (Ze hwn) ?_ ?_).trans ?_
   ·exact keep_b rfl rfl rfl fun i ks hi=>by simp only [ends,ite_true,ite_false,reduceIte,Nat.reduceEqDiff,Nat.reduceLeDiff,Nat.reduceLT,Nat.reduceAdd,reduceCtorEq,num,boo,str,ints,aV,aTab,z7,aS,aT,aC,yd,zL,aFk,vT,yB];rw [if_neg Za,if_neg Za,if_neg Za];exact yk 700 hi
   ·simp [keepIn,qz (show (ms1 s n).length<=6 by rw [wO];exact hs)]
   refine (Weak.ren 29 (700+n) Za Za ?_).trans ?_
   ·rw [yl Za,yl Za,yl Za,j6,if_pos Za,show 700+n-700=n from Za,show (ms1 s n)[n]? =some none by simp [ms1,h']]
   have hrn: ∀i,i<(ms1 s n).length->zM 29 (700+n) (700+i)=700+i:=fun i _=>XM;have hset:(xw 700 (ms1 s n)).set n (.mp (700+n))=xw 700 (ms1 s (n+1)):=by
    rw [<-ms1_succ s n h',<-mapsA_set];rfl
   simp only [renT,renO,A.ren,Ob.ren,renL_set,renL_maps hrn,renO_maps (show 29<700 from Za),hF,vS,renL];have e1:zM 29 (700+n) 29=700+n:=by simp [zM]
   have e2:zM 29 (700+n) 1=1:=by simp [zM]
   have e3:zM 29 (700+n) 18=18:=by simp [zM]
   rw [e1,e2,e3,hset];refine Ya XA ?_ ?_
   ·simp only [cst,Yv];refine keep_a rfl (by simp only [ends,ite_true,ite_false,reduceIte,Nat.reduceEqDiff,Nat.reduceLeDiff,Nat.reduceLT,Nat.reduceAdd,reduceCtorEq,num,boo,str,ints,aV,aTab,z7,aS,aT,aC,yd,zL,aFk,vT,yB];rw [if_neg (by omega)]) fun i ks hi=>?_;rw [<-ms1_succ s n h',List.getElem?_set] at hi;simp only [ends,ite_true,ite_false,reduceIte,Nat.reduceEqDiff,Nat.reduceLeDiff,Nat.reduceLT,Nat.reduceAdd,reduceCtorEq,num,boo,str,ints,aV,aTab,z7,aS,aT,aC,yd,zL,aFk,vT,yB];rw [if_neg Za];by_cases hin:n=i
    ·subst hin;rw [if_pos rfl,wO,if_pos h',hF] at hi;rw [if_pos rfl];simp only [Option.some.injEq] at hi;rw [hi]
    ·rw [if_neg hin] at hi;rw [if_neg Za,if_neg Za];exact yk 700 hi
   ·refine ⟨.inl Xu,.inl Xu,.inl Xu,qz (by rw [wO];exact hs)⟩
 simp only [Ye] at h;obtain rfl:n=s.length:=Za;clear hI hi hn h I;rw [msA_nil];refine u9 mixed ttok 57 [1,4,55,56] XH [] s.length (fun n=> ∀i,i<n->0<=xn s (yD s i)) (fun n=>[(11,.vec 500 n)])
  (fun n=>(500,.vec 3 1 (zd rI (yD s n)) 0)::(1,vS s)::mobs 18 700 (msA s (yD s n))) (fun i h=>absurd h (Yu _)) ?_ ?_
 ·refine (YV 11 500 3 1 rfl (by simp [lookO,yB])).trans (Ya XA ?_ ?_)
  ·simp only [cst,Yv];refine ⟨⟨rfl,rfl⟩,keep_c rfl rfl fun i ks hi=>?_⟩;simp only [ends,ite_true,ite_false,reduceIte,Nat.reduceEqDiff,Nat.reduceLeDiff,Nat.reduceLT,Nat.reduceAdd,reduceCtorEq,num,boo,str,ints,aV,aTab,z7,aS,aT,aC,yd,zL,aFk,vT,yB];rw [if_neg Za,if_neg Za,if_neg Za];exact yk 700 hi
  ·simp [cst,keepIn,qz (show (msA s []).length<=6 by rw [yA];exact hs)]
 intro I hI n hn hi;have hpl:=kX s n;simp -implicitDefEqProofs only [cst,mobs,vS,Yv,YL,Ue,↓zb,push_cast,simprocAttr,tt];refine za (fun h=>?_) fun h=>?_
 ·simp only [Yf] at h;have h':n<s.length:=Za;refine callx_same [[],[]] rM rfl (c_idxM (msA s (yD s n)) (by rw [yA];exact hs)) rfl Zd (by simp only [yA];rfl) rfl ?_ ?_ ?_ ?_ ?_
  ·refine ⟨⟨?_,vP fun i ks hi=>mobs_in hi⟩,hosL_maps fun i ks hi=>?_⟩
   ·simp only [Ob.ren];rw [renL_maps (b':=700) fun i _=>rM_at i];rfl
   ·rw [rM_at,yl Za,yl Za,yl Za];exact yk 700 hi
  ·exact mobs_big (by rw [yA];exact hs)
  ·exact mobs_nodup (by rw [yA];exact hs)
  ·exact mobs_nodup0 (by rw [yA];exact hs)
  rw [pick_msA];refine Zg ?_;have hM6:(msA s (yD s n)).length<=6:=by rw [yA];exact hs
  refine za (fun hneg=>?_) fun hneg=>?_
  ·have hneg': ¬0≤xn s (yD s n):=Zp hneg;have hno:kZ s=false:=ww h' (YO hneg');have hR:A.tup [ints [],num 7]=R:=by rw [<-hr,kY,vZ,hno];rfl
   subst hR;refine zt [[1],[0]] rfl trivial ⟨trivial,trivial,trivial⟩ rfl rfl trivial ?_;exact ⟨.inl rfl,.inl rfl,.inl rfl,qz hM6⟩
  have hge:0<=xn s (yD s n):=Zo hneg;have hlt:xn s (yD s n)<s.length:=by have:=wh (ub s (yD s n)) (List.range s.length);rw [List.length_range] at this;exact this
  have hinv: ∀i,i<n+1->0<=xn s (yD s i):=fun i h2=>if h3:i=n then by rw [h3];exact hge else hi i Za
  have hpk:yD s (n+1)=yD s n++[xn s (yD s n)]:=rfl;refine ⟨⟨hpl.symm,Za⟩,⟨hge,hlt⟩,by rw [wg,yA];omega,?_⟩;have hfin:=msJ_all s (yD s n) (xn s (yD s n)) hge;rw [splice_set _ _ _ (by rw [wg,yA];omega),show A.d (D.lit (Value.map none))=gA (700+(xn s (yD s n)).toNat) none from rfl,mapsA_set];have hq: ∀(i:Nat) (ks:List Int),((msA s (yD s n)).set (xn s (yD s n)).toNat none)[i]? =some (some ks)->(msA s (yD s n))[i]? =some (some ks):=by
   intro i ks hq;rw [List.getElem?_set] at hq
   split at hq
   ·split at hq<;>cases hq
   ·exact hq
  have hQ6:((msA s (yD s n)).set (xn s (yD s n)).toNat none).length=s.length:=by rw [YD,yA]
  rw [<-hpk] at hfin;generalize hms:msA s (yD s n)=ms at hq hM6;rw [hms] at hQ6 hfin;generalize hQ:ms.set (xn s (yD s n)).toNat none=Q at hq hQ6 hfin;generalize hk:xn s (yD s n)=k at hge hlt;rw [hk] at hpk hfin hQ;refine u9 mixed ttok 72 [1,4,11,12,55,56,57,70,71] XH [] s.length (fun _=>True) (fun _=>[])
   (fun j=>(500,.vec 3 1 (zd rI (yD s (n+1))) 0)::(1,vS s)::mobs 18 700 (msJ k Q j)) trivial ?_ ?_
  ·refine Ya XA ?_ ?_
   ·simp only [cst,Yv];refine ⟨⟨by rw [hpk,<-rowsI_snoc];rfl,rfl⟩,keep_c rfl rfl fun i ks hi=>?_⟩;simp only [ends,ite_true,ite_false,reduceIte,Nat.reduceEqDiff,Nat.reduceLeDiff,Nat.reduceLT,Nat.reduceAdd,reduceCtorEq,num,boo,str,ints,aV,aTab,z7,aS,aT,aC,yd,zL,aFk,vT,yB]
    repeat rw [if_neg Za]
    exact yk 700 (hq i ks hi)
   ·simp [cst,keepIn,qz hM6]
  intro J hJ j hj _;simp -implicitDefEqProofs only [cst,mobs,vS,Yv,YL,Ue,↓zb,push_cast,simprocAttr,tt];have hw1:=fun (j':j<s.length)=>zh j' Za;refine za (fun g=>?_) fun g=>?_
  ·simp only [Yf] at g;have j':j<s.length:=Za;have hw:=zh j' Za;refine ⟨Zt,?_⟩;have hQj:Q[j]? =some (Q.getD j default):=by rw [Yg,List.getElem?_eq_getElem Za];rfl
   generalize hm:Q.getD j default=m at hQj;have hJs:=msJ_succ k Q j m Za hQj;have hJj:(msJ k Q j)[j]? =some m:=by rw [msJ_get k Q j Za];exact hQj
   have hJl:=msJ_length k Q j;have hJ6:(msJ k Q j).length<=6:=Za;have hset:xw 700 (msJ k Q (j+1))=xw 700 (msJ k Q j):=by
    rw [hJs,<-mapsA_set];apply Uc;intro i;rw [List.getElem?_set,wg]
    split
    ·rename_i he;subst he;rw [if_pos Za,jl,hJj];cases m<;>rfl
    ·rfl
   have hoth: ∀i ks,i≠j->(msJ k Q (j+1))[i]? =some (some ks)->(msJ k Q j)[i]? =some (some ks):=fun i ks hij hi=>by
    rw [hJs,List.getElem?_set,if_neg (fun e=>hij e.symm)] at hi;exact hi
   have hown:(msJ k Q (j+1))[j]? =some (dropK k m):=by rw [hJs,List.getElem?_set,if_pos rfl,if_pos Za]
   rw [jl,hJj];cases m with
   | none=>
     refine XN ?_;refine vD hJ j rfl j' trivial (Ya (by simp [cst,mobs,hw,ends]) ?_ ?_)
     ·simp only [cst,Yv];refine ⟨⟨rfl,rfl⟩,keep_c rfl (Z5 hset) fun i ks hi=>?_⟩;simp only [ends,ite_true,ite_false,reduceIte,Nat.reduceEqDiff,Nat.reduceLeDiff,Nat.reduceLT,Nat.reduceAdd,reduceCtorEq,num,boo,str,ints,aV,aTab,z7,aS,aT,aC,yd,zL,aFk,vT,yB]
      repeat rw [if_neg Za]
      by_cases hij:i=j
      ·subst hij;rw [hown] at hi;cases hi
      ·exact yk 700 (hoth i ks hij hi)
     ·simp [cst,keepIn,qz hJ6]
   | some ks0=>
     have n500:(500=700+j)=False:=eq_false Za;have n1:(1=700+j)=False:=eq_false Za;have n18:(18=700+j)=False:=eq_false Za;simp -implicitDefEqProofs only [gA,Ub,yk 700 hJj,n500,n1,n18,mdel_enc,↓zb,push_cast,simprocAttr,tt];refine vD hJ j rfl j' trivial (Ya (by simp [cst,mobs,hw,ends]) ?_ ?_)
     ·simp only [cst,Yv];refine ⟨⟨by rw [yl (by omega)];rfl,rfl⟩,keep_c (by rw [yl (by omega)];rfl) (by rw [hset,yl (by omega)];rfl) fun i ks hi=>?_⟩;by_cases hij:i=j
      ·subst hij;rw [hown] at hi;simp only [dropK,Ub,Option.some.injEq] at hi;subst hi;simp [lookO]
      ·simp only [ends,ite_true,ite_false,reduceIte,Nat.reduceEqDiff,Nat.reduceLeDiff,Nat.reduceLT,Nat.reduceAdd,reduceCtorEq,num,boo,str,ints,aV,aTab,z7,aS,aT,aC,yd,zL,aFk,vT,yB]
       repeat rw [if_neg Za]
       exact yk 700 (hoth i ks hij hi)
     ·exact ⟨.inl Xu,.inl Xu,.inl Xu,.inl Xu,qz hJ6⟩
  ·simp only [Ye] at g;obtain rfl:j=s.length:=Za;rw [hfin];clear hJ J;have hwn:=zh h' Za;refine vD hI n rfl h' hinv (Ya (by simp [cst,mobs,hwn,hpl,ends]) ?_ ?_)
   ·simp only [cst,Yv];refine ⟨⟨rfl,rfl⟩,keep_c rfl rfl fun i ks hi=>?_⟩;simp only [ends,ite_true,ite_false,reduceIte,Nat.reduceEqDiff,Nat.reduceLeDiff,Nat.reduceLT,Nat.reduceAdd,reduceCtorEq,num,boo,str,ints,aV,aTab,z7,aS,aT,aC,yd,zL,aFk,vT,yB]
    repeat rw [if_neg Za]
    exact yk 700 hi
   ·exact ⟨.inl rfl,.inl rfl,.inl rfl,qz (by rw [yA];exact hs)⟩
 ·simp only [Ye] at h;obtain rfl:n=s.length:=Za;have hok:kZ s=true:=all_range.2 fun i hi2=>YN (hi i hi2);have hR:A.tup [ints (yD s s.length),num 0]=R:=by rw [<-hr,kY,vZ,hok];rfl
  subst hR;refine zt [[1],[0]] rfl trivial ⟨(zc rI (yD s s.length)).trans hpl |>.symm,trivial,trivial⟩ rfl rfl trivial ?_;exact ⟨.inl rfl,.inl rfl,.inl rfl,.inl rfl,qz (by rw [yA];exact hs)⟩
end
section
attribute [local simp, local push_cast] Wq yd zL aFk vT
def yT (s:Sch) (i:Nat):Int:=
 if !uV (s.getD i default).name then 3 else if uT (byT s (s.getD i default).name)<i then 5 else xz (s.getD i default)
def xk (s:Sch) (t:Tbl):Int:=ferr (refM s t) t.foreigns
def wz (s:Sch):Int:=
 if (s.length:Int)>6 then 8
 else if ui (yT s) s.length≠0 then ui (yT s) s.length
 else if ferr (xk s) s≠0 then ferr (xk s) s else vZ s
structure SmallS (s:Sch):Prop where
 len:s.length<=1000
 tab: ∀t∈s,SmallT t
theorem tableM_keys {t:Tbl} (h:xz t=0):xJ t=0:=by
 by_cases hk:xJ t=0
 ·exact hk
 ·exfalso
  revert h
  simp only [xz]
  repeat' split
  all_goals first | (intro h;omega) | (intro h;exact absurd h (by assumption))
theorem keysM_ok {t:Tbl} (h:xJ t=0):yZ t.columns.length t.primary=true/\t.primary.any (uJ t)=false/\(yz t).all (yZ t.columns.length)=true:=by
 unfold xJ at h
 split at h
 ·rename_i h1
  split at h
  ·cases h
  ·rename_i h2
   split at h
   ·rename_i h3;exact ⟨h1,Zc h2,h3⟩
   ·cases h
 ·cases h
theorem table_prim {t:Tbl} (h:xz t=0): ∀k∈t.primary,inC t k:=okKey_in (keysM_ok (tableM_keys h)).1
theorem table_fors {t:Tbl} (h:xz t=0): ∀f∈t.foreigns,∀k∈f.columns,inC t k:=fun f hf=>
 okKey_in (YT.1 (keysM_ok (tableM_keys h)).2.2 f.columns (by simp only [yz,Yz,Y4];exact .inr ⟨f,hf,rfl⟩))
theorem tabErr_table {s:Sch} {i:Nat} (h:yT s i=0):xz (s.getD i default)=0:=by
 unfold yT at h
 split at h
 ·cases h
 ·split at h
  ·cases h
  ·exact h
theorem wv {α:Type} {f:α->Int}: ∀{l:List α},ferr f l=0-> ∀x∈l,f x=0
 | [],_,x,hx=>by simp at hx
 | y::l,h,x,hx=>by
   simp only [ferr] at h
   split at h
   ·rename_i h0;rcases YJ.1 hx with rfl | hx
    ·exact h0
    ·exact wv h x hx
   ·rename_i h0;exact absurd h h0
theorem refM_at {s:Sch} {t:Tbl} {f:Fk} (h:refM s t f=0):0<=byT s f.table:=by
 unfold refM at h
 split at h
 ·cases h
 ·omega
theorem u7 {α:Type} [Inhabited α] {l:List α} {x:α} (h:x∈l): ∃i,i<l.length/\l.getD i default=x:=by
 obtain ⟨i,hi,rfl⟩:=Ur h;exact ⟨i,hi,by rw [Yg,List.getElem?_eq_getElem hi];rfl⟩
theorem c_svalid (s:Sch) (hs:SmallS s):ACall Tryz.prog 44 [aS s] [] (num (wz s)) []:=by
 refine zn mixed ttok Tryz.func44 Tryz.ntmps44 Tryz.results44 ?_;generalize hr:num (wz s)=R;have hl:=hs.len;refine Zn ?_;refine za (fun h0=>?_) fun h0=>?_
 ·exact zk trivial (by rw [<-hr,wz,if_pos (Yc h0)];rfl) Zb
 have h0': ¬(s.length:Int)>6:=Yb h0;have hM:wz s=if ui (yT s) s.length≠0 then ui (yT s) s.length
  else if ferr (xk s) s≠0 then ferr (xk s) s else vZ s:=by rw [wz,if_neg h0']
 refine zp mixed ttok 22 [1,20,21] [1] Zv Zw s.length (fun n=> ∀i,i<n->yT s i=0) (fun _=>[]) (fun _=>[]) (fun i h=>absurd h (Yu _)) ?_ ?_
 ·exact Ya Zh Zh Zh
 intro I hI n hn hi;refine Zy ?_;refine za (fun h=>?_) fun h=>?_
 ·simp only [Yf] at h;have h':n<s.length:=Za;have hw:=zh h' Za;have hE:yT s n≠0->num (yT s n)=R:=fun hne=>by
   have:=kK h' hi hne;rw [<-hr,hM,this,if_pos hne]
  have hg:s.getD n default∈s:=zm h';refine ⟨Zt,?_⟩;refine zf [[0]] [] (c_name (s.getD n default).name) ?_;refine Zg ?_;refine za (fun g1=>?_) fun g1=>?_
  ·have hc:yT s n=3:=if_pos g1;exact zk trivial (by rw [<-hE (Z0 hc),hc];rfl) Zb
  refine zf [[6],[0]] [] (c_find s (s.getD n default).name Za) ?_;refine Zg ?_;refine za (fun g2=>?_) fun g2=>?_
  ·have hc:yT s n=5:=by rw [yT,if_neg (Z0 g1)];exact if_pos (Yc g2)
   exact zk trivial (by rw [<-hE (Z0 hc),hc];rfl) Zb
  have hcB:yT s n=xz (s.getD n default):=by rw [yT,if_neg (Z0 g1)];exact if_neg (Yb g2)
  refine zf [[0,3,1,1,2,6]] [] (c_table (s.getD n default) (hs.tab _ hg)) ?_;refine Zg ?_;refine za (fun g3=>?_) fun g3=>?_
  ·have g3':yT s n≠0:=by rw [hcB];simpa using g3
   exact zk trivial (Zq (hE g3') hcB) Zb
  ·have g3':yT s n=0:=by rw [hcB];simpa using g3
   exact zo hI n rfl h' (fun i h2=>if h3:i=n then by rw [h3];exact g3' else hi i Za) (Ze hw) (Ze hw) (Ze hw) (Ze hw)
 simp only [Ye] at h;obtain rfl:n=s.length:=Za;have hM2:wz s=if ferr (xk s) s≠0 then ferr (xk s) s else vZ s:=by rw [hM,ur hi,if_neg (by decide)]
 have htab: ∀t∈s,xz t=0:=fun t ht=>by
  obtain ⟨i,h1,h2⟩:=u7 ht;rw [<-h2];exact tabErr_table (hi i h1)
 clear hI hM h hi hn I;refine zp mixed ttok 50 [1,48,49] [1] Zv Zw s.length (fun n=> ∀i,i<n->xk s (s.getD i default)=0) (fun _=>[]) (fun _=>[]) (fun i h=>absurd h (Yu _)) ?_ ?_
 ·exact Ya Zh Zh Zh
 intro I hI n hn hi;refine Zy ?_;refine za (fun h=>?_) fun h=>?_
 ·simp only [Yf] at h;have h':n<s.length:=Za;have hw:=zh h' Za;have hg:s.getD n default∈s:=zm h';have hE:xk s (s.getD n default)≠0->num (xk s (s.getD n default))=R:=fun hne=>by
   have:=xK (xk s) s n h' hi hne;rw [<-hr,hM2,this,if_pos hne]
  refine ⟨Zt,?_⟩;generalize hu:s.getD n default=u at hg hE;have hT:=hs.tab u hg;have hTf:=hT.fors;refine zp mixed ttok 57 [1,9,48,49,50,55,56] [1,9] Zv Zw u.foreigns.length (fun k=> ∀i,i<k->refM s u (u.foreigns.getD i default)=0) (fun _=>[]) (fun _=>[]) (fun i h=>absurd h (Yu _)) ?_ ?_
  ·exact Ya Zh Zh Zh
  intro J hJ k hk hki;refine Zy ?_;refine za (fun g=>?_) fun g=>?_
  ·simp only [Yf] at g;have k':k<u.foreigns.length:=Za;have hwk:=zh k' Za;have hfm:u.foreigns.getD k default∈u.foreigns:=zm k';refine ⟨Zt,?_⟩;refine zf [[6],[0,3,1,1,2,6],[1,0]] [] (c_reference s u (u.foreigns.getD k default) hl (hT.forss _ hfm) (table_fors (htab u hg) _ hfm) (fun v hv=>table_prim (htab v hv))) ?_;refine Zg ?_;refine za (fun g3=>?_) fun g3=>?_
   ·have g3':refM s u (u.foreigns.getD k default)≠0:=Zc g3;have hc:xk s u=refM s u (u.foreigns.getD k default):=xK (refM s u) u.foreigns k k' hki g3';exact zk trivial (by rw [<-hE (by rw [hc];exact g3'),hc];rfl) Zb
   ·have g3':refM s u (u.foreigns.getD k default)=0:=Zc g3;exact zo hJ k rfl k' (fun i h2=>if h3:i=k then by rw [h3];exact g3' else hki i Za) (Ze hwk) (Ze hwk) (Ze hwk) (Ze hwk)
  ·simp only [Ye] at g;obtain rfl:k=u.foreigns.length:=Za;have hz:xk s u=0:=yJ (refM s u) u.foreigns hki;exact zo hI n rfl h' (fun i h2=>if h3:i=n then by rw [h3,hu];exact hz else hi i Za) (Ze hw) (Ze hw) (Ze hw) (Ze hw)
 simp only [Ye] at h;obtain rfl:n=s.length:=Za;clear hI;have hz:ferr (xk s) s=0:=yJ (xk s) s hi;have hall: ∀t∈s,∀f∈t.foreigns,0<=byT s f.table:=fun t ht f hf=>refM_at (wv (wv hz t ht) f hf);refine zf [[6]] [] (c_order s Za (fun t ht=>(hs.tab t ht).fors) hall) ?_;refine Zg ?_;exact zk trivial (by rw [<-hr,hM2,if_neg (Z0 hz)];rfl) Zb
end
end Go.Proofs.YtnmibokjpedkiaaGreatDoor
