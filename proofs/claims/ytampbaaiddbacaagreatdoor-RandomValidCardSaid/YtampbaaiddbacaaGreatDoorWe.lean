/- What random makes of a tape is valid, of its types, and not too large: a proof over an abstract machine of our own (part We) -/
import Derived.Test.YtampbaaiddbacaaGreatDoorWd
import Derived.Test.YtampbaaiddbacaaGreatDoorW0
import Derived.Test.YtampbaaiddbacaaGreatDoorLe
set_option maxRecDepth 100000
set_option maxHeartbeats 4000000
set_option linter.all false
namespace Go.Proofs.YtampbaaiddbacaaGreatDoor
section
open Go.Am
attribute [local simp, local push_cast] num boo str ints aV aTab zA aS aT aC aRow rRow rTab vO fO zV rB vT
def vH (T:Tbl) (k:Int) (n c:Nat) (v:Val):List Vio:=
 if badV (T.columns.getD c default) v=true then [⟨2,k,c,n,0⟩]
 else if ((v.kind==0)&&(!(T.columns.getD c default).nullable || T.primary.contains (c:Int)))=true then [⟨3,k,c,n,0⟩] else []
def yM (T:Tbl) (k:Int) (n:Nat):List Val->Nat->List Vio
 | [],_=>[]
 | v::r,c=>vH T k n c v++yM T k n r (c+1)
def rowVio (T:Tbl) (k:Int) (n:Nat) (r:Row):List Vio:=if (r.length:Int)≠T.columns.length then [⟨1,k,0,n,0⟩] else yM T k n r 0
def yr (T:Tbl) (k:Int):List Row->Nat->List Vio
 | [],_=>[]
 | r::rs,n=>rowVio T k n r++yr T k rs (n+1)
theorem cellVio_len (T:Tbl) (k:Int) (n c:Nat) (v:Val):(vH T k n c v).length<=1:=by
 unfold vH
 repeat' split
 all_goals simp
theorem qX (T:Tbl) (k:Int) (n:Nat): ∀(r:List Val) (c:Nat),(yM T k n r c).length<=r.length
 | [],_=>by simp [yM]
 | v::r,c=>by have:=cellVio_len T k n c v;have:=qX T k n r (c+1);simp [yM];omega
theorem rowVio_len (T:Tbl) (k:Int) (n:Nat) (r:Row):(rowVio T k n r).length<=r.length+1:=by
 unfold rowVio;split
 ·simp
 ·have:=qX T k n r 0;omega
theorem rowsVio_len (T:Tbl) (k:Int): ∀(rs:List Row) (n:Nat),(∀r∈rs,r.length<=1000)->(yr T k rs n).length<=rs.length * 1001
 | [],_,_=>by simp [yr]
 | r::rs,n,h=>by
   have h1:=rowVio_len T k n r
   have h2:=h r (by simp)
   have h3:=rowsVio_len T k rs (n+1) (fun x hx=>h x (by simp [hx]))
   simp [yr];omega
def R5 (s:Sch) (i:Inst) (b:List Bool) (k:Nat) (T:Tbl) (rows:List Row) (x:Nat×List Vio):SL:=
 ⟨[(26,.d (.lit (.int .i64 x.1))),(25,.d (.lit (.int .i64 rows.length))),(24,.d (.sl 1 (ze rRow rows))),(4,.ptr 4 0),(0,.ptr 1000 0),(1,num k)],
  [(4,vT T),(1000,fO s i (.d (.sl 1 (ze rB b))) x.2.length),(1001,vO x.2)]⟩
def C5 (s:Sch) (i:Inst) (b:List Bool) (k:Nat) (T:Tbl) (rows:List Row) (n:Nat) (r:Row) (x:Nat×List Vio):SL:=
 ⟨[(43,.d (.lit (.int .i64 x.1))),(42,.d (.lit (.int .i64 r.length))),(41,.d (.sl 3 (ze rV r))),(5,num n),(26,.d (.lit (.int .i64 n))),(25,.d (.lit (.int .i64 rows.length))),(24,.d (.sl 1 (ze rRow rows))),(4,.ptr 4 0),(0,.ptr 1000 0),(1,num k)],
  [(4,vT T),(1000,fO s i (.d (.sl 1 (ze rB b))) x.2.length),(1001,vO x.2)]⟩
theorem c_rows (s:Sch) (i:Inst) (b:List Bool) (out:List Vio) (k:Nat) (hks:k<s.length) (hki:k<i.length) (hl:(i.getD k default).length≤1000) (hrl: ∀r∈i.getD k default,r.length≤1000)
 (hpl:(s.getD k default).primary.length<=1000) (ho:out.length<=2000000000000) (V:List Vio) (hV:yr (s.getD k default) k (i.getD k default) 0=V):
 ACall Tryz.prog 125 [.ptr 1000 0,num k] [(1000,fO s i (.d (.sl 1 (ze rB b))) out.length),(1001,vO out)] (.tup [])
  [(1000,fO s i (.d (.sl 1 (ze rB b))) (out++V).length),(1001,vO (out++V))]:=by
 refine zp mixed ttok Tryz.func125 Tryz.ntmps125 Tryz.results125 ?_
 simp -implicitDefEqProofs only [argT,↓zb,push_cast,simprocAttr,tte]
 refine ⟨by omega,by omega,?_⟩
 generalize s.getD k default=T at hpl hV ⊢
 generalize i.getD k default=rows at hl hrl hV ⊢
 refine yc mixed ttok (fun x:Nat×List Vio=>R5 s i b k T rows x) (fun x=>rows.length-x.1)
  (fun x=>x.1<=rows.length/\x.2++yr T k (rows.drop x.1) x.1=out++V/\x.2.length<=out.length+1001 * x.1) (0,out) ⟨Nat.zero_le _,by rw [<-hV];rfl,by simp⟩ ?_ ?_
 ·exact Weak.keepL (by simp [R5,ends]) (by simp [R5,ends]) (by simp [R5,ends])
 rintro I hI ⟨n,o2⟩ ⟨hn,hi,hol⟩
 simp only at hn hi hol
 simp -implicitDefEqProofs only [R5,↓zb,push_cast,simprocAttr,tte]
 refine za (fun h=>?_) fun h=>?_
 rotate_left
 ·simp only [decide_eq_false_iff_not] at h
  obtain rfl:n=rows.length:=by omega
  have he:out++V=o2:=by rw [<-hi,List.drop_length];simp [yr]
  rw [he]
  refine ret_as trivial rfl ?_ ?_
  ·simp [ends]
  ·simp [ends]
 simp only [decide_eq_true_eq] at h
 have h':n<rows.length:=by omega
 have hw:=zj h' (by omega)
 rw [zR rows n h',yr] at hi
 have hrn:=hrl _ (zi h')
 refine ⟨(by first | omega | trivial | (refine ⟨?_,?_⟩<;>first | omega | trivial | (refine ⟨?_,?_⟩<;>first | omega | trivial | (refine ⟨?_,?_⟩<;>first | omega | trivial | rfl)))),?_⟩
 generalize rows.getD n default=r at hi hrn ⊢
 refine za (fun h1=>?_) fun h1=>?_
 ·have h1':(r.length:Int)≠T.columns.length:=by simpa using h1
  rw [rowVio,if_pos h1'] at hi
  refine zd [[],[],[],[],[],[]] [(1000,1000),(1001,1001)] (gb s i b o2 1 k 0 n 0 (by omega)) ?_
  simp -implicitDefEqProofs only [↓zb,push_cast,simprocAttr,tte]
  exact zw hI (n+1,o2++[⟨1,k,0,n,0⟩]) ⟨h',by simpa using hi,by simp;omega⟩ (by show rows.length-(n+1)<rows.length-n;omega) (Weak.keepL (by simp [R5,hw,ends]) (by simp [R5,ends]) (by simp [R5,ends]))
 have h1': ¬(r.length:Int)≠T.columns.length:=by simpa using h1
 have hrc:r.length=T.columns.length:=by omega
 rw [rowVio,if_neg h1'] at hi
 refine yc mixed ttok (fun x:Nat×List Vio=>C5 s i b k T rows n r x) (fun x=>r.length-x.1)
  (fun x=>x.1<=r.length/\x.2++(yM T k n (r.drop x.1) x.1++yr T k (rows.drop (n+1)) (n+1))=out++V/\x.2.length<=o2.length+x.1) (0,o2) ⟨Nat.zero_le _,hi,Nat.le_refl _⟩ ?_ ?_
 ·exact Weak.keepL (by simp [C5,ends]) (by simp [C5,ends]) (by simp [C5,ends])
 rintro J hJ ⟨c,o3⟩ ⟨hc,hj,hol3⟩
 simp only at hc hj hol3
 simp -implicitDefEqProofs only [C5,↓zb,push_cast,simprocAttr,tte]
 refine za (fun g=>?_) fun g=>?_
 rotate_left
 ·simp only [decide_eq_false_iff_not] at g
  obtain rfl:c=r.length:=by omega
  rw [List.drop_length,yM,List.nil_append] at hj
  exact zw hI (n+1,o3) ⟨h',hj,by simp only;omega⟩ (by show rows.length-(n+1)<rows.length-n;omega) (Weak.keepL (by simp [R5,hw,ends]) (by simp [R5,ends]) (by simp [R5,ends]))
 simp only [decide_eq_true_eq] at g
 have g':c<r.length:=by omega
 have hwc:=zj g' (by omega)
 rw [zR r c g',yM,List.append_assoc] at hj
 refine ⟨(by first | omega | trivial | (refine ⟨?_,?_⟩<;>first | omega | trivial | (refine ⟨?_,?_⟩<;>first | omega | trivial | (refine ⟨?_,?_⟩<;>first | omega | trivial | rfl)))),?_⟩
 generalize r.getD c default=v at hj ⊢
 refine zd [[0,0,0]] [] (wh v) ?_
 simp -implicitDefEqProofs only [↓zb,push_cast,simprocAttr,tte]
 have hcT:c<T.columns.length:=by omega
 have hcV:vH T k n c v=if badV (T.columns.getD c default) v=true then [⟨2,k,c,n,0⟩]
  else if ((v.kind==0)&&(!(T.columns.getD c default).nullable || T.primary.contains (c:Int)))=true then [⟨3,k,c,n,0⟩] else []:=rfl
 rw [hcV] at hj
 clear hcV
 generalize hcol:T.columns.getD c default=col at hj ⊢
 refine za (fun v1=>?_) fun v1=>?_
 ·have hb:badV col v=true:=by rw [badV,v1,Bool.true_or]
  rw [if_pos hb] at hj
  refine ⟨zg (by kernel_rfl),?_⟩
  refine zd [[],[],[],[],[],[]] [(1000,1000),(1001,1001)] (gb s i b o3 2 k c n 0 (by omega)) ?_
  simp -implicitDefEqProofs only [↓zb,push_cast,simprocAttr,tte]
  exact zw hJ (c+1,o3++[⟨2,k,c,n,0⟩]) ⟨g',by simpa using hj,by simp;omega⟩ (by show r.length-(c+1)<r.length-c;omega) (Weak.keepL (by simp [C5,hwc,ends]) (by simp [C5,ends]) (by simp [C5,ends]))
 refine za (fun v2=>?_) fun v2=>?_
 ·refine ⟨by omega,zg (by kernel_rfl),?_⟩
  refine za (fun v3=>?_) fun v3=>?_
  ·have hb:badV col v=true:=by rw [badV,v2,v3];simp
   rw [if_pos hb] at hj
   refine zd [[],[],[],[],[],[]] [(1000,1000),(1001,1001)] (gb s i b o3 2 k c n 0 (by omega)) ?_
   simp -implicitDefEqProofs only [↓zb,push_cast,simprocAttr,tte]
   exact zw hJ (c+1,o3++[⟨2,k,c,n,0⟩]) ⟨g',by simpa using hj,by simp;omega⟩ (by show r.length-(c+1)<r.length-c;omega) (Weak.keepL (by simp [C5,hwc,ends]) (by simp [C5,ends]) (by simp [C5,ends]))
  ·have hb: ¬badV col v=true:=by rw [badV,v1,v3];simp
   rw [if_neg hb] at hj
   refine za (fun w=>?_) fun w=>?_
   ·exfalso
    rw [beq_iff_eq] at w
    rw [w] at v2
    exact absurd v2 (by decide)
   ·rw [if_neg (by rw [w];simp)] at hj
    exact zw hJ (c+1,o3) ⟨g',by simpa using hj,by simp only;omega⟩ (by show r.length-(c+1)<r.length-c;omega) (Weak.keepL (by simp [C5,hwc,ends]) (by simp [C5,ends]) (by simp [C5,ends]))
 ·refine ⟨zg (by kernel_rfl),?_⟩
  have hb: ¬badV col v=true:=by rw [badV,v1,v2];simp
  rw [if_neg hb] at hj
  refine za (fun w=>?_) fun w=>?_
  ·refine ⟨by omega,?_⟩
   refine za (fun u=>?_) fun u=>?_
   ·rw [if_pos (by rw [w,u];simp)] at hj
    refine zd [[],[],[],[],[],[]] [(1000,1000),(1001,1001)] (gb s i b o3 3 k c n 0 (by omega)) ?_
    simp -implicitDefEqProofs only [↓zb,push_cast,simprocAttr,tte]
    exact zw hJ (c+1,o3++[⟨3,k,c,n,0⟩]) ⟨g',by simpa using hj,by simp;omega⟩ (by show r.length-(c+1)<r.length-c;omega) (Weak.keepL (by simp [C5,hwc,ends]) (by simp [C5,ends]) (by simp [C5,ends]))
   ·refine zd [[1],[]] [] (c_containsI T.primary c (by omega)) ?_
    simp -implicitDefEqProofs only [↓zb,push_cast,simprocAttr,tte]
    refine za (fun q=>?_) fun q=>?_
    ·rw [if_pos (by rw [w,u,q];simp)] at hj
     refine zd [[],[],[],[],[],[]] [(1000,1000),(1001,1001)] (gb s i b o3 3 k c n 0 (by omega)) ?_
     simp -implicitDefEqProofs only [↓zb,push_cast,simprocAttr,tte]
     exact zw hJ (c+1,o3++[⟨3,k,c,n,0⟩]) ⟨g',by simpa using hj,by simp;omega⟩ (by show r.length-(c+1)<r.length-c;omega) (Weak.keepL (by simp [C5,hwc,ends]) (by simp [C5,ends]) (by simp [C5,ends]))
    ·rw [if_neg (by rw [w,u,q];simp)] at hj
     exact zw hJ (c+1,o3) ⟨g',by simpa using hj,by simp only;omega⟩ (by show r.length-(c+1)<r.length-c;omega) (Weak.keepL (by simp [C5,hwc,ends]) (by simp [C5,ends]) (by simp [C5,ends]))
  ·exfalso
   have:v.kind=0:=by simpa using v2
   rw [this] at w
   exact absurd w (by decide)
end
section
open Go.Am
attribute [local simp, local push_cast] num boo str ints aV aTab zA aS aT aC aRow rRow rTab vO fO zV rB vT
def vE (e:Ex):Ob:= .var [.d (.lit (.int .i64 e.op)),.d (.lit (.int .i64 e.type)),.d (.lit (.int .i64 e.num)),.d (.lit (.string e.text)),.d (.lit (.int .i64 e.col)),.d (.sl 6 (ze rE e.kids))]
attribute [local simp, local push_cast] vE
def wN (k:Int) (rows:List Row):List (List Int)->Nat->List Vio
 | [],_=>[]
 | u::us,n=>keyM 5 k n u false rows++wN k rows us (n+1)
def yi (s:Sch) (f:Fk):Nat:=(byT s f.table).toNat
def forM1 (s:Sch) (i:Inst) (b:List Bool) (k:Nat) (f:Fk) (n:Nat):List Vio:=
 uc k n f.columns (b.getD (yi s f) default) (s.getD (yi s f) default).primary (i.getD (yi s f) default) (i.getD k default)
def ut (s:Sch) (i:Inst) (b:List Bool) (k:Nat):List Fk->Nat->List Vio
 | [],_=>[]
 | f::fs,n=>forM1 s i b k f n++ut s i b k fs (n+1)
def chk1 (k:Int) (x:Nat) (e:Ex) (r:Row) (n:Nat):List Vio:=if zP (xN r e)=0 then [⟨7,k,x,n,0⟩] else []
def chkR (k:Int) (x:Nat) (e:Ex):List Row->Nat->List Vio
 | [],_=>[]
 | r::rs,n=>chk1 k x e r n++chkR k x e rs (n+1)
def wa (k:Int) (rows:List Row):List Ex->Nat->List Vio
 | [],_=>[]
 | e::es,n=>chkR k n e rows 0++wa k rows es (n+1)
def jU (s:Sch) (i:Inst) (b:List Bool) (k:Nat):List Vio:=
 keyM 4 k 0 (s.getD k default).primary true (i.getD k default)++(wN k (i.getD k default) (s.getD k default).uniques 0++(ut s i b k (s.getD k default).foreigns 0++wa k (i.getD k default) (s.getD k default).checks 0))
theorem keyGo_len (kind table index:Int) (cols:List Int) (nulls:Bool): ∀(rows:List Row) (n:Nat) (es:List (ByteArray×Int)),(wL kind table index cols nulls rows n es).length<=rows.length
 | [],_,_=>by simp [wL]
 | r::rs,n,es=>by
   have h:=keyGo_len kind table index cols nulls rs (n+1)
   simp only [wL]
   repeat' split
   ·have:=h es;simp;omega
   ·have:=h es;simp;omega
   ·have:=h (es++[(zN (z7 r cols),(n:Int))]);simp;omega
theorem qK (kind table index:Int) (cols:List Int) (nulls:Bool) (rows:List Row):(keyM kind table index cols nulls rows).length<=rows.length:=keyGo_len ..
theorem forGo_len (table index:Int) (cols:List Int) (ks:List ByteArray): ∀(rows:List Row) (n:Nat),(uN table index cols ks rows n).length<=rows.length
 | [],_=>by simp [uN]
 | r::rs,n=>by
   have h:=forGo_len table index cols ks rs (n+1)
   simp only [uN]
   repeat' split
   all_goals simp;omega
theorem forM1_len (s:Sch) (i:Inst) (b:List Bool) (k:Nat) (f:Fk) (n:Nat):(forM1 s i b k f n).length<=(i.getD k default).length:=by
 unfold forM1 uc
 split
 ·simp
 ·exact forGo_len ..
theorem qW (k:Int) (x:Nat) (e:Ex): ∀(rows:List Row) (n:Nat),(chkR k x e rows n).length<=rows.length
 | [],_=>by simp [chkR]
 | r::rs,n=>by
   have h:=qW k x e rs (n+1)
   simp only [chkR,chk1]
   split<;>simp<;>omega
structure GoodS (s:Sch):Prop where
 prim: ∀T∈s,∀c∈T.primary,inC T c
 uniq: ∀T∈s,∀u∈T.uniques,∀c∈u,inC T c
 fors: ∀T∈s,∀f∈T.foreigns,(∀c∈f.columns,inC T c)/\yi s f<s.length/\byT s f.table=yi s f/\xm T (s.getD (yi s f) default) f.columns (s.getD (yi s f) default).primary=true
def ShapeB (s:Sch) (i:Inst) (b:List Bool):Prop:= ∀k,k<s.length->b.getD k default=false-> ∀r∈i.getD k default,r.length=(s.getD k default).columns.length
def U6 (s:Sch) (i:Inst) (b:List Bool) (k:Nat) (T:Tbl) (x:Nat×List Vio):SL:=
 ⟨[(28,.d (.lit (.int .i64 x.1))),(27,.d (.lit (.int .i64 T.uniques.length))),(26,.d (.sl 1 (ze rIs T.uniques))),(4,.ptr 4 0),(0,.ptr 1000 0),(1,num k)],
  [(4,vT T),(1000,fO s i (.d (.sl 1 (ze rB b))) x.2.length),(1001,vO x.2)]⟩
def F6 (s:Sch) (i:Inst) (b:List Bool) (k:Nat) (T:Tbl) (x:Nat×List Vio):SL:=
 ⟨[(42,.d (.lit (.int .i64 x.1))),(41,.d (.lit (.int .i64 T.foreigns.length))),(4,.ptr 4 0),(0,.ptr 1000 0),(1,num k)],
  [(4,vT T),(1000,fO s i (.d (.sl 1 (ze rB b))) x.2.length),(1001,vO x.2)]⟩
def E6 (s:Sch) (i:Inst) (b:List Bool) (k:Nat) (T:Tbl) (x:Nat×List Vio):SL:=
 ⟨[(53,.d (.lit (.int .i64 x.1))),(52,.d (.lit (.int .i64 T.checks.length))),(51,.d (.sl 6 (ze rE T.checks))),(0,.ptr 1000 0),(1,num k)],
  [(1000,fO s i (.d (.sl 1 (ze rB b))) x.2.length),(1001,vO x.2)]⟩
def E7 (s:Sch) (i:Inst) (b:List Bool) (k:Nat) (T:Tbl) (n:Nat) (e:Ex) (rows:List Row) (x:Nat×List Vio):SL:=
 ⟨[(67,.d (.lit (.int .i64 x.1))),(66,.d (.lit (.int .i64 rows.length))),(65,.d (.sl 1 (ze rRow rows))),(8,num n),(9,.ptr 9 0),(53,.d (.lit (.int .i64 n))),(52,.d (.lit (.int .i64 T.checks.length))),(51,.d (.sl 6 (ze rE T.checks))),(0,.ptr 1000 0),(1,num k)],
  [(9,vE e),(1000,fO s i (.d (.sl 1 (ze rB b))) x.2.length),(1001,vO x.2)]⟩
theorem c_cons (s:Sch) (i:Inst) (b:List Bool) (out:List Vio) (k:Nat) (hS:SmallS s) (hG:GoodS s) (hI:SmallI i) (hks:k<s.length) (hil:i.length=s.length) (hbl:b.length=s.length) (hB:ShapeB s i b) (hbk:b.getD k default=false)
 (ho:out.length<=1000000000000) (V:List Vio) (hV:jU s i b k=V):
 ACall Tryz.prog 126 [.ptr 1000 0,num k] [(1000,fO s i (.d (.sl 1 (ze rB b))) out.length),(1001,vO out)] (.tup [])
  [(1000,fO s i (.d (.sl 1 (ze rB b))) (out++V).length),(1001,vO (out++V))]:=by
 have hsl:=hS.len
 have hTm:s.getD k default∈s:=zi hks
 have hRm:i.getD k default∈i:=zi (by omega)
 have hsm:=hS.tab _ hTm
 have hrl:=hI.tab _ hRm
 have hsh:=hB k hks hbk
 have hG1:=hG.prim _ hTm
 have hG2:=hG.uniq _ hTm
 have hG3:=hG.fors _ hTm
 have hp1:=hsm.prim
 have hu1:=hsm.uniq
 have hf1:=hsm.fors
 have hc1:=hsm.chk
 have inR: ∀{c:Int} {r:Row},r∈i.getD k default->inC (s.getD k default) c->0<=c/\c<r.length:=fun hr hc=>by rw [hsh _ hr];exact hc
 refine zp mixed ttok Tryz.func126 Tryz.ntmps126 Tryz.results126 ?_
 simp -implicitDefEqProofs only [argT,↓zb,push_cast,simprocAttr,tte]
 refine ⟨by omega,?_⟩
 generalize hT:s.getD k default=T at hTm hsm hsh hG1 hG2 hG3 hp1 hu1 hf1 hc1 inR ⊢
 refine zd [[],[],[],[],[1],[]] [(1000,1000),(1001,1001)] (c_fkey s i b out 4 0 k T.primary true (by omega) hrl (by omega) hp1 (fun r hr c hc=>inR hr (hG1 c hc))) ?_
 simp -implicitDefEqProofs only [↓zb,push_cast,simprocAttr,tte]
 have hl0:=qK 4 k 0 T.primary true (i.getD k default)
 rw [jU,hT] at hV
 generalize hK:keyM 4 k 0 T.primary true (i.getD k default)=K0 at hl0 hV ⊢
 refine yc mixed ttok (fun x:Nat×List Vio=>U6 s i b k T x) (fun x=>T.uniques.length-x.1)
  (fun x=>x.1<=T.uniques.length/\x.2++(wN k (i.getD k default) (T.uniques.drop x.1) x.1++(ut s i b k T.foreigns 0++wa k (i.getD k default) T.checks 0))=out++V/\x.2.length<=out.length+1000 * (x.1+1)) (0,out++K0) ⟨Nat.zero_le _,by rw [<-hV];simp,by simp;omega⟩ ?_ ?_
 ·exact Weak.keepL (by simp [U6,ends]) (by simp [U6,ends]) (by simp [U6,ends])
 rintro I hI1 ⟨n,o2⟩ ⟨hn,hi,hol⟩
 simp only at hn hi hol
 simp -implicitDefEqProofs only [U6,↓zb,push_cast,simprocAttr,tte]
 refine za (fun h=>?_) fun h=>?_
 ·have h':n<T.uniques.length:=by have:=of_decide_eq_true h;omega
  have hw:=zj h' (by omega)
  rw [zR T.uniques n h',wN] at hi
  have hum:=zi h'
  have hlk:=qK 5 k n (T.uniques.getD n default) false (i.getD k default)
  refine ⟨(by first | omega | trivial | (refine ⟨?_,?_⟩<;>first | omega | trivial | (refine ⟨?_,?_⟩<;>first | omega | trivial | (refine ⟨?_,?_⟩<;>first | omega | trivial | rfl)))),?_⟩
  refine zd [[],[],[],[],[1],[]] [(1000,1000),(1001,1001)] (c_fkey s i b o2 5 n k (T.uniques.getD n default) false (by omega) hrl (by omega) (hsm.uniqs _ hum) (fun r hr c hc=>inR hr (hG2 _ hum c hc))) ?_
  simp -implicitDefEqProofs only [↓zb,push_cast,simprocAttr,tte]
  generalize keyM 5 k n (T.uniques.getD n default) false (i.getD k default)=K1 at hi hlk ⊢
  exact zw hI1 (n+1,o2++K1) ⟨h',by simpa using hi,by simp;omega⟩ (by show T.uniques.length-(n+1)<T.uniques.length-n;omega) (Weak.keepL (by simp [U6,hw,ends]) (by simp [U6,ends]) (by simp [U6,ends]))
 have hnn:n=T.uniques.length:=by have:=of_decide_eq_false h;omega
 rw [hnn,List.drop_length,wN,List.nil_append] at hi
 have holA:o2.length<=out.length+1001000:=by omega
 refine yc mixed ttok (fun x:Nat×List Vio=>F6 s i b k T x) (fun x=>T.foreigns.length-x.1)
  (fun x=>x.1<=T.foreigns.length/\x.2++(ut s i b k (T.foreigns.drop x.1) x.1++wa k (i.getD k default) T.checks 0)=out++V/\x.2.length<=out.length+1001000+1000 * x.1) (0,o2) ⟨Nat.zero_le _,hi,by simpa using holA⟩ ?_ ?_
 ·exact Weak.keepL (by simp [F6,ends]) (by simp [F6,ends]) (by simp [F6,ends])
 rintro I2 hI2 ⟨m,o3⟩ ⟨hm,hi2,hol2⟩
 simp only at hm hi2 hol2
 simp -implicitDefEqProofs only [F6,↓zb,push_cast,simprocAttr,tte]
 refine za (fun h2=>?_) fun h2=>?_
 ·have h2':m<T.foreigns.length:=by have:=of_decide_eq_true h2;omega
  have hw:=zj h2' (by omega)
  rw [zR T.foreigns m h2',ut] at hi2
  have hfm:=zi h2'
  have hlk:=forM1_len s i b k (T.foreigns.getD m default) m
  obtain ⟨g1,g2,g3,g4⟩:=hG3 _ hfm
  have hTo:s.getD (yi s (T.foreigns.getD m default)) default∈s:=zi g2
  have hRo:i.getD (yi s (T.foreigns.getD m default)) default∈i:=zi (by omega)
  have hc:=c_foreign s i b o3 k m (yi s (T.foreigns.getD m default)) (by omega) hks (by omega) (by rw [hT];exact h2') (by rw [hT];exact g3) g2 (by omega) (by omega) hrl (hI.tab _ hRo) (by omega)
   (by rw [hT];exact hsm.forss _ hfm) (hS.tab _ hTo).prim (by rw [hT];exact fun r hr c hc=>inR hr (g1 c hc))
   (fun hb r hr c hc=>by rw [hB _ g2 hb r hr];exact hG.prim _ hTo c hc) (forM1 s i b k (T.foreigns.getD m default) m) (by rw [hT];rfl)
  refine zd [[],[],[]] [(1000,1000),(1001,1001)] (hc) ?_
  simp -implicitDefEqProofs only [↓zb,push_cast,simprocAttr,tte]
  generalize forM1 s i b k (T.foreigns.getD m default) m=K1 at hi2 hlk ⊢
  exact zw hI2 (m+1,o3++K1) ⟨h2',by simpa using hi2,by simp;omega⟩ (by show T.foreigns.length-(m+1)<T.foreigns.length-m;omega) (Weak.keepL (by simp [F6,hw,ends]) (by simp [F6,ends]) (by simp [F6,ends]))
 have hmm:m=T.foreigns.length:=by have:=of_decide_eq_false h2;omega
 rw [hmm,List.drop_length,ut,List.nil_append] at hi2
 have holB:o3.length<=out.length+2001000:=by omega
 refine yc mixed ttok (fun x:Nat×List Vio=>E6 s i b k T x) (fun x=>T.checks.length-x.1)
  (fun x=>x.1<=T.checks.length/\x.2++wa k (i.getD k default) (T.checks.drop x.1) x.1=out++V/\x.2.length<=out.length+2001000+1000 * x.1) (0,o3) ⟨Nat.zero_le _,hi2,by simpa using holB⟩ ?_ ?_
 ·exact Weak.keepL (by simp [E6,ends]) (by simp [E6,ends]) (by simp [E6,ends])
 rintro I3 hI3 ⟨q,o4⟩ ⟨hq,hi3,hol3⟩
 simp only at hq hi3 hol3
 simp -implicitDefEqProofs only [E6,↓zb,push_cast,simprocAttr,tte]
 refine za (fun h3=>?_) fun h3=>?_
 rotate_left
 ·have hqq:q=T.checks.length:=by have:=of_decide_eq_false h3;omega
  rw [hqq,List.drop_length,wa,List.append_nil] at hi3
  rw [<-hi3]
  refine ret_as trivial rfl ?_ ?_
  ·simp [ends]
  ·simp [ends]
 have h3':q<T.checks.length:=by have:=of_decide_eq_true h3;omega
 have hw:=zj h3' (by omega)
 rw [zR T.checks q h3',wa] at hi3
 have hem:=hsm.chks _ (zi h3')
 have hlc:=qW k q (T.checks.getD q default) (i.getD k default) 0
 refine ⟨(by first | omega | trivial | (refine ⟨?_,?_⟩<;>first | omega | trivial | (refine ⟨?_,?_⟩<;>first | omega | trivial | (refine ⟨?_,?_⟩<;>first | omega | trivial | rfl)))),by omega,?_⟩
 generalize T.checks.getD q default=e at hi3 hem hlc ⊢
 obtain ⟨rows,hRows⟩: ∃rows,i.getD k default=rows:=⟨_,rfl⟩
 rw [hRows] at hrl hi3 hlc
 refine yc mixed ttok (fun x:Nat×List Vio=>E7 s i b k T q e rows x) (fun x=>rows.length-x.1)
  (fun x=>x.1<=rows.length/\x.2++(chkR k q e (rows.drop x.1) x.1++wa k rows (T.checks.drop (q+1)) (q+1))=out++V/\x.2.length<=o4.length+x.1) (0,o4) ⟨Nat.zero_le _,hi3,Nat.le_refl _⟩ ?_ ?_
 ·rw [hRows]
  exact Weak.keepL (by simp [E7,ends]) (by simp [E7,ends]) (by simp [E7,ends])
 rintro I4 hI4 ⟨n,o5⟩ ⟨hn5,hi4,hol4⟩
 simp only at hn5 hi4 hol4
 simp -implicitDefEqProofs only [E7,↓zb,push_cast,simprocAttr,tte]
 refine za (fun h4=>?_) fun h4=>?_
 rotate_left
 ·have hnn5:n=rows.length:=by have:=of_decide_eq_false h4;omega
  rw [hnn5,List.drop_length,chkR,List.nil_append] at hi4
  exact zw hI3 (q+1,o5) ⟨h3',by rw [hRows];exact hi4,by simp only;omega⟩ (by show T.checks.length-(q+1)<T.checks.length-q;omega) (Weak.keepL (by simp [E6,hw,ends]) (by simp [E6,ends]) (by simp [E6,ends]))
 have h4':n<rows.length:=by have:=of_decide_eq_true h4;omega
 have hw4:=zj h4' (by omega)
 rw [zR rows n h4',chkR] at hi4
 refine ⟨(by first | omega | trivial | (refine ⟨?_,?_⟩<;>first | omega | trivial | (refine ⟨?_,?_⟩<;>first | omega | trivial | (refine ⟨?_,?_⟩<;>first | omega | trivial | rfl)))),?_⟩
 generalize rows.getD n default=r at hi4 ⊢
 refine zd [[0,0,0,0,0,6],[3]] [] (c_eval r e hem) ?_
 simp -implicitDefEqProofs only [↓zb,push_cast,simprocAttr,tte]
 refine zd [[0,0,0]] [] (uv (xN r e)) ?_
 simp -implicitDefEqProofs only [↓zb,push_cast,simprocAttr,tte]
 refine za (fun h5=>?_) fun h5=>?_
 ·have h5':zP (xN r e)=0:=by simpa using h5
  rw [chk1,if_pos h5'] at hi4
  refine zd [[],[],[],[],[],[]] [(1000,1000),(1001,1001)] (gb s i b o5 7 k q n 0 (by omega)) ?_
  simp -implicitDefEqProofs only [↓zb,push_cast,simprocAttr,tte]
  exact zw hI4 (n+1,o5++[⟨7,k,q,n,0⟩]) ⟨h4',by simpa using hi4,by simp;omega⟩ (by show rows.length-(n+1)<rows.length-n;omega) (Weak.keepL (by simp [E7,hw4,ends]) (by simp [E7,ends]) (by simp [E7,ends]))
 ·have h5': ¬zP (xN r e)=0:=by simpa using h5
  rw [chk1,if_neg h5'] at hi4
  exact zw hI4 (n+1,o5) ⟨h4',by simpa using hi4,by simp only;omega⟩ (by show rows.length-(n+1)<rows.length-n;omega) (Weak.keepL (by simp [E7,hw4,ends]) (by simp [E7,ends]) (by simp [E7,ends]))
end
section
open Go.Am
attribute [local simp, local push_cast] num boo str ints aV aTab zA aS aT aC aRow rRow rTab vO fO zV rB vT
def misM (T:Tbl) (r:Row):Bool:=decide (rowErr T r≠0)
theorem je {T:Tbl} {r:Row} (h:(r.length:Int)≠T.columns.length):misM T r=true:=by unfold misM rowErr;rw [if_pos h];rfl
theorem jf {T:Tbl} {r:Row} (h: ¬(r.length:Int)≠T.columns.length):misM T r= !((List.range r.length).all fun j=> !badV (T.columns.getD j default) (r.getD j default)):=by
 unfold misM rowErr
 rw [if_neg h]
 cases (List.range r.length).all fun j=> !badV (T.columns.getD j default) (r.getD j default)<;>rfl
theorem c_mis1 (T:Tbl) (r:Row) (hl:r.length≤1000000):ACall Tryz.prog 164 [aRow r,.ptr 1000 0] [(1000,vT T)] (boo (misM T r)) [(1000,vT T)]:=by
 refine zp mixed ttok Tryz.func164 Tryz.ntmps164 Tryz.results164 ?_
 generalize hr:boo (misM T r)=R
 simp -implicitDefEqProofs only [argT,↓zb,push_cast,simprocAttr,tte]
 refine za (fun h0=>?_) fun h0=>?_
 ·have h0':(r.length:Int)≠T.columns.length:=by simpa using h0
  refine zr [0] rfl (by simp) (by simp [zc]<;>omega) ?_ (by first | rfl | simp [ends] | (subst_vars;simp [ends])) (by simp [ends]) (by simp [ends])
  rw [<-hr,je h0'];rfl
 have h0': ¬(r.length:Int)≠T.columns.length:=by simpa using h0
 have hM:=jf h0'
 refine zn mixed ttok 14 [12,13] [1000] (by simp only [z6,ends,push_cast,simprocAttr];rfl) (by simp only [zB,zo,ends,push_cast,simprocAttr];rfl) r.length (fun n=> ∀i,i<n->(!badV (T.columns.getD i default) (r.getD i default))=true) (fun n=>[(1,.ptr 1000 0)]) (fun _=>[]) (fun i h=>absurd h (Nat.not_lt_zero _)) ?_ ?_
 ·exact Weak.keepL (by simp [cst,ends]) (by simp [cst,ends]) (by simp [cst,ends])
 intro I hI n hn hi
 simp -implicitDefEqProofs only [cst,↓zb,push_cast,simprocAttr,tte]
 refine za (fun h=>?_) fun h=>?_
 ·simp only [decide_eq_true_eq] at h
  have h':n<r.length:=by omega
  have hw:=zj h' (by omega)
  have bad:badV (T.columns.getD n default) (r.getD n default)=true->boo true=R:=fun hb=>by
   rw [<-hr,hM,xY h' (by rw [hb];rfl)];rfl
  have good:badV (T.columns.getD n default) (r.getD n default)=false-> ∀i,i<n+1->(!badV (T.columns.getD i default) (r.getD i default))=true:=fun hb i h2=>if h3:i=n then by rw [h3,hb];rfl else hi i (by omega)
  refine ⟨(by first | omega | trivial | (refine ⟨?_,?_⟩<;>first | omega | trivial | (refine ⟨?_,?_⟩<;>first | omega | trivial | (refine ⟨?_,?_⟩<;>first | omega | trivial | rfl)))),?_⟩
  refine zd [[0,0,0]] [] (wh (r.getD n default)) ?_
  simp -implicitDefEqProofs only [↓zb,push_cast,simprocAttr,tte]
  refine za (fun v1=>?_) fun v1=>?_
  ·refine ⟨zg (by kernel_rfl),?_⟩
   refine zr [0] rfl (by simp) (by simp [zc]<;>omega) ?_ (by first | rfl | simp [ends] | (subst_vars;simp [ends])) (by simp [ends]) (by simp [ends])
   exact bad (by rw [badV,v1,Bool.true_or])
  refine za (fun v2=>?_) fun v2=>?_
  ·refine ⟨by omega,zg (by kernel_rfl),?_⟩
   refine za (fun v3=>?_) fun v3=>?_
   ·refine zr [0] rfl (by simp) (by simp [zc]<;>omega) ?_ (by first | rfl | simp [ends] | (subst_vars;simp [ends])) (by simp [ends]) (by simp [ends])
    exact bad (by rw [badV,v2,v3];simp)
   ·exact zl hI n rfl h' (good (by rw [badV,v1,v3];simp)) (by simp [hw,ends]) (by simp [hw,ends]) (by simp [hw,ends]) (by simp [hw,ends])
  ·refine ⟨zg (by kernel_rfl),?_⟩
   exact zl hI n rfl h' (good (by rw [badV,v1,v2];simp)) (by simp [hw,ends]) (by simp [hw,ends]) (by simp [hw,ends]) (by simp [hw,ends])
 ·simp only [decide_eq_false_iff_not] at h
  obtain rfl:n=r.length:=by omega
  refine zr [0] rfl (by simp) (by simp [zc]<;>omega) ?_ (by first | rfl | simp [ends] | (subst_vars;simp [ends])) (by simp [ends]) (by simp [ends])
  rw [<-hr,hM,all_range.2 hi];rfl
theorem c_idxR (T:Tbl) (l:List Row) (hl:l.length<=1000) (hrl: ∀r∈l,r.length<=1000):
 ACall Tryz.prog 190 [aTab l,.clo 164 [.ptr 1000 0]] [(1000,vT T)] (num (fidx (misM T) l)) [(1000,vT T)]:=by
 refine zp mixed ttok Tryz.func190 Tryz.ntmps190 Tryz.results190 ?_
 generalize hr:num (fidx (misM T) l)=R
 simp -implicitDefEqProofs only [argT,↓zb,push_cast,simprocAttr,tte]
 refine zn mixed ttok 8 [0,1,6,7] [1000] (by simp only [z6,ends,push_cast,simprocAttr];rfl) (by simp only [zB,zo,ends,push_cast,simprocAttr];rfl) l.length (fun n=> ∀i,i<n->misM T (l.getD i default)=false) (fun _=>[]) (fun _=>[]) (fun i h=>absurd h (Nat.not_lt_zero _)) ?_ ?_
 ·exact Weak.keepL (by simp [cst,ends]) (by simp [cst,ends]) (by simp [cst,ends])
 intro I hI n hn hi
 simp -implicitDefEqProofs only [cst,↓zb,push_cast,simprocAttr,tte]
 refine za (fun h=>?_) fun h=>?_
 ·simp only [decide_eq_true_eq] at h
  have h':n<l.length:=by omega
  have hw:=zj h' (by omega)
  have hrn:=hrl _ (zi h')
  refine ⟨(by first | omega | trivial | (refine ⟨?_,?_⟩<;>first | omega | trivial | (refine ⟨?_,?_⟩<;>first | omega | trivial | (refine ⟨?_,?_⟩<;>first | omega | trivial | rfl)))),?_⟩
  have hc:=c_mis1 T (l.getD n default) (by omega)
  refine zd [[3],[]] [(1000,1000)] (hc) ?_
  simp -implicitDefEqProofs only [↓zb,push_cast,simprocAttr,tte]
  refine za (fun g=>?_) fun g=>?_
  ·refine zr [0] rfl (by simp) (by simp [zc]<;>omega) ?_ (by first | rfl | simp [ends] | (subst_vars;simp [ends])) (by simp [ends]) (by simp [ends])
   rw [<-hr,x4 _ l n h' hi g];rfl
  ·exact zl hI n rfl h' (fun i h2=>if h3:i=n then by rw [h3];exact g else hi i (by omega)) (by simp [hw,ends]) (by simp [hw,ends]) (by simp [hw,ends]) (by simp [hw,ends])
 ·simp only [decide_eq_false_iff_not] at h
  obtain rfl:n=l.length:=by omega
  refine zr [0] rfl (by simp) (by simp [zc]<;>omega) ?_ (by first | rfl | simp [ends] | (subst_vars;simp [ends])) (by simp [ends]) (by simp [ends])
  rw [<-hr,yO _ l hi];rfl
theorem c_cntR (T:Tbl) (l:List Row) (hl:l.length<=1000) (hrl: ∀r∈l,r.length<=1000):
 ACall Tryz.prog 163 [aTab l,.clo 164 [.ptr 1000 0]] [(1000,vT T)] (boo (l.any (misM T))) [(1000,vT T)]:=by
 refine zp mixed ttok Tryz.func163 Tryz.ntmps163 Tryz.results163 ?_
 generalize hr:boo (l.any (misM T))=R
 simp -implicitDefEqProofs only [argT,↓zb,push_cast,simprocAttr,tte]
 refine zd [[1],[]] [(1000,1000)] (c_idxR T l hl hrl) ?_
 simp -implicitDefEqProofs only [↓zb,push_cast,simprocAttr,tte]
 refine zr [0] rfl (by simp) (by simp [zc]<;>omega) ?_ (by first | rfl | simp [ends] | (subst_vars;simp [ends])) (by simp [ends]) (by simp [ends])
 rw [<-hr,<-jX];rfl
theorem c_mis (T:Tbl) (l:List Row) (hl:l.length<=1000) (hrl: ∀r∈l,r.length<=1000):ACall Tryz.prog 124 [aT T,aTab l] [] (boo (l.any (misM T))) []:=by
 refine zp mixed ttok Tryz.func124 Tryz.ntmps124 Tryz.results124 ?_
 generalize hr:boo (l.any (misM T))=R
 simp -implicitDefEqProofs only [argT,↓zb,push_cast,simprocAttr,tte]
 refine zd [[1],[]] [(1000,2)] (c_cntR T l hl hrl) ?_
 simp -implicitDefEqProofs only [↓zb,push_cast,simprocAttr,tte]
 refine zr [0] rfl (by simp) (by simp [zc]<;>omega) ?_ (by first | rfl | simp [ends] | (subst_vars;simp [ends])) (by simp [ends]) (by simp [ends])
 exact hr
end
section
open Go.Am
attribute [local simp, local push_cast] num boo str ints aV aTab zA aS aT aC aRow rRow rTab vO fO zV rB vT rVio
def bad1 (s:Sch) (i:Inst) (k:Nat):Bool:=(i.getD k default).any (misM (s.getD k default))
def uj (s:Sch) (i:Inst):List Bool:=(List.range s.length).map (bad1 s i)
def tabM (s:Sch) (i:Inst) (b:List Bool) (k:Nat):List Vio:=
 yr (s.getD k default) k (i.getD k default) 0++if b.getD k default=true then [] else jU s i b k
def allM (s:Sch) (i:Inst) (b:List Bool) (n:Nat):List Vio:=(List.range n).flatMap (tabM s i b)
theorem allM_succ (s:Sch) (i:Inst) (b:List Bool) (n:Nat):allM s i b (n+1)=allM s i b n++tabM s i b n:=by simp [allM,List.range_succ]
def vioM (s:Sch) (i:Inst):List Vio×Int:=
 if yq s≠0 then ([],yq s) else if (i.length:Int)≠s.length then ([],9) else (allM s i (uj s i) s.length,0)
theorem badsM_len (s:Sch) (i:Inst):(uj s i).length=s.length:=by simp [uj]
theorem gd (s:Sch) (i:Inst) {k:Nat} (h:k<s.length):(uj s i).getD k default=bad1 s i k:=by
 simp [uj,List.getD_eq_getElem?_getD,h]
theorem shape_bads (s:Sch) (i:Inst):ShapeB s i (uj s i):=by
 intro k hk hb r hr
 rw [gd s i hk,bad1,List.any_eq_false] at hb
 have:=hb r hr
 by_cases h:(r.length:Int)≠(s.getD k default).columns.length
 ·exact absurd (je h) this
 ·omega
theorem uniqsM_len (k:Int) (rows:List Row): ∀(us:List (List Int)) (n:Nat),(wN k rows us n).length<=us.length * rows.length
 | [],_=>by simp [wN]
 | u::us,n=>by
   have h1:=qK 5 k n u false rows
   have h2:=uniqsM_len k rows us (n+1)
   simp [wN,Nat.add_mul];omega
theorem forsM_len (s:Sch) (i:Inst) (b:List Bool) (k:Nat): ∀(fs:List Fk) (n:Nat),(ut s i b k fs n).length<=fs.length * (i.getD k default).length
 | [],_=>by simp [ut]
 | f::fs,n=>by
   have h1:=forM1_len s i b k f n
   have h2:=forsM_len s i b k fs (n+1)
   simp only [ut,List.length_append,List.length_cons,Nat.add_mul];omega
theorem chksM_len (k:Int) (rows:List Row): ∀(es:List Ex) (n:Nat),(wa k rows es n).length<=es.length * rows.length
 | [],_=>by simp [wa]
 | e::es,n=>by
   have h1:=qW k n e rows 0
   have h2:=chksM_len k rows es (n+1)
   simp only [wa,List.length_append,List.length_cons,Nat.add_mul];omega
theorem tabM_len {s:Sch} {i:Inst} (hS:SmallS s) (hI:SmallI i) (b:List Bool) {k:Nat} (hk:k<s.length) (hi:k<i.length):(tabM s i b k).length<=5000000:=by
 have hT:=hS.tab _ (zi hk)
 have hR:=zi hi
 have h1:=rowsVio_len (s.getD k default) k (i.getD k default) 0 (hI.row _ hR)
 have h2:=hI.tab _ hR
 have h3:=qK 4 k 0 (s.getD k default).primary true (i.getD k default)
 have h4:=uniqsM_len k (i.getD k default) (s.getD k default).uniques 0
 have h5:=forsM_len s i b k (s.getD k default).foreigns 0
 have h6:=chksM_len k (i.getD k default) (s.getD k default).checks 0
 have m4:=Nat.mul_le_mul hT.uniq h2
 have m5:=Nat.mul_le_mul hT.fors h2
 have m6:=Nat.mul_le_mul hT.chk h2
 unfold tabM
 rw [List.length_append]
 split
 ·simp only [List.length_nil];omega
 ·simp only [jU,List.length_append];omega
def N8 (s:Sch) (i:Inst) (n:Nat):SL:=
 ⟨[(30,.d (.lit (.int .i64 n))),(29,.d (.lit (.int .i64 s.length))),(28,.d (.sl 6 (ze rT s))),(7,.ptr 26 0),(2,.ptr 2 0),(3,.ptr 3 0)],
  [(26,.var [.d (.sl 6 (ze rT s)),.d (.sl 1 (ze rTab i)),.vec 710 n,.snil]),(710,.vec 4 1 (ze rB ((List.range n).map (bad1 s i))) 0),(2,.var [.d (.sl 6 (ze rT s))]),(3,.var [.d (.sl 1 (ze rTab i))])]⟩
def M8 (s:Sch) (i:Inst) (b:List Bool) (n:Nat):SL:=
 ⟨[(55,.d (.lit (.int .i64 n))),(54,.d (.lit (.int .i64 s.length))),(7,.ptr 26 0)],
  [(26,.var [.d (.sl 6 (ze rT s)),.d (.sl 1 (ze rTab i)),.d (.sl 1 (ze rB b)),.vec 711 (allM s i b n).length]),(711,vO (allM s i b n))]⟩
theorem c_vio (s:Sch) (i:Inst) (hS:SmallS s) (hI:SmallI i) (hG:yq s=0->GoodS s):
 ACall Tryz.prog 79 [aS s,zA i] [] (.tup [.d (.sl 5 (ze rVio (vioM s i).1)),num (vioM s i).2]) []:=by
 refine zp mixed ttok Tryz.func79 Tryz.ntmps79 Tryz.results79 ?_
 generalize hvm:vioM s i=vm
 have hsl:=hS.len
 have hil:=hI.len
 simp -implicitDefEqProofs only [argT,↓zb,push_cast,simprocAttr,tte]
 refine zd [[6]] [] (c_svalid s hS) ?_
 simp -implicitDefEqProofs only [↓zb,push_cast,simprocAttr,tte]
 refine za (fun h0=>?_) fun h0=>?_
 ·have h0':yq s≠0:=by simpa using h0
  rw [<-hvm,vioM,if_pos h0']
  exact zm [[5],[]] rfl (by simp) (by simp) rfl (by simp [ends]) trivial (by simp [ends])
 have h0': ¬yq s≠0:=by simpa using h0
 refine za (fun h1=>?_) fun h1=>?_
 ·have h1':(i.length:Int)≠s.length:=by simpa using h1
  rw [<-hvm,vioM,if_neg h0',if_pos h1']
  exact zm [[5],[]] rfl (by simp) (by simp) rfl (by simp [ends]) trivial (by simp [ends])
 have h1': ¬(i.length:Int)≠s.length:=by simpa using h1
 have hlen:i.length=s.length:=by omega
 have hGd:=hG (by omega)
 have hM:vm=(allM s i (uj s i) s.length,0):=by rw [<-hvm,vioM,if_neg h0',if_neg h1']
 subst hM
 clear hvm
 refine yc mixed ttok (fun n:Nat=>N8 s i n) (fun n=>s.length-n) (fun n=>n<=s.length) 0 (Nat.zero_le _) ?_ ?_
 ·exact (Weak.nilCellL 26 2 710 4 1 rfl rfl rfl).trans (Weak.keepL (by simp [N8,ends]) (by simp [N8,ze,ends]) (by simp [N8,ends]))
 intro J hJ n hn
 have hbl:((List.range n).map (bad1 s i)).length=n:=by simp
 simp -implicitDefEqProofs only [N8,↓zb,push_cast,simprocAttr,tte]
 refine za (fun h=>?_) fun h=>?_
 ·have h':n<s.length:=by have:=of_decide_eq_true h;omega
  have hw:=zj h' (by omega)
  have hRm:i.getD n default∈i:=zi (by omega)
  refine ⟨(by first | omega | trivial | (refine ⟨?_,?_⟩<;>first | omega | trivial | (refine ⟨?_,?_⟩<;>first | omega | trivial | (refine ⟨?_,?_⟩<;>first | omega | trivial | rfl)))),by omega,?_⟩
  refine zd [[0,3,1,1,2,6],[1]] [] (c_mis (s.getD n default) (i.getD n default) (hI.tab _ hRm) (hI.row _ hRm)) ?_
  have hb1:(i.getD n default).any (misM (s.getD n default))=bad1 s i n:=rfl
  rw [hb1]
  simp -implicitDefEqProofs only [↓zb,push_cast,simprocAttr,tte]
  have hs:(List.range (n+1)).map (bad1 s i)=(List.range n).map (bad1 s i)++[bad1 s i n]:=by simp [List.range_succ]
  refine ⟨⟨hbl.symm,by rw [hbl];omega⟩,zg (by kernel_rfl),?_⟩
  refine zw hJ (n+1) h' (by show s.length-(n+1)<s.length-n;omega) (Weak.keepL (by simp [N8,hw,ends]) ?_ (by simp [N8,ends]))
  simp [N8,hs,ze,ends]
 have hnn:n=s.length:=by have:=of_decide_eq_false h;omega
 subst hnn
 have hbs:(List.range s.length).map (bad1 s i)=uj s i:=rfl
 have hbl:=badsM_len s i
 have hsh:=shape_bads s i
 rw [hbs]
 clear hbs hJ J
 generalize uj s i=b at hbl hsh ⊢
 refine yc mixed ttok (fun n:Nat=>M8 s i b n) (fun n=>s.length-n) (fun n=>n<=s.length/\(allM s i b n).length<=5000000 * n) 0 ⟨Nat.zero_le _,by simp [allM]⟩ ?_ ?_
 ·refine (Weak.frzCellL 26 2 1 rfl rfl rfl (by simp [zc,hbl]) rfl).trans ?_
  refine (Weak.nilCellL 26 3 711 173 5 rfl rfl rfl).trans ?_
  exact Weak.keepL (by simp [M8,ends]) (by simp [M8,allM,ze,ends]) (by simp [M8,ends])
 rintro J hJ n ⟨hn,hal⟩
 have hsn:=allM_succ s i b n
 simp -implicitDefEqProofs only [M8,↓zb,push_cast,simprocAttr,tte]
 refine za (fun h2=>?_) fun h2=>?_
 ·have h':n<s.length:=by have:=of_decide_eq_true h2;omega
  have hw:=zj h' (by omega)
  have hRm:i.getD n default∈i:=zi (by omega)
  have hTm:s.getD n default∈s:=zi h'
  have htl:=tabM_len hS hI b h' (by omega)
  have hrv:(yr (s.getD n default) n (i.getD n default) 0).length<=5000000:=by unfold tabM at htl;rw [List.length_append] at htl;omega
  have hc1:=c_rows s i b (allM s i b n) n h' (by omega) (hI.tab _ hRm) (hI.row _ hRm) (hS.tab _ hTm).prim (by omega) _ rfl
  refine zd [[],[]] [(1000,26),(1001,711)] (hc1) ?_
  simp -implicitDefEqProofs only [↓zb,push_cast,simprocAttr,tte]
  refine ⟨by omega,?_⟩
  cases hb:b.getD n default with
  | true=>
    have ht:tabM s i b n=yr (s.getD n default) n (i.getD n default) 0:=by rw [tabM,if_pos hb,List.append_nil]
    rw [ht] at hsn htl
    simp -implicitDefEqProofs only [↓zb,push_cast,simprocAttr,tte]
    exact zw hJ (n+1) ⟨h',by rw [hsn,List.length_append];omega⟩ (by show s.length-(n+1)<s.length-n;omega) (Weak.keepL (by simp [M8,hw,ends]) (by simp [M8,hsn,ends]) (by simp [M8,ends]))
  | false=>
    have ht:tabM s i b n=yr (s.getD n default) n (i.getD n default) 0++jU s i b n:=by rw [tabM,if_neg (by rw [hb];decide)]
    rw [ht] at hsn htl
    simp -implicitDefEqProofs only [↓zb,push_cast,simprocAttr,tte]
    have hc2:=c_cons s i b (allM s i b n++yr (s.getD n default) n (i.getD n default) 0) n hS hGd hI h' hlen hbl hsh hb (by rw [List.length_append];omega) _ rfl
    refine zd [[],[]] [(1000,26),(1001,711)] (hc2) ?_
    simp -implicitDefEqProofs only [↓zb,push_cast,simprocAttr,tte]
    exact zw hJ (n+1) ⟨h',by rw [hsn,List.length_append];omega⟩ (by show s.length-(n+1)<s.length-n;omega) (Weak.keepL (by simp [M8,hw,ends]) (by simp [M8,hsn,ends]) (by simp [M8,ends]))
 have hnn:n=s.length:=by have:=of_decide_eq_false h2;omega
 subst hnn
 exact zm [[5],[]] rfl (by simp) (by simp [zc]) rfl (by simp [ends]) trivial (by simp [ends])
end
section
open Go.Am
attribute [local simp, local push_cast] num boo str ints aV aTab zA aS aT aC aRow rRow rTab vO fO zV rB vT rVio
theorem ferrN_zero {f:Nat->Int} {N:Nat} (h:vj f N=0): ∀i,i<N->f i=0:=fun i hi=>xW h i (List.mem_range.2 hi)
theorem jE {α:Type} [Inhabited α] {l:List α} {x:α} (h:x∈l): ∃i,i<l.length/\l.getD i default=x:=by
 obtain ⟨i,hi,rfl⟩:=List.getElem_of_mem h
 exact ⟨i,hi,by rw [List.getD_eq_getElem?_getD,List.getElem?_eq_getElem hi];rfl⟩
theorem u5 {s:Sch} (h:yq s=0):GoodS s:=by
 unfold yq at h
 split at h
 ·cases h
 split at h
 ·rename_i h1;exact absurd h h1
 rename_i h1
 split at h
 ·rename_i h2;exact absurd h h2
 rename_i h2
 have e1: ∀T∈s,yE T=0:=fun T hT=>by
  obtain ⟨i,hi,rfl⟩:=jE hT
  exact uY (ferrN_zero (by simpa using h1) i hi)
 have e2: ∀T∈s,∀f∈T.foreigns,refM s T f=0:=fun T hT f hf=>xW (xW (l:=s) (f:=refErr s) (by simpa using h2) T hT) f hf
 refine ⟨fun T hT=>kR (e1 T hT),fun T hT u hu=>?_,fun T hT f hf=>?_⟩
 ·exact jC (List.all_eq_true.1 (keysM_ok (j6 (e1 T hT))).2.2 u (by simp only [yn,List.mem_append];exact .inl hu))
 ·have hr:=e2 T hT f hf
  have h0:=refM_at hr
  have hlt:byT s f.table<s.length:=wg (fun t:Tbl=>t.name.toList==f.table.toList) s
  unfold refM at hr
  rw [if_neg (by omega)] at hr
  refine ⟨kS (e1 T hT) f hf,by unfold yi;omega,by unfold yi;omega,?_⟩
  unfold yi
  split at hr
  ·assumption
  ·cases hr
def xi (s:Sch) (i:Inst):Bool:=((vioM s i).2==0)&&((vioM s i).1.length==0)
theorem c_validI (s:Sch) (i:Inst) (hS:SmallS s) (hI:SmallI i):ACall Tryz.prog 39 [aS s,zA i] [] (boo (xi s i)) []:=by
 refine zp mixed ttok Tryz.func39 Tryz.ntmps39 Tryz.results39 ?_
 generalize hr:boo (xi s i)=R
 simp -implicitDefEqProofs only [argT,↓zb,push_cast,simprocAttr,tte]
 have hc:=c_vio s i hS hI u5
 refine zd [[6],[1]] [] (hc) ?_
 have hv:xi s i=(((vioM s i).2==0)&&((vioM s i).1.length==0)):=rfl
 cases h0:((vioM s i).2==0) with
 | false=>
   simp -implicitDefEqProofs only [h0,↓zb,push_cast,simprocAttr,tte]
   refine zr [0] rfl (by simp) (by simp [zc]<;>omega) ?_ (by first | rfl | simp [ends] | (subst_vars;simp [ends])) (by simp [ends]) (by simp [ends])
   rw [<-hr,hv,h0];rfl
 | true=>
   simp -implicitDefEqProofs only [h0,↓zb,push_cast,simprocAttr,tte]
   refine zr [0] rfl (by simp) (by simp [zc]<;>omega) ?_ (by first | rfl | simp [ends] | (subst_vars;simp [ends])) (by simp [ends]) (by simp [ends])
   rw [<-hr,hv,h0,Bool.true_and]
   have he:(((vioM s i).1.length:Int)==0)=((vioM s i).1.length==0):=by
    rw [Bool.eq_iff_iff,beq_iff_eq,beq_iff_eq]
    omega
   rw [<-he];rfl
end
section
open Go.Am
attribute [local simp, local push_cast] num boo str ints aV aTab zA aS aT aC aRow rRow rTab
def xn (n:Nat):Inst:=List.replicate n []
theorem emptyI_at (n k:Nat):(xn n).getD k default=[]:=by
 simp only [xn,List.getD_eq_getElem?_getD]
 rcases Nat.lt_or_ge k n with h | h
 ·simp [h]
 ·rw [List.getElem?_eq_none (by simpa using h)];rfl
theorem kU (n:Nat):ze rTab (xn n)=List.replicate n [D.sl 1 []]:=by simp [ze,xn,rTab]
attribute [local simp, local push_cast] kU
theorem uniqs_nil (k:Int): ∀(us:List (List Int)) (n:Nat),wN k [] us n=[]
 | [],_=>rfl
 | u::us,n=>by simp [wN,keyM,wL,uniqs_nil k us]
theorem chks_nil (k:Int): ∀(es:List Ex) (n:Nat),wa k [] es n=[]
 | [],_=>rfl
 | e::es,n=>by simp [wa,chkR,chks_nil k es]
theorem fors_nil {s:Sch} {i:Inst} {b:List Bool} {k:Nat} (h:i.getD k default=[]): ∀(fs:List Fk) (n:Nat),ut s i b k fs n=[]
 | [],_=>rfl
 | f::fs,n=>by
   rw [ut,fors_nil h fs,forM1,uc,h]
   split<;>simp [uN]
theorem tab_nil {s:Sch} {i:Inst} {b:List Bool} {k:Nat} (h:i.getD k default=[]):tabM s i b k=[]:=by
 unfold tabM jU
 rw [fors_nil h,h,uniqs_nil,chks_nil]
 simp [yr,keyM,wL]
theorem valid_empty {s:Sch} (h:yq s=0):xi s (xn s.length)=true:=by
 have:vioM s (xn s.length)=([],0):=by
  rw [vioM,if_neg (by omega),if_neg (by simp [xn])]
  congr 1
  simp only [allM,List.flatMap_eq_nil_iff]
  intro k _
  exact tab_nil (emptyI_at _ _)
 rw [xi,this];rfl
end
section
open Go.Am
theorem ui64:Tryz.prog.underlying 3=some (.int .i64):=by kernel_rfl
theorem uint64:Tryz.prog.underlying 2=some (.int .i64):=by kernel_rfl
theorem ustr:Tryz.prog.underlying 9=some .string:=by kernel_rfl
theorem uboo:Tryz.prog.underlying 4=some .bool:=by kernel_rfl
theorem sVal:j7 Tryz.prog 45 [3,2,9]=true:=by kernel_rfl
section
variable {H:Type} {enc:TypeId×Value->H} {w:World} {base:Nat} {spare:Nat->Bool} {held:Bool} {fuel:Nat} {cs:List Value} {x:DataW H×List MemPlace}
end
end
end Go.Proofs.YtampbaaiddbacaaGreatDoor
