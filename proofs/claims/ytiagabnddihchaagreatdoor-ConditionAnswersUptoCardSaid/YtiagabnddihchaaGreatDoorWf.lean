/- Conditions over finite domains (part Wf) -/
import Derived.Test.YtiagabnddihchaaGreatDoorWd
set_option maxRecDepth 100000
set_option maxHeartbeats 4000000
set_option linter.all false
namespace Go.Proofs.YtiagabnddihchaaGreatDoor
section
open Go.Am
attribute [local simp, local push_cast] num boo str ints aV
def xK (v:Val) (t:Int):Ex:=
 if v.kind=1 then .mk 2 0 v.num ByteArray.empty 0 [] else if v.kind=2 then .mk 3 0 v.num ByteArray.empty 0 [] else if v.kind=3 then .mk 4 0 0 v.text 0 [] else .mk 1 t 0 ByteArray.empty 0 []
def xn (e:Ex):Int:=if e.op=1 then e.type else if e.op=2 then 1 else if e.op=3 then 2 else 3
def yh (e:Ex):Bool:=(e.kids.length==0)&&(decide (1<=e.op)&&decide (e.op<=4))
def xF (e:Ex):Bool:=(decide (6<=e.op)&&decide (e.op<=28))&&yb e.op e.kids.length
def y7 (e:Ex):Int:=
 if e.op=12 then 3 else if e.op<=11\/e.op=13 then 1 else if e.op=26 then xn (e.kids.getD 1 default) else if e.op=27 then xn (e.kids.getD 0 default) else 2
def isB (e:Ex) (n:Int):Bool:=((e.op==3)&&(e.kids.length==0))&&(e.num==n)
def xZ (e:Ex) (n:Int):Bool:=(e.kids.length==2)&&(isB (e.kids.getD 0 default) n || isB (e.kids.getD 1 default) n)
def wJ (e:Ex):Bool:=decide (14<=e.op)&&decide (e.op<=25)
def jX (e:Ex):Bool:=xF e&&(((e.op==25) || (e.op==21)) || (e.op==20))
def xT (n:Int):Ex:= .mk 3 0 n ByteArray.empty 0 []
def zD (e:Ex) (ks:List Ex):Ex:= .mk e.op e.type e.num e.text e.col ks
def foldO (o:Ex):Ex:=
 if o.kids≠[]/\o.kids.all yh=true/\xF o=true then xK (zN [] o) (y7 o)
 else if o.op=22/\xZ o 0=true then xT 0
 else if o.op=23/\xZ o 1=true then xT 1
 else if o.kids=[] then o
 else if o.op=24/\o.kids.length=1/\(o.kids.getD 0 default).op=24/\(o.kids.getD 0 default).kids.length=1/\wJ ((o.kids.getD 0 default).kids.getD 0 default)=true then (o.kids.getD 0 default).kids.getD 0 default
 else if o.op=25/\o.kids.length=1/\jX (o.kids.getD 0 default)=true then o.kids.getD 0 default
 else if o.op=26/\o.kids.length=3/\(o.kids.getD 0 default).op=3/\(o.kids.getD 0 default).kids.length=0 then (if (o.kids.getD 0 default).num=1 then o.kids.getD 1 default else o.kids.getD 2 default)
 else o
mutual
def xB:Ex->Ex
 | .mk a b c d g ks=>foldO (.mk a b c d g (foldL ks))
def foldL:List Ex->List Ex
 | []=>[]
 | e::l=>xB e::foldL l
end
theorem foldL_eq: ∀l,foldL l=l.map xB
 | []=>rfl
 | e::l=>by rw [foldL,foldL_eq l];rfl
theorem foldM_eq (e:Ex):xB e=foldO (zD e (e.kids.map xB)):=by cases e;rw [xB,foldL_eq];rfl
theorem zj (e:Ex) (ks:List Ex):(zD e ks).kids=ks:=rfl
theorem evalK_apply (row:List Val) (e:Ex) (vs:List Val) (h:6<=e.op) (h26:e.op≠26) (hc:yf e=true):zR row e vs=z6 e.op vs:=by
 unfold zR
 rw [if_neg (by rw [hc];decide),if_neg (by omega),if_neg (by omega),if_neg (by omega),if_neg (by omega),if_neg h26]
mutual
def wE:Ex->Nat
 | .mk _ _ _ _ _ ks=>1+sizeTs ks
def sizeTs:List Ex->Nat
 | []=>0
 | e::l=>wE e+sizeTs l
end
theorem sizeT_eq (e:Ex):wE e=1+sizeTs e.kids:=by cases e;rw [wE];rfl
theorem sizeTs_mem: ∀(l:List Ex) (e:Ex),e∈l->wE e<=sizeTs l
 | [],_,h=>by simp at h
 | x::l,e,h=>by
   rw [sizeTs]
   rcases List.mem_cons.1 h with rfl | h
   ·omega
   ·have:=sizeTs_mem l e h;omega
theorem getD_kid {e:Ex} {n:Nat} (h:n<e.kids.length):e.kids.getD n default∈e.kids:=zx h
theorem const_kids (v:Val) (t:Int):(xK v t).kids=[]:=by
 unfold xK
 split
 ·rfl
 split
 ·rfl
 split
 ·rfl
 ·rfl
theorem ok12_const (v:Val) (t:Int):Ok12 (xK v t):=
 ⟨_,by rw [const_kids];exact Nat.zero_le _,fun k hk=>by rw [const_kids] at hk;cases hk⟩
theorem ok12_foldO {o:Ex} (h:Ok12 o):Ok12 (foldO o):=by
 have hg: ∀n,n<o.kids.length->Ok12 (o.kids.getD n default):=fun n hn=>h.kid (getD_kid hn)
 unfold foldO
 split
 ·exact ok12_const _ _
 split
 ·exact ⟨_,by simp [xT,Ex.kids],fun k hk=>absurd hk (by simp [xT,Ex.kids])⟩
 split
 ·exact ⟨_,by simp [xT,Ex.kids],fun k hk=>absurd hk (by simp [xT,Ex.kids])⟩
 split
 ·exact h
 split
 ·exact (hg 0 (by omega)).kid (getD_kid (by omega))
 split
 ·exact hg 0 (by omega)
 split
 ·split
  ·exact hg 1 (by omega)
  ·exact hg 2 (by omega)
 ·exact h
theorem ok12_fold: ∀e:Ex,Ok12 e->Ok12 (xB e):=
 xj (p:=fun e=>Ok12 e->Ok12 (xB e)) fun e ih ho=>by
  rw [foldM_eq]
  refine ok12_foldO ⟨_,by rw [zj,List.length_map];exact ho.kids,fun k hk=>?_⟩
  rw [zj] at hk
  obtain ⟨x,hx,rfl⟩:=List.mem_map.1 hk
  exact ih x hx (ho.kid hx)
end
section
open Go.Am
attribute [local simp, local push_cast] num boo str ints aV
def zn:List Row->Nat
 | []=>1
 | l::d=>l.length * zn d
def strd (d:List Row) (i:Nat):Nat:=zn (d.drop (i+1))
def dig (d:List Row) (i n:Nat):Nat:=n / strd d i % (d.getD i default).length
def ptM (d:List Row) (n:Nat):Row:=(List.range d.length).map fun i=>(d.getD i default).getD (dig d i n) default
def Full (d:List Row):Prop:= ∀l∈d,0<l.length
theorem Full.tail {l:Row} {d:List Row} (h:Full (l::d)):Full d:=fun x hx=>h x (by simp [hx])
theorem Full.drop {d:List Row} (h:Full d) (n:Nat):Full (d.drop n):=fun x hx=>h x (List.mem_of_mem_drop hx)
theorem Full.at {d:List Row} (h:Full d) {i:Nat} (hi:i<d.length):0<(d.getD i default).length:=h _ (zx hi)
theorem yX: ∀{d:List Row},Full d->0<zn d
 | [],_=>by simp [zn]
 | l::d,h=>by rw [zn];exact Nat.mul_pos (h l (by simp)) (yX h.tail)
theorem vt {d:List Row} (h:Full d) (i:Nat):0<strd d i:=yX (h.drop _)
theorem x8 {d:List Row} {i:Nat} (hi:i<d.length):zn (d.drop i)=(d.getD i default).length * strd d i:=by
 rw [yc d i hi,zn];rfl
theorem xf {d:List Row}: ∀{i j:Nat},i<=j->zn (d.drop j) ∣ zn (d.drop i):=by
 intro i j h
 induction j with
 | zero=>rw [Nat.le_zero.1 h];exact Nat.dvd_refl _
 | succ j ih=>
   rcases Nat.lt_or_ge i (j+1) with h1 | h1
   ·refine Nat.dvd_trans ?_ (ih (by omega))
    rcases Nat.lt_or_ge j d.length with h2 | h2
    ·rw [x8 h2];exact Nat.dvd_mul_left _ _
    ·rw [List.drop_eq_nil_of_le h2,List.drop_eq_nil_of_le (by omega)];exact Nat.dvd_refl _
   ·rw [show i=j+1 from by omega];exact Nat.dvd_refl _
theorem ue {d:List Row} (h:Full d) {i:Nat} (hi:i<d.length) (n:Nat):dig d i n<(d.getD i default).length:=Nat.mod_lt _ (h.at hi)
theorem dig_same {d:List Row} {i n:Nat} (h: ¬strd d i ∣ n+1):dig d i (n+1)=dig d i n:=by
 unfold dig;rw [Nat.succ_div_of_not_dvd h]
theorem dig_up {d:List Row} {i n:Nat} (h:strd d i ∣ n+1) (h2:dig d i n+1<(d.getD i default).length):dig d i (n+1)=dig d i n+1:=by
 unfold dig at h2 ⊢
 rw [Nat.succ_div_of_dvd h,Nat.add_mod,Nat.mod_eq_of_lt (a:=1) (by omega)]
 exact Nat.mod_eq_of_lt h2
theorem wP {d:List Row} (hf:Full d) {i n:Nat} (hi:i<d.length) (h:strd d i ∣ n+1) (h2: ¬dig d i n+1<(d.getD i default).length):dig d i (n+1)=0/\zn (d.drop i) ∣ n+1:=by
 have h3:=ue hf hi n
 unfold dig at h2 h3 ⊢
 have e:(n / strd d i+1) % (d.getD i default).length=0:=by
  have:n / strd d i % (d.getD i default).length+1=(d.getD i default).length:=by omega
  rw [<-Nat.mod_add_mod,this,Nat.mod_self]
 refine ⟨by rw [Nat.succ_div_of_dvd h];exact e,?_⟩
 rw [x8 hi]
 obtain ⟨q,hq⟩:=h
 have hS:=vt hf i
 have e2:n / strd d i+1=q:=by
  have:=Nat.succ_div_of_dvd (a:=n) (b:=strd d i) ⟨q,hq⟩
  rw [<-this,hq,Nat.mul_div_cancel_left _ hS]
 rw [e2] at e
 rw [hq,Nat.mul_comm]
 exact Nat.mul_dvd_mul_left _ (Nat.dvd_of_mod_eq_zero e)
theorem dig_stay {d:List Row} (hf:Full d) {i j n:Nat} (hj:j<i) (hi:i<d.length) (h:strd d i ∣ n+1) (h2:dig d i n+1<(d.getD i default).length):dig d j (n+1)=dig d j n:=by
 refine dig_same fun hd=>?_
 have h3:zn (d.drop i) ∣ n+1:=Nat.dvd_trans (xf (show j+1<=i by omega)) hd
 have h4:=dig_up h h2
 obtain ⟨q,hq⟩:=h3
 rw [x8 hi] at hq
 have hS:=vt hf i
 have e:(n+1) / strd d i=(d.getD i default).length * q:=by
  rw [hq,Nat.mul_right_comm,Nat.mul_div_cancel _ hS]
 unfold dig at h4
 rw [e,Nat.mul_mod_right] at h4
 omega
def atM (d:List Row) (n k:Nat):List Int:=(List.range d.length).map fun j=>((if j<k then dig d j n else dig d j (n+1):Nat):Int)
def xM (d:List Row) (n k:Nat):Row:=(List.range d.length).map fun j=>(d.getD j default).getD (if j<k then dig d j n else dig d j (n+1)) default
theorem y9 (d:List Row) (n k:Nat):(atM d n k).length=d.length:=by simp [atM]
theorem yK (d:List Row) (n k:Nat):(xM d n k).length=d.length:=by simp [xM]
theorem yk (d:List Row) (n:Nat):(ptM d n).length=d.length:=by simp [ptM]
theorem jt (d:List Row) (n:Nat):xM d n d.length=ptM d n:=by
 unfold xM ptM
 exact List.map_congr_left fun j hj=>by rw [if_pos (List.mem_range.1 hj)]
theorem jD {d:List Row} {n k j:Nat} (hj:j<d.length):(atM d n k).getD j default=((if j<k then dig d j n else dig d j (n+1):Nat):Int):=by
 simp [atM,List.getD_eq_getElem?_getD,hj]
theorem yQ {α:Type} (f g:Nat->α) (m i:Nat) (a:α) (hi:i<m) (h1:g i=a) (h2: ∀j,j<m->j≠i->f j=g j):((List.range m).map f).set i a=(List.range m).map g:=by
 apply List.ext_getElem?
 intro j
 rw [List.getElem?_set]
 by_cases hj:i=j
 ·subst hj
  rw [if_pos rfl]
  simp [hi,h1]
 ·rw [if_neg hj]
  by_cases hjm:j<m
  ·simp [hjm,h2 j hjm (Ne.symm hj)]
  ·simp [hjm]
theorem uz {d:List Row} (hf:Full d) {n k:Nat} (hk:k<d.length) (h:zn (d.drop (k+1)) ∣ n+1) (h2: ¬dig d k n+1<(d.getD k default).length):(atM d n (k+1)).set k 0=atM d n k:=by
 refine yQ _ _ _ _ _ hk ?_ fun j hj hne=>?_
 ·rw [if_neg (by omega),(wP hf hk h h2).1];rfl
 ·skip
  by_cases h3:j<k
  ·rw [if_pos (by omega),if_pos h3]
  ·rw [if_neg (by omega),if_neg h3]
theorem js {d:List Row} (hf:Full d) {n k:Nat} (hk:k<d.length) (h:zn (d.drop (k+1)) ∣ n+1) (h2: ¬dig d k n+1<(d.getD k default).length):(xM d n (k+1)).set k ((d.getD k default).getD 0 default)=xM d n k:=by
 refine yQ _ _ _ _ _ hk ?_ fun j hj hne=>?_
 ·rw [if_neg (by omega),(wP hf hk h h2).1]
 ·skip
  by_cases h3:j<k
  ·rw [if_pos (by omega),if_pos h3]
  ·rw [if_neg (by omega),if_neg h3]
theorem atM_up {d:List Row} (hf:Full d) {n k:Nat} (hk:k<d.length) (h:zn (d.drop (k+1)) ∣ n+1) (h2:dig d k n+1<(d.getD k default).length):(atM d n (k+1)).set k ((dig d k n+1:Nat):Int)=atM d (n+1) d.length:=by
 refine yQ _ _ _ _ _ hk ?_ fun j hj hne=>?_
 ·rw [if_pos hk,dig_up h h2]
 ·skip
  rw [if_pos hj]
  by_cases h3:j<k
  ·rw [if_pos (by omega),dig_stay hf h3 hk h h2]
  ·rw [if_neg (by omega)]
theorem xM_up {d:List Row} (hf:Full d) {n k:Nat} (hk:k<d.length) (h:zn (d.drop (k+1)) ∣ n+1) (h2:dig d k n+1<(d.getD k default).length):(xM d n (k+1)).set k ((d.getD k default).getD (dig d k n+1) default)=xM d (n+1) d.length:=by
 refine yQ _ _ _ _ _ hk ?_ fun j hj hne=>?_
 ·rw [if_pos hk,dig_up h h2]
 ·skip
  rw [if_pos hj]
  by_cases h3:j<k
  ·rw [if_pos (by omega),dig_stay hf h3 hk h h2]
  ·rw [if_neg (by omega)]
theorem wh {d:List Row} {n:Nat} (hn:n<zn d) (h:zn d ∣ n+1):n+1=zn d:=by
 have:=Nat.le_of_dvd (by omega) h
 omega
theorem dig_eq_of {d:List Row} {i n m:Nat} (h:n / strd d i=m / strd d i):dig d i n=dig d i m:=by unfold dig;rw [h]
theorem dig_put {d:List Row} (hf:Full d) {i n j v:Nat} (hi:i<d.length) (hj:j<d.length) (hv:v<(d.getD i default).length):
 dig d j (n-dig d i n * strd d i+v * strd d i)=if j=i then v else dig d j n:=by
 have hS:=vt hf i
 have hL:=hf.at hi
 have hle:dig d i n * strd d i<=n:=by
  refine Nat.le_trans (Nat.mul_le_mul_right _ (Nat.mod_le _ _)) ?_
  exact Nat.div_mul_le_self _ _
 obtain ⟨a,g,r,hr,hg,hn⟩: ∃a g r,r<strd d i/\g<(d.getD i default).length/\n=(a * (d.getD i default).length+g) * strd d i+r:=by
  refine ⟨n / strd d i / (d.getD i default).length,n / strd d i % (d.getD i default).length,n % strd d i,Nat.mod_lt _ hS,Nat.mod_lt _ hL,?_⟩
  rw [Nat.div_add_mod',Nat.div_add_mod']
 have hdg:dig d i n=g:=by
  unfold dig
  rw [hn,Nat.mul_comm _ (strd d i),Nat.mul_add_div hS,Nat.div_eq_of_lt hr,Nat.add_zero,Nat.mul_add_mod',Nat.mod_eq_of_lt hg]
 have hm:n-dig d i n * strd d i+v * strd d i=(a * (d.getD i default).length+v) * strd d i+r:=by
  rw [hdg,hn,Nat.add_mul,Nat.add_mul]
  omega
 rw [hm]
 rcases Nat.lt_trichotomy j i with h | h | h
 ·rw [if_neg (by omega),hn]
  refine dig_eq_of ?_
  have hd:zn (d.drop i) ∣ strd d j:=xf (by omega)
  obtain ⟨q,hq⟩:=hd
  rw [x8 hi] at hq
  have key: ∀w,w<(d.getD i default).length->((a * (d.getD i default).length+w) * strd d i+r) / strd d j=a / q:=by
   intro w hw
   rw [hq,<-Nat.div_div_eq_div_mul]
   congr 1
   have:(a * (d.getD i default).length+w) * strd d i+r=a * ((d.getD i default).length * strd d i)+(w * strd d i+r):=by
    rw [Nat.add_mul,Nat.mul_assoc,Nat.add_assoc]
   have hw2:w * strd d i+r<(d.getD i default).length * strd d i:=by
    have:(w+1) * strd d i<=(d.getD i default).length * strd d i:=Nat.mul_le_mul_right _ hw
    rw [Nat.add_mul] at this
    omega
   rw [this,Nat.mul_comm a,Nat.mul_add_div (Nat.mul_pos hL hS),Nat.div_eq_of_lt hw2,Nat.add_zero]
  rw [key v hv,key g hg]
 ·subst h
  rw [if_pos rfl]
  unfold dig
  rw [Nat.mul_comm _ (strd d j),Nat.mul_add_div hS,Nat.div_eq_of_lt hr,Nat.add_zero,Nat.mul_add_mod',Nat.mod_eq_of_lt hv]
 ·rw [if_neg (by omega),hn]
  unfold dig
  have hdj:zn (d.drop j) ∣ strd d i:=xf (by omega)
  obtain ⟨q,hq⟩:=hdj
  rw [x8 hj] at hq
  have key: ∀w,((a * (d.getD i default).length+w) * strd d i+r) / strd d j % (d.getD j default).length=r / strd d j % (d.getD j default).length:=by
   intro w
   have hSj:=vt hf j
   have e:(a * (d.getD i default).length+w) * strd d i+r=strd d j * ((d.getD j default).length * (q * (a * (d.getD i default).length+w)))+r:=by
    rw [hq]
    congr 1
    rw [Nat.mul_comm (a * _+w),<-Nat.mul_assoc,<-Nat.mul_assoc,Nat.mul_comm (strd d j)]
   rw [e,Nat.mul_add_div hSj,Nat.mul_add_mod]
  rw [key v,key g]
theorem pt_put {d:List Row} (hf:Full d) {i n v:Nat} (hi:i<d.length) (hv:v<(d.getD i default).length):
 ptM d (n-dig d i n * strd d i+v * strd d i)=(ptM d n).set i ((d.getD i default).getD v default):=by
 symm
 refine yQ _ _ _ _ _ hi ?_ fun j hj hne=>?_
 ·rw [dig_put hf hi hi hv,if_pos rfl]
 ·rw [dig_put hf hi hj hv,if_neg hne]
theorem put_lt {d:List Row} (hf:Full d) {i n v:Nat} (hi:i<d.length) (hv:v<(d.getD i default).length) (hn:n<zn d):n-dig d i n * strd d i+v * strd d i<zn d:=by
 have hS:=vt hf i
 have hL:=hf.at hi
 have hd:zn (d.drop i) ∣ zn d:=by have:=xf (d:=d) (Nat.zero_le i);simpa using this
 obtain ⟨q,hq⟩:=hd
 rw [x8 hi] at hq
 have hle:dig d i n * strd d i<=n:=Nat.le_trans (Nat.mul_le_mul_right _ (Nat.mod_le _ _)) (Nat.div_mul_le_self _ _)
 have h1:n=(n / strd d i / (d.getD i default).length * (d.getD i default).length+dig d i n) * strd d i+n % strd d i:=by
  show n=(_ * _+n / strd d i % (d.getD i default).length) * strd d i+_
  rw [Nat.div_add_mod',Nat.div_add_mod']
 have h2:n % strd d i<strd d i:=Nat.mod_lt _ hS
 have h3:n / strd d i / (d.getD i default).length<q:=by
  rw [Nat.div_div_eq_div_mul,Nat.mul_comm (strd d i)]
  exact Nat.div_lt_of_lt_mul (by rw [<-hq];exact hn)
 generalize n / strd d i / (d.getD i default).length=a at h1 h3
 generalize n % strd d i=r at h1 h2
 generalize dig d i n=g at h1 hle ⊢
 generalize strd d i=S at *
 generalize (d.getD i default).length=L at *
 have e:n-g * S+v * S=(a * L+v) * S+r:=by
  rw [h1,Nat.add_mul,Nat.add_mul];omega
 rw [e,hq]
 have h4:(a * L+v)+1<=(a+1) * L:=by rw [Nat.add_mul];omega
 have h5:(a+1) * L<=L * q:=by rw [Nat.mul_comm];exact Nat.mul_le_mul_left _ h3
 have h6:((a * L+v)+1) * S<=L * q * S:=Nat.mul_le_mul_right _ (Nat.le_trans h4 h5)
 rw [Nat.add_mul] at h6
 have:L * S * q=L * q * S:=by rw [Nat.mul_right_comm]
 omega
end
section
open Go.Am
attribute [local simp, local push_cast] num boo str ints aV aRow
theorem wG {b c:Bool} {t:List (Nat×A)} {o:List (Nat×Ob)} (h:b=true ↔ c=true) (ho:keepIn (inO []) o):retx (some (True,A.d (.lit (.bool b)))) ⟨t,o⟩ (boo c) []:=by
 have e:b=c:=Bool.eq_iff_iff.2 h
 subst e
 exact zk trivial rfl ho
theorem wq (e:Ex):yh e=true ↔ e.kids.length=0/\1<=e.op/\e.op<=4:=by
 unfold yh;simp only [Bool.and_eq_true,decide_eq_true_eq,beq_iff_eq]
theorem const_no {e:Ex} (h: ¬(e.kids.length=0/\1<=e.op/\e.op<=4)):yh e=false:=by
 rw [<-Bool.not_eq_true,wq];exact h
theorem kH (e:Ex):xF e=true ↔ (6≤e.op∧e.op≤28)∧((e.op=11∨e.op=13∨e.op=21∨e.op=24∨e.op=25)∧e.kids.length=1∨e.op=26∧e.kids.length=3∨e.op=28∧2≤e.kids.length∨
 ¬(e.op=11\/e.op=13\/e.op=21\/e.op=24\/e.op=25\/e.op=26\/e.op=28)/\e.kids.length=2):=by
 unfold xF yb
 generalize e.kids.length=n
 generalize e.op=op
 simp only [Bool.and_eq_true,decide_eq_true_eq,and_congr_right_iff]
 intro h
 rw [if_neg (by omega)]
 split
 ·rename_i h2
  simp only [Bool.or_eq_true,beq_iff_eq] at h2 ⊢
  omega
 ·rename_i h2
  simp only [Bool.or_eq_true,beq_iff_eq] at h2
  split
  ·rename_i h3
   simp only [beq_iff_eq] at h3 ⊢
   omega
  ·rename_i h3
   simp only [beq_iff_eq] at h3
   split
   ·rename_i h4
    simp only [beq_iff_eq,decide_eq_true_eq] at h4 ⊢
    omega
   ·rename_i h4
    simp only [beq_iff_eq] at h4 ⊢
    omega
theorem isB_iff (e:Ex) (n:Int):isB e n=true ↔ (e.op=3/\e.kids.length=0)/\e.num=n:=by
 unfold isB;simp only [Bool.and_eq_true,beq_iff_eq]
theorem kp (e:Ex):ACall Tryz.prog 78 [aE e] [] (.tup [num (if yh e=true then xn e else 0),boo (yh e)]) []:=by
 refine zm mixed ttok Tryz.func78 Tryz.ntmps78 Tryz.results78 ?_
 generalize hr:A.tup [num (if yh e=true then xn e else 0),boo (yh e)]=R
 simp -implicitDefEqProofs only [argT,↓zb,push_cast,simprocAttr,tte]
 refine za (fun h0=>?_) fun h0=>?_
 ·have hc:yh e=false:=const_no (by simp only [decide_eq_true_eq] at h0;omega)
  exact zF trivial (by rw [<-hr,hc];rfl) (by simp [ends])
 have hk:e.kids.length=0:=by simp only [decide_eq_false_iff_not] at h0;omega
 refine za (fun h1=>?_) fun h1=>?_
 ·have e1:e.op=1:=by simpa using h1
  have hc:yh e=true:=(wq e).2 (by omega)
  have ht:xn e=e.type:=by simp [xn,e1]
  exact zF trivial (by rw [<-hr,hc,ht];rfl) (by simp [ends])
 refine za (fun h2=>?_) fun h2=>?_
 ·have e1:e.op=2:=by simpa using h2
  have hc:yh e=true:=(wq e).2 (by omega)
  have ht:xn e=1:=by simp [xn,e1]
  exact zF trivial (by rw [<-hr,hc,ht];rfl) (by simp [ends])
 refine za (fun h3=>?_) fun h3=>?_
 ·have e1:e.op=3:=by simpa using h3
  have hc:yh e=true:=(wq e).2 (by omega)
  have ht:xn e=2:=by simp [xn,e1]
  exact zF trivial (by rw [<-hr,hc,ht];rfl) (by simp [ends])
 refine za (fun h4=>?_) fun h4=>?_
 ·have e1:e.op=4:=by simpa using h4
  have hc:yh e=true:=(wq e).2 (by omega)
  have ht:xn e=3:=by simp [xn,e1]
  exact zF trivial (by rw [<-hr,hc,ht];rfl) (by simp [ends])
 have hc:yh e=false:=const_no (by simp only [beq_eq_false_iff_ne,ne_eq] at h1 h2 h3 h4;omega)
 exact zF trivial (by rw [<-hr,hc];rfl) (by simp [ends])
theorem jn (e:Ex):ACall Tryz.prog 79 [aE e] [] (boo (xF e)) []:=by
 refine zm mixed ttok Tryz.func79 Tryz.ntmps79 Tryz.results79 ?_
 have hi:=kH e
 simp -implicitDefEqProofs only [argT,↓zb,push_cast,simprocAttr,tte]
 repeat' refine za (fun h=>?_) fun h=>?_
 all_goals
  refine wG ?_ (by simp [ends])
  rw [hi]
  clear hi
  simp only [beq_iff_eq,beq_eq_false_iff_ne,ne_eq,decide_eq_true_eq,decide_eq_false_iff_not,Bool.false_eq_true,false_iff,true_iff,eq_self] at *
  omega
theorem uL (e:Ex):ACall Tryz.prog 92 [aE e] [] (boo (xF e)) []:=by
 refine zm mixed ttok Tryz.func92 Tryz.ntmps92 Tryz.results92 ?_
 have hi:=kH e
 simp -implicitDefEqProofs only [argT,↓zb,push_cast,simprocAttr,tte]
 repeat' refine za (fun h=>?_) fun h=>?_
 all_goals
  refine wG ?_ (by simp [ends])
  rw [hi]
  clear hi
  simp only [beq_iff_eq,beq_eq_false_iff_ne,ne_eq,decide_eq_true_eq,decide_eq_false_iff_not,Bool.false_eq_true,ge_iff_le,false_iff,true_iff,eq_self] at *
  omega
theorem c_truthE (e:Ex) (n:Int):ACall Tryz.prog 104 [aE e,num n] [] (boo (isB e n)) []:=by
 refine zm mixed ttok Tryz.func104 Tryz.ntmps104 Tryz.results104 ?_
 have hi:=isB_iff e n
 simp -implicitDefEqProofs only [argT,↓zb,push_cast,simprocAttr,tte]
 repeat' refine za (fun h=>?_) fun h=>?_
 all_goals
  refine wG ?_ (by simp [ends])
  rw [hi]
  clear hi
  simp only [beq_iff_eq,beq_eq_false_iff_ne,ne_eq,decide_eq_true_eq,decide_eq_false_iff_not,Bool.false_eq_true,false_iff,true_iff,eq_self] at *
  omega
theorem c_is (e:Ex) (n:Int):ACall Tryz.prog 94 [aE e,num n] [] (boo (isB e n)) []:=by
 refine zm mixed ttok Tryz.func94 Tryz.ntmps94 Tryz.results94 ?_
 have hi:=isB_iff e n
 simp -implicitDefEqProofs only [argT,↓zb,push_cast,simprocAttr,tte]
 repeat' refine za (fun h=>?_) fun h=>?_
 all_goals
  refine wG ?_ (by simp [ends])
  rw [hi]
  clear hi
  simp only [beq_iff_eq,beq_eq_false_iff_ne,ne_eq,decide_eq_true_eq,decide_eq_false_iff_not,Bool.false_eq_true,false_iff,true_iff,eq_self] at *
  omega
theorem c_logical (e:Ex):ACall Tryz.prog 83 [aE e] [] (boo (wJ e)) []:=by
 refine zm mixed ttok Tryz.func83 Tryz.ntmps83 Tryz.results83 ?_
 have hi:wJ e=true ↔ 14<=e.op/\e.op<=25:=by unfold wJ;simp only [Bool.and_eq_true,decide_eq_true_eq]
 simp -implicitDefEqProofs only [argT,↓zb,push_cast,simprocAttr,tte]
 repeat' refine za (fun h=>?_) fun h=>?_
 all_goals
  refine wG ?_ (by simp [ends])
  rw [hi]
  clear hi
  simp only [beq_iff_eq,beq_eq_false_iff_ne,ne_eq,decide_eq_true_eq,decide_eq_false_iff_not,Bool.false_eq_true,false_iff,true_iff,eq_self] at *
  omega
theorem c_rtruth23 (e:Ex):ACall Tryz.prog 95 [aE e] [] (boo (wJ e)) []:=by
 refine zm mixed ttok Tryz.func95 Tryz.ntmps95 Tryz.results95 ?_
 have hi:wJ e=true ↔ 14<=e.op/\e.op<=25:=by unfold wJ;simp only [Bool.and_eq_true,decide_eq_true_eq]
 simp -implicitDefEqProofs only [argT,↓zb,push_cast,simprocAttr,tte]
 repeat' refine za (fun h=>?_) fun h=>?_
 all_goals
  refine wG ?_ (by simp [ends])
  rw [hi]
  clear hi
  simp only [beq_iff_eq,beq_eq_false_iff_ne,ne_eq,decide_eq_true_eq,decide_eq_false_iff_not,Bool.false_eq_true,ge_iff_le,false_iff,true_iff,eq_self] at *
  omega
def kO (e:Ex):Bool:=decide (1<=e.op)&&decide (e.op<=4)
theorem c_rconstant (e:Ex):ACall Tryz.prog 91 [aE e] [] (boo (kO e)) []:=by
 refine zm mixed ttok Tryz.func91 Tryz.ntmps91 Tryz.results91 ?_
 have hi:kO e=true ↔ 1<=e.op/\e.op<=4:=by unfold kO;simp only [Bool.and_eq_true,decide_eq_true_eq]
 simp -implicitDefEqProofs only [argT,↓zb,push_cast,simprocAttr,tte]
 repeat' refine za (fun h=>?_) fun h=>?_
 all_goals
  refine wG ?_ (by simp [ends])
  rw [hi]
  clear hi
  simp only [beq_iff_eq,beq_eq_false_iff_ne,ne_eq,decide_eq_true_eq,decide_eq_false_iff_not,Bool.false_eq_true,ge_iff_le,false_iff,true_iff,eq_self] at *
  omega
theorem c_rkind (e:Ex):ACall Tryz.prog 114 [aE e] [] (num (if e.op=2 then 1 else if e.op=3 then 2 else if e.op=4 then 3 else e.type)) []:=by
 refine zm mixed ttok Tryz.func114 Tryz.ntmps114 Tryz.results114 ?_
 generalize hr:num (if e.op=2 then 1 else if e.op=3 then 2 else if e.op=4 then 3 else e.type)=R
 simp -implicitDefEqProofs only [argT,↓zb,push_cast,simprocAttr,tte]
 refine za (fun h1=>?_) fun h1=>?_
 ·rw [if_pos (by simpa using h1)] at hr
  exact zk trivial hr (by simp [ends])
 rw [if_neg (by simpa using h1)] at hr
 refine za (fun h2=>?_) fun h2=>?_
 ·rw [if_pos (by simpa using h2)] at hr
  exact zk trivial hr (by simp [ends])
 rw [if_neg (by simpa using h2)] at hr
 refine za (fun h3=>?_) fun h3=>?_
 ·rw [if_pos (by simpa using h3)] at hr
  exact zk trivial hr (by simp [ends])
 rw [if_neg (by simpa using h3)] at hr
 exact zk trivial hr (by simp [ends])
theorem c_rknown (e:Ex):ACall Tryz.prog 96 [aE e] [] (boo (jX e)) []:=by
 refine zm mixed ttok Tryz.func96 Tryz.ntmps96 Tryz.results96 ?_
 have hi:jX e=true ↔ xF e=true/\((e.op=25\/e.op=21)\/e.op=20):=by unfold jX;simp only [Bool.and_eq_true,Bool.or_eq_true,beq_iff_eq]
 simp -implicitDefEqProofs only [argT,↓zb,push_cast,simprocAttr,tte]
 refine zd [[0,0,0,0,0,6]] [] (uL e) ?_
 simp -implicitDefEqProofs only [↓zb,push_cast,simprocAttr,tte]
 generalize xF e=f at hi ⊢
 repeat' refine za (fun h=>?_) fun h=>?_
 all_goals
  refine wG ?_ (by simp [ends])
  rw [hi]
  clear hi
  simp_all
def resC (e:Ex):Int:=if e.op=2 then 1 else if e.op=3 then 2 else if e.op=4 then 3 else e.type
theorem constTy_eq {e:Ex} (h:yh e=true):resC e=xn e:=by
 have:=(wq e).1 h
 unfold resC xn
 repeat' split
 all_goals omega
theorem wv (e:Ex) (hf:xF e=true) (hc: ∀k∈e.kids,yh k=true):ACall Tryz.prog 81 [aE e] [] (num (y7 e)) []:=by
 have hi:=(kH e).1 hf
 refine zm mixed ttok Tryz.func81 Tryz.ntmps81 Tryz.results81 ?_
 generalize hr:num (y7 e)=R
 unfold y7 at hr
 simp -implicitDefEqProofs only [argT,↓zb,push_cast,simprocAttr,tte]
 refine za (fun h12=>?_) fun h12=>?_
 ·rw [if_pos (by simpa using h12)] at hr
  exact zk trivial hr (by simp [ends])
 have n12: ¬e.op=12:=by simpa using h12
 rw [if_neg n12] at hr
 have k13: ∀(P:SL->Prop),True:=fun _=>trivial
 refine za (fun h11=>?_) fun h11=>?_
 ·rw [if_pos (.inl (by simpa using h11))] at hr
  refine za (fun _=>?_) fun h=>absurd h (by rw [h11];decide)
  exact zk trivial hr (by simp [ends])
 have n11: ¬e.op<=11:=by simpa using h11
 refine za (fun h13=>?_) fun h13=>?_
 ·rw [if_pos (.inr (by simpa using h13))] at hr
  exact zk trivial hr (by simp [ends])
 have n13: ¬e.op=13:=by simpa using h13
 rw [if_neg (by omega)] at hr
 refine za (fun h26=>?_) fun h26=>?_
 ·have e26:e.op=26:=by simpa using h26
  have hl:1<e.kids.length:=by omega
  rw [if_pos e26] at hr
  have hk:=hc _ (zx hl)
  have h1:=kp (e.kids.getD 1 default)
  rw [hk,if_pos rfl] at h1
  refine ⟨by omega,?_⟩
  refine zd [[0,0,0,0,0,6]] [] (h1) ?_
  simp -implicitDefEqProofs only [↓zb,push_cast,simprocAttr,tte]
  exact zk trivial hr (by simp [ends])
 have n26: ¬e.op=26:=by simpa using h26
 rw [if_neg n26] at hr
 refine za (fun h27=>?_) fun h27=>?_
 ·have e27:e.op=27:=by simpa using h27
  have hl:0<e.kids.length:=by omega
  rw [if_pos e27] at hr
  have hk:=hc _ (zx hl)
  have h1:=kp (e.kids.getD 0 default)
  rw [hk,if_pos rfl] at h1
  refine ⟨by omega,?_⟩
  refine zd [[0,0,0,0,0,6]] [] (h1) ?_
  simp -implicitDefEqProofs only [↓zb,push_cast,simprocAttr,tte]
  exact zk trivial hr (by simp [ends])
 rw [if_neg (by simpa using h27)] at hr
 exact zk trivial hr (by simp [ends])
theorem xV (e:Ex) (hf:xF e=true) (hc: ∀k∈e.kids,yh k=true):ACall Tryz.prog 93 [aE e] [] (num (y7 e)) []:=by
 have hi:=(kH e).1 hf
 refine zm mixed ttok Tryz.func93 Tryz.ntmps93 Tryz.results93 ?_
 generalize hr:num (y7 e)=R
 unfold y7 at hr
 simp -implicitDefEqProofs only [argT,↓zb,push_cast,simprocAttr,tte]
 refine za (fun h26=>?_) fun h26=>?_
 ·have e26:e.op=26:=by simpa using h26
  have hl:1<e.kids.length:=by omega
  rw [if_neg (by omega),if_neg (by omega),if_pos e26,<-constTy_eq (hc _ (zx hl))] at hr
  unfold resC at hr
  refine ⟨by omega,?_⟩
  refine zd [[0,0,0,0,0,6]] [] (c_rkind (e.kids.getD 1 default)) ?_
  simp -implicitDefEqProofs only [↓zb,push_cast,simprocAttr,tte]
  exact zk trivial hr (by simp [ends])
 have n26: ¬e.op=26:=by simpa using h26
 refine za (fun h27=>?_) fun h27=>?_
 ·have e27:e.op=27:=by simpa using h27
  have hl:0<e.kids.length:=by omega
  rw [if_neg (by omega),if_neg (by omega),if_neg n26,if_pos e27,<-constTy_eq (hc _ (zx hl))] at hr
  unfold resC at hr
  refine ⟨by omega,?_⟩
  refine zd [[0,0,0,0,0,6]] [] (c_rkind (e.kids.getD 0 default)) ?_
  simp -implicitDefEqProofs only [↓zb,push_cast,simprocAttr,tte]
  exact zk trivial hr (by simp [ends])
 have n27: ¬e.op=27:=by simpa using h27
 refine za (fun h12=>?_) fun h12=>?_
 ·rw [if_pos (by simpa using h12)] at hr
  exact zk trivial hr (by simp [ends])
 have n12: ¬e.op=12:=by simpa using h12
 rw [if_neg n12,if_neg n26,if_neg n27] at hr
 refine za (fun h13=>?_) fun h13=>?_
 ·have:e.op≤13:=by simpa using h13
  rw [if_pos (by omega)] at hr
  exact zk trivial hr (by simp [ends])
 have: ¬e.op<=13:=by simpa using h13
 rw [if_neg (by omega)] at hr
 exact zk trivial hr (by simp [ends])
theorem kS (e:Ex) (n:Int):ACall Tryz.prog 82 [aE e,num n] [] (boo (xZ e n)) []:=by
 refine zm mixed ttok Tryz.func82 Tryz.ntmps82 Tryz.results82 ?_
 generalize hr:boo (xZ e n)=R
 unfold xZ at hr
 simp -implicitDefEqProofs only [argT,↓zb,push_cast,simprocAttr,tte]
 refine za (fun h2=>?_) fun h2=>?_
 ·have hl:e.kids.length=2:=by simp only [beq_iff_eq] at h2;omega
  refine ⟨by omega,?_⟩
  refine zd [[0,0,0,0,0,6],[]] [] (c_truthE (e.kids.getD 0 default) n) ?_
  simp -implicitDefEqProofs only [↓zb,push_cast,simprocAttr,tte]
  refine za (fun h3=>?_) fun h3=>?_
  ·rw [h3,hl] at hr
   exact zk trivial hr (by simp [ends])
  ·rw [h3,hl] at hr
   refine ⟨by omega,?_⟩
   refine zd [[0,0,0,0,0,6],[]] [] (c_truthE (e.kids.getD 1 default) n) ?_
   simp -implicitDefEqProofs only [↓zb,push_cast,simprocAttr,tte]
   exact zk trivial hr (by simp [ends])
 ·have hl: ¬e.kids.length=2:=by simp only [beq_eq_false_iff_ne,ne_eq] at h2;omega
  rw [beq_false_of_ne hl] at hr
  exact zk trivial hr (by simp [ends])
end
end Go.Proofs.YtiagabnddihchaaGreatDoor
