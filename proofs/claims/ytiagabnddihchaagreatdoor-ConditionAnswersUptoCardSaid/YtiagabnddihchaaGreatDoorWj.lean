/- Conditions over finite domains (part Wj) -/
import Derived.Test.YtiagabnddihchaaGreatDoorWh
set_option maxRecDepth 100000
set_option maxHeartbeats 4000000
set_option linter.all false
namespace Go.Proofs.YtiagabnddihchaaGreatDoor
section
open Go.Am
attribute [local simp, local push_cast] num boo str ints aV aTab aRow rRow vE
theorem vS (e:Ex) (x:List Val) (ho:Ok12 e):ACall Tryz.prog 17 [aE e,aRow x] [] (boo (zA (zN x e)==1)) []:=by
 refine zm mixed ttok Tryz.func17 Tryz.ntmps17 Tryz.results17 ?_
 simp -implicitDefEqProofs only [argT,↓zb,push_cast,simprocAttr,tte]
 refine zd [[0,0,0,0,0,6],[3]] [] (uK x e ho) ?_
 simp -implicitDefEqProofs only [↓zb,push_cast,simprocAttr,tte]
 refine zd [[0,0,0]] [] (vi (zN x e)) ?_
 simp -implicitDefEqProofs only [↓zb,push_cast,simprocAttr,tte]
 exact zk trivial rfl (by simp [ends])
def x0 (d:List Row) (n:Nat):Row:=(List.range d.length).map fun j=>if j<n then (d.getD j default).getD 0 default else default
theorem vj (d:List Row) (n:Nat):(x0 d n).length=d.length:=by simp [x0]
theorem u0 (d:List Row):zg rV (x0 d 0)=List.replicate d.length [.lit (.int .i64 0),.lit (.int .i64 0),.lit (.string ByteArray.empty)]:=by
 have e:x0 d 0=List.replicate d.length default:=by
  apply List.ext_getElem?
  intro j
  simp only [x0,List.getElem?_map,List.getElem?_replicate]
  by_cases hj:j<d.length
  ·simp [hj]
  ·simp [hj]
 rw [e]
 generalize d.length=n
 induction n with
 | zero=>rfl
 | succ n ih=>rw [List.replicate_succ,List.replicate_succ,zo,ih];rfl
theorem x0_set {d:List Row} {n:Nat} (hn:n<d.length):(x0 d n).set n ((d.getD n default).getD 0 default)=x0 d (n+1):=by
 refine yQ _ _ _ _ _ hn ?_ fun j hj hne=>?_
 ·rw [if_pos (by omega)]
 ·by_cases h:j<n
  ·rw [if_pos h,if_pos (by omega)]
  ·rw [if_neg h,if_neg (by omega)]
theorem dig_zero (d:List Row) (i:Nat):dig d i 0=0:=by unfold dig;rw [Nat.zero_div,Nat.zero_mod]
theorem ju (d:List Row):x0 d d.length=xM d 0 d.length:=by
 unfold x0 xM
 exact List.map_congr_left fun j hj=>by rw [if_pos (List.mem_range.1 hj),if_pos (List.mem_range.1 hj),dig_zero]
theorem jC (d:List Row):zg rI (atM d 0 d.length)=List.replicate d.length [.lit (.int .i64 0)]:=by
 have e:atM d 0 d.length=List.replicate d.length 0:=by
  apply List.ext_getElem?
  intro j
  simp only [atM,List.getElem?_map,List.getElem?_replicate]
  by_cases hj:j<d.length
  ·simp [hj,dig_zero]
  ·simp [hj]
 rw [e]
 generalize d.length=n
 induction n with
 | zero=>rfl
 | succ n ih=>rw [List.replicate_succ,List.replicate_succ,zo,ih];rfl
def xOb (l:Row) (fz:Nat):Ob:= .vec 53 3 (zg rV l) fz
def atOb (l:List Int):Ob:= .vec 3 1 (zg rI l) 0
def E1s (d:List Row) (c:A) (os:List (Nat×Ob)) (n:Nat):SL:=
 ⟨[(18,.d (.lit (.int .i64 n))),(17,.d (.lit (.int .i64 d.length))),(16,aTab d),(5,.vec 15 d.length),(4,.vec 12 d.length),(0,aTab d),(1,c)],[(15,xOb (x0 d n) 0),(12,atOb (atM d 0 d.length))]++os⟩
def E2s (d:List Row) (c:A) (os:Nat->List (Nat×Ob)) (n:Nat):SL:=
 ⟨[(8,.d (.lit (.int .i64 n))),(5,.vec 15 d.length),(4,.vec 12 d.length),(0,aTab d),(1,c)],[(15,xOb (xM d n d.length) 0),(12,atOb (atM d n d.length))]++os n⟩
def E3s (d:List Row) (c:A) (os:List (Nat×Ob)) (n k:Nat):SL:=
 ⟨[(9,.d (.lit (.int .i64 ((k:Int)-1)))),(8,.d (.lit (.int .i64 n))),(5,.vec 15 d.length),(4,.vec 12 d.length),(0,aTab d),(1,c)],[(15,xOb (xM d n k) 0),(12,atOb (atM d n k))]++os⟩
def cntT (v:Nat->Int) (t:Int) (k:Nat):Int:=((List.range k).countP fun i=>v i==t:Nat)
def oCnt (e:Ex) (v:Nat->Int) (k:Nat):List (Nat×Ob):=[(1000,.var [num (cntT v 0 k),num (cntT v 1 k),num (cntT v 2 k)]),(1001,.var (vE e))]
theorem xN: ∀(l:Row) (n:Nat) (v:Val),(zg rV l).set n [.lit (.int .i64 v.kind),.lit (.int .i64 v.num),.lit (.string v.text)]=zg rV (l.set n v)
 | [],_,_=>rfl
 | x::l,0,v=>rfl
 | x::l,n+1,v=>by rw [zo,List.set_cons_succ,xN l n v,List.set_cons_succ,zo]
theorem rows_setI: ∀(l:List Int) (n:Nat) (v:Int),(zg rI l).set n [.lit (.int .i64 v)]=zg rI (l.set n v)
 | [],_,_=>rfl
 | x::l,0,v=>rfl
 | x::l,n+1,v=>by rw [zo,List.set_cons_succ,rows_setI l n v,List.set_cons_succ,zo]
theorem drop3 {l:Row} {n:Nat} (h:n<l.length):List.drop 3 ((zg rV l)[n]?.getD [])=[]:=by
 rw [List.getElem?_eq_getElem (by rw [zc];exact h),Option.getD_some]
 simp [zg,rV]
theorem yZ {l:List Int} {n:Nat} {v:Int} (h:n<l.length):(zg rI l).set n (.lit (.int .i64 v)::List.drop 1 ((zg rI l).getD n []))=zg rI (l.set n v):=by
 rw [List.getD_eq_getElem?_getD,List.getElem?_eq_getElem (by rw [zc];exact h),Option.getD_some,<-rows_setI]
 simp [zg,rI]
theorem yL {l:Row} {n:Nat} {v:Val} (h:n<l.length):(zg rV l).set n (.lit (.int .i64 v.kind):: .lit (.int .i64 v.num):: .lit (.string v.text)::List.drop 3 ((zg rV l).getD n []))=zg rV (l.set n v):=by
 rw [List.getD_eq_getElem?_getD,drop3 h,xN]
theorem j0 {d:List Row} (hf:Full d) {i n:Nat} (hi:i<d.length) (h:zn (d.drop (i+1)) ∣ n+1) (h2:dig d i n+1<(d.getD i default).length) (hn:n<zn d):n+1<zn d:=by
 rcases Nat.lt_or_ge (n+1) (zn d) with h3 | h3
 ·exact h3
 ·exfalso
  have e:n+1=zn d:=by omega
  have h4:=dig_up h h2
  have hd:zn (d.drop i) ∣ zn d:=by have:=xf (d:=d) (Nat.zero_le i);simpa using this
  obtain ⟨q,hq⟩:=hd
  rw [x8 hi] at hq
  have hS:=vt hf i
  have e2:(n+1) / strd d i=(d.getD i default).length * q:=by rw [e,hq,Nat.mul_right_comm,Nat.mul_div_cancel _ hS]
  unfold dig at h4
  rw [e2,Nat.mul_mod_right] at h4
  omega
theorem jQ {p:Prop} {t:List (Nat×A)} {o os':List (Nat×Ob)} {R:A} (hp:p) (hr:A.tup []=R) (ho:keepO (lookO o) (inO os') os') (hin:keepIn (inO os') o):retx (some (p,A.tup [])) ⟨t,o⟩ R os':=by
 subst hr
 exact zO [] rfl hp trivial rfl rfl ho hin
theorem u9 {p:Prop} {a:A} {t:List (Nat×A)} {o os':List (Nat×Ob)} {R:A} (x y:Nat) (hp:p) (hxy:x≠y) (hx:x<1000) (hy:lookO o y=none) (hr:a.ren (zJ x y)=R)
 (hc:R.closed (inO os')=true) (ho:keepO (lookO (renO x y o)) (inO os') os') (hin:keepIn (inO os') (renO x y o)):retx (some (p,a)) ⟨t,o⟩ R os':=by
 refine ⟨hp,?_⟩
 have h1:=Weak.ren (t:=[(0,a)]) (o:=o) x y hxy hx hy
 have h2:Weak (SL.mk (renT x y [(0,a)]) (renO x y o)).st (SL.mk [(0,R)] os').st:=Weak.keepL ⟨⟨by simp only [renT,lookT,if_true];exact hr,hc⟩,trivial⟩ ho hin
 exact h1.trans h2
theorem c_eachC {d:List Row} (hf:Full d) (hl:d.length<=12) (hp:zn d<=5000) (hll: ∀l∈d,l.length<=5000) (e:Ex) (v:Nat->Int) {N:Nat} (hN:N+1=zn d)
 (hc: ∀k,k<zn d->ACall Tryz.prog 54 [num k,.vec 1009 d.length,.ptr 1000 0,.ptr 1001 0] (oCnt e v k++[(1009,xOb (ptM d k) 0)]) (boo true) (oCnt e v (k+1)++[(1009,xOb (ptM d k) 0)])):
 ACall Tryz.prog 52 [aTab d,.clo 54 [.ptr 1000 0,.ptr 1001 0]] (oCnt e v 0) (.tup []) (oCnt e v (zn d)):=by
 refine zm mixed ttok Tryz.func52 Tryz.ntmps52 Tryz.results52 ?_
 simp -implicitDefEqProofs only [oCnt,xOb,argT,aTab,↓zb,push_cast,simprocAttr,tte]
 refine ⟨⟨by omega,by omega,by omega⟩,⟨by omega,by omega,by omega⟩,?_⟩
 refine z8 mixed ttok (fun n:Nat=>E1s d (.clo 54 [.ptr 1000 0,.ptr 1001 0]) (oCnt e v 0) n) (fun n=>d.length-n) (fun n=>n<=d.length) 0 (Nat.zero_le _) ?_ ?_
 ·exact Weak.keepL (by simp [E1s,oCnt,xOb,ends]) (by simp [E1s,oCnt,xOb,xOb,atOb,u0,jC,ends]) (by simp [E1s,oCnt,xOb,ends])
 intro I hI n hn
 have hxl:=vj d n
 simp -implicitDefEqProofs only [E1s,xOb,atOb,oCnt,xOb,aTab,rRow,List.cons_append,List.nil_append,↓zb,push_cast,simprocAttr,tte]
 refine za (fun h=>?_) fun h=>?_
 ·have h':n<d.length:=by simpa using h
  have hw:=zw h' (by omega)
  have hs:=congrArg (zg rV) (x0_set h')
  rw [<-xN] at hs
  simp only [List.getD_eq_getElem?_getD] at hs
  have hd3:=drop3 (l:=x0 d n) (n:=n) (by omega)
  have hfl:=hf.at h'
  refine ⟨⟨by omega,by omega⟩,by omega,⟨⟨by omega,by omega⟩,hxl.symm⟩,⟨hxl.symm,by omega,by omega⟩,?_⟩
  exact zp hI (n+1) h' (by show d.length-(n+1)<d.length-n;omega) (Weak.keepL (by simp [E1s,oCnt,xOb,hw,ends]) (by simp [E1s,oCnt,xOb,xOb,atOb,hd3,hs,ends]) (by simp [E1s,oCnt,xOb,ends]))
 have hnn:n=d.length:=by have:=of_decide_eq_false h;omega
 subst hnn
 rw [ju]
 clear hI I h hxl
 refine z8 mixed ttok (fun n:Nat=>E2s d (.clo 54 [.ptr 1000 0,.ptr 1001 0]) (fun k=>oCnt e v k) n) (fun n=>N-n) (fun n=>n<=N) 0 (Nat.zero_le _) ?_ ?_
 ·exact Weak.keepL (by simp [E2s,oCnt,xOb,ends]) (by simp [E2s,oCnt,xOb,xOb,atOb,ends]) (by simp [E2s,oCnt,xOb,ends])
 intro I hI n hn
 have hxl:=yK d n d.length
 have hal:=y9 d n d.length
 have hpt:=jt d n
 simp -implicitDefEqProofs only [E2s,xOb,atOb,oCnt,xOb,aTab,rRow,List.cons_append,List.nil_append,↓zb,push_cast,simprocAttr,tte]
 have hcn:=hc n (by omega)
 rw [hpt]
 simp only [oCnt,xOb,List.cons_append,List.nil_append] at hcn
 refine yn [(1000,1000),(1001,1001),(1009,15)] (yj _ _) (hcn) (by simp [vE,ends,bs]) (by simp [ends,bs]) (by simp [vE,ends]) (by simp [idsOk,lookO,updO,ren1]) ?_
 simp -implicitDefEqProofs only [↓zb,push_cast,simprocAttr,tte]
 have wl:IntKind.i64.wrap ((d.length:Int)-1)=(d.length:Int)-1:=z7 (by omega) (by omega)
 have hnp:n<zn d:=by omega
 rw [<-hpt]
 refine z8 mixed ttok (fun k:Nat=>E3s d (.clo 54 [.ptr 1000 0,.ptr 1001 0]) (oCnt e v (n+1)) n k) (fun k=>k) (fun k=>k<=d.length/\zn (d.drop k) ∣ n+1) d.length ⟨Nat.le_refl _,by rw [List.drop_length];exact Nat.one_dvd _⟩ ?_ ?_
 ·exact Weak.keepL (by simp [E3s,oCnt,xOb,wl,ends]) (by simp [E3s,oCnt,xOb,xOb,atOb,hpt,ends]) (by simp [E3s,oCnt,xOb,ends])
 intro J hJ k hk
 obtain ⟨hk1,hk2⟩:=hk
 have hxl:=yK d n k
 have hal:=y9 d n k
 simp -implicitDefEqProofs only [E3s,xOb,atOb,oCnt,xOb,aTab,rRow,List.cons_append,List.nil_append,↓zb,push_cast,simprocAttr,tte]
 refine za (fun g=>?_) fun g=>?_
 ·have hk0:0<k:=by simp only [decide_eq_true_eq] at g;omega
  obtain ⟨i,rfl⟩: ∃i,k=i+1:=⟨k-1,by omega⟩
  have hi:i<d.length:=by omega
  have ei:(((i+1:Nat):Int)-1)=(i:Int):=by omega
  have hfl:=hf.at hi
  have hdl:=ue hf hi n
  have hlb:=hll _ (zx hi)
  have hag:(atM d n (i+1)).getD i default=(dig d i n:Int):=by rw [jD hi,if_pos (by omega)]
  have wd:IntKind.i64.wrap ((dig d i n:Int)+1)=((dig d i n+1:Nat):Int):=by rw [z7 (by omega) (by omega)];rfl
  have hset:=yZ (l:=atM d n (i+1)) (n:=i) (v:=((dig d i n+1:Nat):Int)) (by omega)
  have hag2:((atM d n (i+1)).set i ((dig d i n+1:Nat):Int)).getD i default=((dig d i n+1:Nat):Int):=by simp [List.getD_eq_getElem?_getD,hal,hi]
  have hal2:((atM d n (i+1)).set i ((dig d i n+1:Nat):Int)).length=d.length:=by rw [List.length_set];exact hal
  simp only [ei,hag,wd,Int.toNat_natCast,hset]
  have hss:(atM d n (i+1)).set i 0=((atM d n (i+1)).set i ((dig d i n+1:Nat):Int)).set i 0:=by rw [List.set_set]
  have hup:=atM_up hf hi hk2
  have hov:=uz hf hi hk2
  rw [hss] at hov
  clear hss
  have hxu:=xM_up hf hi hk2
  have hxo:=js hf hi hk2
  obtain ⟨m,hm⟩: ∃m,dig d i n+1=m:=⟨_,rfl⟩
  rw [hm] at hag2 hup hov hal2 hxu hxo ⊢
  generalize (atM d n (i+1)).set i (m:Int)=av at hag2 hal2 hup hov ⊢
  simp -implicitDefEqProofs only [hag2,Int.toNat_natCast,↓zb,push_cast,simprocAttr,tte]
  refine ⟨⟨⟨by omega,by omega⟩,hal.symm⟩,by omega,hal.symm,⟨⟨by omega,by omega⟩,hal.symm⟩,⟨hal.symm,by omega,by omega⟩,⟨⟨by omega,by omega⟩,hal2.symm⟩,by omega,hal2.symm,⟨by omega,by omega⟩,zh (by kernel_rfl),?_⟩
  refine za (fun q=>?_) fun q=>?_
  ·have hq:m<(d.getD i default).length:=by simpa using q
   refine ⟨⟨by omega,by omega⟩,⟨⟨by omega,by omega⟩,hal2.symm⟩,by omega,hal2.symm,⟨by omega,by omega⟩,⟨⟨by omega,by omega⟩,hxl.symm⟩,⟨hxl.symm,by omega,by omega⟩,zh (by kernel_rfl),?_⟩
   refine za (fun h=>absurd h (by simp)) fun _=>?_
   have hlt:n+1<zn d:=j0 hf hi hk2 (by omega) hnp
   have hw:=zw (show n<5000 by omega) (by omega)
   have hxs:=yL (l:=xM d n (i+1)) (n:=i) (v:=(d.getD i default).getD m default) (by omega)
   rw [hxu hq] at hxs
   have hup:=hup hq
   exact zp hI (n+1) (by omega) (by show N-(n+1)<N-n;omega) (Weak.keepL (by simp [E2s,hw,oCnt,xOb,ends]) (by simp only [E2s,oCnt,xOb,xOb,atOb,hxs,hup,ends,ite_true,ite_false,reduceIte,Nat.reduceEqDiff,Nat.reduceLeDiff,Nat.reduceLT,Nat.reduceAdd,reduceCtorEq,num,boo,str,ints,aV,aTab,aRow,rRow,vE]<;>simp [vE,ends]) (by simp [E2s,oCnt,xOb,ends]))
  ·have hq: ¬m<(d.getD i default).length:=by simpa using q
   have hov:=hov hq
   have hxo:=hxo hq
   have hvs:=yL (l:=xM d n (i+1)) (n:=i) (v:=(d.getD i default).getD 0 default) (by omega)
   rw [hxo] at hvs
   have his:=yZ (l:=av) (n:=i) (v:=0) (by omega)
   rw [hov] at his
   have wi:IntKind.i64.wrap ((i:Int)-1)=(i:Int)-1:=z7 (by omega) (by omega)
   refine ⟨⟨by omega,by omega⟩,by omega,⟨⟨by omega,by omega⟩,hal2.symm⟩,⟨hal2.symm,by omega,by omega⟩,⟨⟨by omega,by omega⟩,hxl.symm⟩,⟨hxl.symm,by omega,by omega⟩,?_⟩
   refine zp hJ i ⟨by omega,(wP hf hi hk2 (by rw [hm];exact hq)).2⟩ (by show i<i+1;omega) (Weak.keepL (by simp [E3s,wi,oCnt,xOb,ends]) ?_ (by simp [E3s,oCnt,xOb,ends]))
   simp only [E3s,oCnt,xOb,xOb,atOb,hvs,his,ends,ite_true,ite_false,reduceIte,Nat.reduceEqDiff,Nat.reduceLeDiff,Nat.reduceLT,Nat.reduceAdd,reduceCtorEq,num,boo,str,ints,aV,aTab,aRow,rRow,vE]<;>simp [vE,ends]
 ·have hk0:k=0:=by simp only [decide_eq_false_iff_not] at g;omega
  subst hk0
  rw [List.drop_zero] at hk2
  have hlast:=wh hnp hk2
  have hnN:n=N:=by omega
  have d0:decide (((0:Nat):Int)-1<0)=true:=by decide
  simp -implicitDefEqProofs only [d0,↓zb,push_cast,simprocAttr,tte]
  try rw [<-hlast]
  exact jQ trivial rfl (by simp [vE,ends]) (by simp [vE,ends])
theorem c_eachR {d:List Row} (hf:Full d) (hl:d.length<=12) (hp:zn d<=5000) (hll: ∀l∈d,l.length<=5000) (e:Ex) (v:Nat->Val) {N:Nat} (hN:N+1=zn d)
 (hc: ∀k,k<zn d->ACall Tryz.prog 60 [num k,.vec 1009 d.length,.ptr 1000 0,.ptr 1001 0] ([(1000,.var [.vec 1003 k]),(1001,.var (vE e)),(1003,.vec 53 3 (zg rV ((List.range k).map v)) 0)]++[(1009,xOb (ptM d k) 0)]) (boo true) ([(1000,.var [.vec 1003 (k+1)]),(1001,.var (vE e)),(1003,.vec 53 3 (zg rV ((List.range (k+1)).map v)) 0)]++[(1009,xOb (ptM d k) 0)])):
 ACall Tryz.prog 52 [aTab d,.clo 60 [.ptr 1000 0,.ptr 1001 0]] ([(1000,.var [.snil]),(1001,.var (vE e))]) (.tup []) ([(1000,.var [.vec 1003 (zn d)]),(1001,.var (vE e)),(1003,.vec 53 3 (zg rV ((List.range (zn d)).map v)) 0)]):=by
 refine zm mixed ttok Tryz.func52 Tryz.ntmps52 Tryz.results52 ?_
 simp -implicitDefEqProofs only [xOb,argT,aTab,↓zb,push_cast,simprocAttr,tte]
 refine ⟨⟨by omega,by omega,by omega⟩,⟨by omega,by omega,by omega⟩,?_⟩
 refine z8 mixed ttok (fun n:Nat=>E1s d (.clo 60 [.ptr 1000 0,.ptr 1001 0]) ([(1000,.var [.snil]),(1001,.var (vE e))]) n) (fun n=>d.length-n) (fun n=>n<=d.length) 0 (Nat.zero_le _) ?_ ?_
 ·exact Weak.keepL (by simp [E1s,xOb,ends]) (by simp [E1s,xOb,xOb,atOb,u0,jC,ends]) (by simp [E1s,xOb,ends])
 intro I hI n hn
 have hxl:=vj d n
 simp -implicitDefEqProofs only [E1s,xOb,atOb,xOb,aTab,rRow,List.cons_append,List.nil_append,↓zb,push_cast,simprocAttr,tte]
 refine za (fun h=>?_) fun h=>?_
 ·have h':n<d.length:=by simpa using h
  have hw:=zw h' (by omega)
  have hs:=congrArg (zg rV) (x0_set h')
  rw [<-xN] at hs
  simp only [List.getD_eq_getElem?_getD] at hs
  have hd3:=drop3 (l:=x0 d n) (n:=n) (by omega)
  have hfl:=hf.at h'
  refine ⟨⟨by omega,by omega⟩,by omega,⟨⟨by omega,by omega⟩,hxl.symm⟩,⟨hxl.symm,by omega,by omega⟩,?_⟩
  exact zp hI (n+1) h' (by show d.length-(n+1)<d.length-n;omega) (Weak.keepL (by simp [E1s,xOb,hw,ends]) (by simp [E1s,xOb,xOb,atOb,hd3,hs,ends]) (by simp [E1s,xOb,ends]))
 have hnn:n=d.length:=by have:=of_decide_eq_false h;omega
 subst hnn
 rw [ju]
 clear hI I h hxl
 refine z8 mixed ttok (fun n:Nat=>E2s d (.clo 60 [.ptr 1000 0,.ptr 1001 0]) (fun k=>[(1000,.var [.vec 500 k]),(1001,.var (vE e)),(500,.vec 53 3 (zg rV ((List.range k).map v)) 0)]) n) (fun n=>N-n) (fun n=>n<=N) 0 (Nat.zero_le _) ?_ ?_
 ·exact (Weak.nilCellL 1000 0 500 53 3 rfl rfl rfl).trans (Weak.keepL (by simp [E2s,xOb,ends]) (by simp [E2s,xOb,xOb,atOb,ends]) (by simp [E2s,xOb,ends]))
 intro I hI n hn
 have hxl:=yK d n d.length
 have hal:=y9 d n d.length
 have hpt:=jt d n
 simp -implicitDefEqProofs only [E2s,xOb,atOb,xOb,aTab,rRow,List.cons_append,List.nil_append,↓zb,push_cast,simprocAttr,tte]
 have hcn:=hc n (by omega)
 rw [hpt]
 simp only [xOb,List.cons_append,List.nil_append] at hcn
 refine yn [(1000,1000),(1001,1001),(1003,500),(1009,15)] (yj _ _) (hcn) (by simp [vE,ends,bs]) (by simp [ends,bs]) (by simp [vE,ends]) (by simp [idsOk,lookO,updO,ren1]) ?_
 simp -implicitDefEqProofs only [↓zb,push_cast,simprocAttr,tte]
 have wl:IntKind.i64.wrap ((d.length:Int)-1)=(d.length:Int)-1:=z7 (by omega) (by omega)
 have hnp:n<zn d:=by omega
 rw [<-hpt]
 refine z8 mixed ttok (fun k:Nat=>E3s d (.clo 60 [.ptr 1000 0,.ptr 1001 0]) ([(1000,.var [.vec 500 (n+1)]),(1001,.var (vE e)),(500,.vec 53 3 (zg rV ((List.range (n+1)).map v)) 0)]) n k) (fun k=>k) (fun k=>k<=d.length/\zn (d.drop k) ∣ n+1) d.length ⟨Nat.le_refl _,by rw [List.drop_length];exact Nat.one_dvd _⟩ ?_ ?_
 ·exact Weak.keepL (by simp [E3s,xOb,wl,ends]) (by simp [E3s,xOb,xOb,atOb,hpt,ends]) (by simp [E3s,xOb,ends])
 intro J hJ k hk
 obtain ⟨hk1,hk2⟩:=hk
 have hxl:=yK d n k
 have hal:=y9 d n k
 simp -implicitDefEqProofs only [E3s,xOb,atOb,xOb,aTab,rRow,List.cons_append,List.nil_append,↓zb,push_cast,simprocAttr,tte]
 refine za (fun g=>?_) fun g=>?_
 ·have hk0:0<k:=by simp only [decide_eq_true_eq] at g;omega
  obtain ⟨i,rfl⟩: ∃i,k=i+1:=⟨k-1,by omega⟩
  have hi:i<d.length:=by omega
  have ei:(((i+1:Nat):Int)-1)=(i:Int):=by omega
  have hfl:=hf.at hi
  have hdl:=ue hf hi n
  have hlb:=hll _ (zx hi)
  have hag:(atM d n (i+1)).getD i default=(dig d i n:Int):=by rw [jD hi,if_pos (by omega)]
  have wd:IntKind.i64.wrap ((dig d i n:Int)+1)=((dig d i n+1:Nat):Int):=by rw [z7 (by omega) (by omega)];rfl
  have hset:=yZ (l:=atM d n (i+1)) (n:=i) (v:=((dig d i n+1:Nat):Int)) (by omega)
  have hag2:((atM d n (i+1)).set i ((dig d i n+1:Nat):Int)).getD i default=((dig d i n+1:Nat):Int):=by simp [List.getD_eq_getElem?_getD,hal,hi]
  have hal2:((atM d n (i+1)).set i ((dig d i n+1:Nat):Int)).length=d.length:=by rw [List.length_set];exact hal
  simp only [ei,hag,wd,Int.toNat_natCast,hset]
  have hss:(atM d n (i+1)).set i 0=((atM d n (i+1)).set i ((dig d i n+1:Nat):Int)).set i 0:=by rw [List.set_set]
  have hup:=atM_up hf hi hk2
  have hov:=uz hf hi hk2
  rw [hss] at hov
  clear hss
  have hxu:=xM_up hf hi hk2
  have hxo:=js hf hi hk2
  obtain ⟨m,hm⟩: ∃m,dig d i n+1=m:=⟨_,rfl⟩
  rw [hm] at hag2 hup hov hal2 hxu hxo ⊢
  generalize (atM d n (i+1)).set i (m:Int)=av at hag2 hal2 hup hov ⊢
  simp -implicitDefEqProofs only [hag2,Int.toNat_natCast,↓zb,push_cast,simprocAttr,tte]
  refine ⟨⟨⟨by omega,by omega⟩,hal.symm⟩,by omega,hal.symm,⟨⟨by omega,by omega⟩,hal.symm⟩,⟨hal.symm,by omega,by omega⟩,⟨⟨by omega,by omega⟩,hal2.symm⟩,by omega,hal2.symm,⟨by omega,by omega⟩,zh (by kernel_rfl),?_⟩
  refine za (fun q=>?_) fun q=>?_
  ·have hq:m<(d.getD i default).length:=by simpa using q
   refine ⟨⟨by omega,by omega⟩,⟨⟨by omega,by omega⟩,hal2.symm⟩,by omega,hal2.symm,⟨by omega,by omega⟩,⟨⟨by omega,by omega⟩,hxl.symm⟩,⟨hxl.symm,by omega,by omega⟩,zh (by kernel_rfl),?_⟩
   refine za (fun h=>absurd h (by simp)) fun _=>?_
   have hlt:n+1<zn d:=j0 hf hi hk2 (by omega) hnp
   have hw:=zw (show n<5000 by omega) (by omega)
   have hxs:=yL (l:=xM d n (i+1)) (n:=i) (v:=(d.getD i default).getD m default) (by omega)
   rw [hxu hq] at hxs
   have hup:=hup hq
   exact zp hI (n+1) (by omega) (by show N-(n+1)<N-n;omega) (Weak.keepL (by simp [E2s,hw,xOb,ends]) (by simp only [E2s,xOb,xOb,atOb,hxs,hup,ends,ite_true,ite_false,reduceIte,Nat.reduceEqDiff,Nat.reduceLeDiff,Nat.reduceLT,Nat.reduceAdd,reduceCtorEq,num,boo,str,ints,aV,aTab,aRow,rRow,vE]<;>simp [vE,ends]) (by simp [E2s,xOb,ends]))
  ·have hq: ¬m<(d.getD i default).length:=by simpa using q
   have hov:=hov hq
   have hxo:=hxo hq
   have hvs:=yL (l:=xM d n (i+1)) (n:=i) (v:=(d.getD i default).getD 0 default) (by omega)
   rw [hxo] at hvs
   have his:=yZ (l:=av) (n:=i) (v:=0) (by omega)
   rw [hov] at his
   have wi:IntKind.i64.wrap ((i:Int)-1)=(i:Int)-1:=z7 (by omega) (by omega)
   refine ⟨⟨by omega,by omega⟩,by omega,⟨⟨by omega,by omega⟩,hal2.symm⟩,⟨hal2.symm,by omega,by omega⟩,⟨⟨by omega,by omega⟩,hxl.symm⟩,⟨hxl.symm,by omega,by omega⟩,?_⟩
   refine zp hJ i ⟨by omega,(wP hf hi hk2 (by rw [hm];exact hq)).2⟩ (by show i<i+1;omega) (Weak.keepL (by simp [E3s,wi,xOb,ends]) ?_ (by simp [E3s,xOb,ends]))
   simp only [E3s,xOb,xOb,atOb,hvs,his,ends,ite_true,ite_false,reduceIte,Nat.reduceEqDiff,Nat.reduceLeDiff,Nat.reduceLT,Nat.reduceAdd,reduceCtorEq,num,boo,str,ints,aV,aTab,aRow,rRow,vE]<;>simp [vE,ends]
 ·have hk0:k=0:=by simp only [decide_eq_false_iff_not] at g;omega
  subst hk0
  rw [List.drop_zero] at hk2
  have hlast:=wh hnp hk2
  have hnN:n=N:=by omega
  have d0:decide (((0:Nat):Int)-1<0)=true:=by decide
  simp -implicitDefEqProofs only [d0,↓zb,push_cast,simprocAttr,tte]
  try rw [<-hlast]
  refine u9 500 1003 trivial (by decide) (by decide) rfl rfl rfl ?_ ?_
  ·simp [renO,Ob.ren,A.ren,renL,zJ,vE,ends]
  ·simp [renO,zJ,vE,ends]
theorem c_eachI {d:List Row} (hf:Full d) (hl:d.length<=12) (hp:zn d<=5000) (hll: ∀l∈d,l.length<=5000) (a b:Ex) {N:Nat} (hN:N+1=zn d)
 (hc: ∀k,k<zn d->ACall Tryz.prog 58 [num k,.vec 1009 d.length,.ptr 1000 0,.ptr 1001 0,.ptr 1002 0,.ptr 1003 0] ([(1000,.var (vE a)),(1001,.var (vE b)),(1002,.var [boo true]),(1003,.var [.snil])]++[(1009,xOb (ptM d k) 0)]) (boo true) ([(1000,.var (vE a)),(1001,.var (vE b)),(1002,.var [boo true]),(1003,.var [.snil])]++[(1009,xOb (ptM d k) 0)])):
 ACall Tryz.prog 52 [aTab d,.clo 58 [.ptr 1000 0,.ptr 1001 0,.ptr 1002 0,.ptr 1003 0]] ([(1000,.var (vE a)),(1001,.var (vE b)),(1002,.var [boo true]),(1003,.var [.snil])]) (.tup []) ([(1000,.var (vE a)),(1001,.var (vE b)),(1002,.var [boo true]),(1003,.var [.snil])]):=by
 refine zm mixed ttok Tryz.func52 Tryz.ntmps52 Tryz.results52 ?_
 simp -implicitDefEqProofs only [xOb,argT,aTab,↓zb,push_cast,simprocAttr,tte]
 refine ⟨⟨by omega,by omega,by omega⟩,⟨by omega,by omega,by omega⟩,?_⟩
 refine z8 mixed ttok (fun n:Nat=>E1s d (.clo 58 [.ptr 1000 0,.ptr 1001 0,.ptr 1002 0,.ptr 1003 0]) ([(1000,.var (vE a)),(1001,.var (vE b)),(1002,.var [boo true]),(1003,.var [.snil])]) n) (fun n=>d.length-n) (fun n=>n<=d.length) 0 (Nat.zero_le _) ?_ ?_
 ·exact Weak.keepL (by simp [E1s,xOb,ends]) (by simp [E1s,xOb,xOb,atOb,u0,jC,ends]) (by simp [E1s,xOb,ends])
 intro I hI n hn
 have hxl:=vj d n
 simp -implicitDefEqProofs only [E1s,xOb,atOb,xOb,aTab,rRow,List.cons_append,List.nil_append,↓zb,push_cast,simprocAttr,tte]
 refine za (fun h=>?_) fun h=>?_
 ·have h':n<d.length:=by simpa using h
  have hw:=zw h' (by omega)
  have hs:=congrArg (zg rV) (x0_set h')
  rw [<-xN] at hs
  simp only [List.getD_eq_getElem?_getD] at hs
  have hd3:=drop3 (l:=x0 d n) (n:=n) (by omega)
  have hfl:=hf.at h'
  refine ⟨⟨by omega,by omega⟩,by omega,⟨⟨by omega,by omega⟩,hxl.symm⟩,⟨hxl.symm,by omega,by omega⟩,?_⟩
  exact zp hI (n+1) h' (by show d.length-(n+1)<d.length-n;omega) (Weak.keepL (by simp [E1s,xOb,hw,ends]) (by simp [E1s,xOb,xOb,atOb,hd3,hs,ends]) (by simp [E1s,xOb,ends]))
 have hnn:n=d.length:=by have:=of_decide_eq_false h;omega
 subst hnn
 rw [ju]
 clear hI I h hxl
 refine z8 mixed ttok (fun n:Nat=>E2s d (.clo 58 [.ptr 1000 0,.ptr 1001 0,.ptr 1002 0,.ptr 1003 0]) (fun k=>[(1000,.var (vE a)),(1001,.var (vE b)),(1002,.var [boo true]),(1003,.var [.snil])]) n) (fun n=>N-n) (fun n=>n<=N) 0 (Nat.zero_le _) ?_ ?_
 ·exact Weak.keepL (by simp [E2s,xOb,ends]) (by simp [E2s,xOb,xOb,atOb,ends]) (by simp [E2s,xOb,ends])
 intro I hI n hn
 have hxl:=yK d n d.length
 have hal:=y9 d n d.length
 have hpt:=jt d n
 simp -implicitDefEqProofs only [E2s,xOb,atOb,xOb,aTab,rRow,List.cons_append,List.nil_append,↓zb,push_cast,simprocAttr,tte]
 have hcn:=hc n (by omega)
 rw [hpt]
 simp only [xOb,List.cons_append,List.nil_append] at hcn
 refine yn [(1000,1000),(1001,1001),(1002,1002),(1003,1003),(1009,15)] (yj _ _) (hcn) (by simp [vE,ends,bs]) (by simp [ends,bs]) (by simp [vE,ends]) (by simp [idsOk,lookO,updO,ren1]) ?_
 simp -implicitDefEqProofs only [↓zb,push_cast,simprocAttr,tte]
 have wl:IntKind.i64.wrap ((d.length:Int)-1)=(d.length:Int)-1:=z7 (by omega) (by omega)
 have hnp:n<zn d:=by omega
 rw [<-hpt]
 refine z8 mixed ttok (fun k:Nat=>E3s d (.clo 58 [.ptr 1000 0,.ptr 1001 0,.ptr 1002 0,.ptr 1003 0]) ([(1000,.var (vE a)),(1001,.var (vE b)),(1002,.var [boo true]),(1003,.var [.snil])]) n k) (fun k=>k) (fun k=>k<=d.length/\zn (d.drop k) ∣ n+1) d.length ⟨Nat.le_refl _,by rw [List.drop_length];exact Nat.one_dvd _⟩ ?_ ?_
 ·exact Weak.keepL (by simp [E3s,xOb,wl,ends]) (by simp [E3s,xOb,xOb,atOb,hpt,ends]) (by simp [E3s,xOb,ends])
 intro J hJ k hk
 obtain ⟨hk1,hk2⟩:=hk
 have hxl:=yK d n k
 have hal:=y9 d n k
 simp -implicitDefEqProofs only [E3s,xOb,atOb,xOb,aTab,rRow,List.cons_append,List.nil_append,↓zb,push_cast,simprocAttr,tte]
 refine za (fun g=>?_) fun g=>?_
 ·have hk0:0<k:=by simp only [decide_eq_true_eq] at g;omega
  obtain ⟨i,rfl⟩: ∃i,k=i+1:=⟨k-1,by omega⟩
  have hi:i<d.length:=by omega
  have ei:(((i+1:Nat):Int)-1)=(i:Int):=by omega
  have hfl:=hf.at hi
  have hdl:=ue hf hi n
  have hlb:=hll _ (zx hi)
  have hag:(atM d n (i+1)).getD i default=(dig d i n:Int):=by rw [jD hi,if_pos (by omega)]
  have wd:IntKind.i64.wrap ((dig d i n:Int)+1)=((dig d i n+1:Nat):Int):=by rw [z7 (by omega) (by omega)];rfl
  have hset:=yZ (l:=atM d n (i+1)) (n:=i) (v:=((dig d i n+1:Nat):Int)) (by omega)
  have hag2:((atM d n (i+1)).set i ((dig d i n+1:Nat):Int)).getD i default=((dig d i n+1:Nat):Int):=by simp [List.getD_eq_getElem?_getD,hal,hi]
  have hal2:((atM d n (i+1)).set i ((dig d i n+1:Nat):Int)).length=d.length:=by rw [List.length_set];exact hal
  simp only [ei,hag,wd,Int.toNat_natCast,hset]
  have hss:(atM d n (i+1)).set i 0=((atM d n (i+1)).set i ((dig d i n+1:Nat):Int)).set i 0:=by rw [List.set_set]
  have hup:=atM_up hf hi hk2
  have hov:=uz hf hi hk2
  rw [hss] at hov
  clear hss
  have hxu:=xM_up hf hi hk2
  have hxo:=js hf hi hk2
  obtain ⟨m,hm⟩: ∃m,dig d i n+1=m:=⟨_,rfl⟩
  rw [hm] at hag2 hup hov hal2 hxu hxo ⊢
  generalize (atM d n (i+1)).set i (m:Int)=av at hag2 hal2 hup hov ⊢
  simp -implicitDefEqProofs only [hag2,Int.toNat_natCast,↓zb,push_cast,simprocAttr,tte]
  refine ⟨⟨⟨by omega,by omega⟩,hal.symm⟩,by omega,hal.symm,⟨⟨by omega,by omega⟩,hal.symm⟩,⟨hal.symm,by omega,by omega⟩,⟨⟨by omega,by omega⟩,hal2.symm⟩,by omega,hal2.symm,⟨by omega,by omega⟩,zh (by kernel_rfl),?_⟩
  refine za (fun q=>?_) fun q=>?_
  ·have hq:m<(d.getD i default).length:=by simpa using q
   refine ⟨⟨by omega,by omega⟩,⟨⟨by omega,by omega⟩,hal2.symm⟩,by omega,hal2.symm,⟨by omega,by omega⟩,⟨⟨by omega,by omega⟩,hxl.symm⟩,⟨hxl.symm,by omega,by omega⟩,zh (by kernel_rfl),?_⟩
   refine za (fun h=>absurd h (by simp)) fun _=>?_
   have hlt:n+1<zn d:=j0 hf hi hk2 (by omega) hnp
   have hw:=zw (show n<5000 by omega) (by omega)
   have hxs:=yL (l:=xM d n (i+1)) (n:=i) (v:=(d.getD i default).getD m default) (by omega)
   rw [hxu hq] at hxs
   have hup:=hup hq
   exact zp hI (n+1) (by omega) (by show N-(n+1)<N-n;omega) (Weak.keepL (by simp [E2s,hw,xOb,ends]) (by simp only [E2s,xOb,xOb,atOb,hxs,hup,ends,ite_true,ite_false,reduceIte,Nat.reduceEqDiff,Nat.reduceLeDiff,Nat.reduceLT,Nat.reduceAdd,reduceCtorEq,num,boo,str,ints,aV,aTab,aRow,rRow,vE]<;>simp [vE,ends]) (by simp [E2s,xOb,ends]))
  ·have hq: ¬m<(d.getD i default).length:=by simpa using q
   have hov:=hov hq
   have hxo:=hxo hq
   have hvs:=yL (l:=xM d n (i+1)) (n:=i) (v:=(d.getD i default).getD 0 default) (by omega)
   rw [hxo] at hvs
   have his:=yZ (l:=av) (n:=i) (v:=0) (by omega)
   rw [hov] at his
   have wi:IntKind.i64.wrap ((i:Int)-1)=(i:Int)-1:=z7 (by omega) (by omega)
   refine ⟨⟨by omega,by omega⟩,by omega,⟨⟨by omega,by omega⟩,hal2.symm⟩,⟨hal2.symm,by omega,by omega⟩,⟨⟨by omega,by omega⟩,hxl.symm⟩,⟨hxl.symm,by omega,by omega⟩,?_⟩
   refine zp hJ i ⟨by omega,(wP hf hi hk2 (by rw [hm];exact hq)).2⟩ (by show i<i+1;omega) (Weak.keepL (by simp [E3s,wi,xOb,ends]) ?_ (by simp [E3s,xOb,ends]))
   simp only [E3s,xOb,xOb,atOb,hvs,his,ends,ite_true,ite_false,reduceIte,Nat.reduceEqDiff,Nat.reduceLeDiff,Nat.reduceLT,Nat.reduceAdd,reduceCtorEq,num,boo,str,ints,aV,aTab,aRow,rRow,vE]<;>simp [vE,ends]
 ·have hk0:k=0:=by simp only [decide_eq_false_iff_not] at g;omega
  subst hk0
  rw [List.drop_zero] at hk2
  have hlast:=wh hnp hk2
  have hnN:n=N:=by omega
  have d0:decide (((0:Nat):Int)-1<0)=true:=by decide
  simp -implicitDefEqProofs only [d0,↓zb,push_cast,simprocAttr,tte]
  try rw [<-hlast]
  exact jQ trivial rfl (by simp [vE,ends]) (by simp [vE,ends])
theorem c_eachIs {d:List Row} (hf:Full d) (hl:d.length<=12) (hp:zn d<=5000) (hll: ∀l∈d,l.length<=5000) (a b:Ex) {N:Nat} (hN:N<zn d)
 (hc: ∀k,k<N->ACall Tryz.prog 58 [num k,.vec 1009 d.length,.ptr 1000 0,.ptr 1001 0,.ptr 1002 0,.ptr 1003 0] ([(1000,.var (vE a)),(1001,.var (vE b)),(1002,.var [boo true]),(1003,.var [.snil])]++[(1009,xOb (ptM d k) 0)]) (boo true) ([(1000,.var (vE a)),(1001,.var (vE b)),(1002,.var [boo true]),(1003,.var [.snil])]++[(1009,xOb (ptM d k) 0)])) (hs:ACall Tryz.prog 58 [num N,.vec 1009 d.length,.ptr 1000 0,.ptr 1001 0,.ptr 1002 0,.ptr 1003 0] ([(1000,.var (vE a)),(1001,.var (vE b)),(1002,.var [boo true]),(1003,.var [.snil])]++[(1009,xOb (ptM d N) 0)]) (boo false) ([(1000,.var (vE a)),(1001,.var (vE b)),(1002,.var [boo false]),(1003,.var [.d (.sl 3 (zg rV (ptM d N)))])]++[(1009,xOb (ptM d N) d.length)])):
 ACall Tryz.prog 52 [aTab d,.clo 58 [.ptr 1000 0,.ptr 1001 0,.ptr 1002 0,.ptr 1003 0]] ([(1000,.var (vE a)),(1001,.var (vE b)),(1002,.var [boo true]),(1003,.var [.snil])]) (.tup []) ([(1000,.var (vE a)),(1001,.var (vE b)),(1002,.var [boo false]),(1003,.var [.d (.sl 3 (zg rV (ptM d N)))])]):=by
 refine zm mixed ttok Tryz.func52 Tryz.ntmps52 Tryz.results52 ?_
 simp -implicitDefEqProofs only [xOb,argT,aTab,↓zb,push_cast,simprocAttr,tte]
 refine ⟨⟨by omega,by omega,by omega⟩,⟨by omega,by omega,by omega⟩,?_⟩
 refine z8 mixed ttok (fun n:Nat=>E1s d (.clo 58 [.ptr 1000 0,.ptr 1001 0,.ptr 1002 0,.ptr 1003 0]) ([(1000,.var (vE a)),(1001,.var (vE b)),(1002,.var [boo true]),(1003,.var [.snil])]) n) (fun n=>d.length-n) (fun n=>n<=d.length) 0 (Nat.zero_le _) ?_ ?_
 ·exact Weak.keepL (by simp [E1s,xOb,ends]) (by simp [E1s,xOb,xOb,atOb,u0,jC,ends]) (by simp [E1s,xOb,ends])
 intro I hI n hn
 have hxl:=vj d n
 simp -implicitDefEqProofs only [E1s,xOb,atOb,xOb,aTab,rRow,List.cons_append,List.nil_append,↓zb,push_cast,simprocAttr,tte]
 refine za (fun h=>?_) fun h=>?_
 ·have h':n<d.length:=by simpa using h
  have hw:=zw h' (by omega)
  have hs:=congrArg (zg rV) (x0_set h')
  rw [<-xN] at hs
  simp only [List.getD_eq_getElem?_getD] at hs
  have hd3:=drop3 (l:=x0 d n) (n:=n) (by omega)
  have hfl:=hf.at h'
  refine ⟨⟨by omega,by omega⟩,by omega,⟨⟨by omega,by omega⟩,hxl.symm⟩,⟨hxl.symm,by omega,by omega⟩,?_⟩
  exact zp hI (n+1) h' (by show d.length-(n+1)<d.length-n;omega) (Weak.keepL (by simp [E1s,xOb,hw,ends]) (by simp [E1s,xOb,xOb,atOb,hd3,hs,ends]) (by simp [E1s,xOb,ends]))
 have hnn:n=d.length:=by have:=of_decide_eq_false h;omega
 subst hnn
 rw [ju]
 clear hI I h hxl
 refine z8 mixed ttok (fun n:Nat=>E2s d (.clo 58 [.ptr 1000 0,.ptr 1001 0,.ptr 1002 0,.ptr 1003 0]) (fun k=>[(1000,.var (vE a)),(1001,.var (vE b)),(1002,.var [boo true]),(1003,.var [.snil])]) n) (fun n=>N-n) (fun n=>n<=N) 0 (Nat.zero_le _) ?_ ?_
 ·exact Weak.keepL (by simp [E2s,xOb,ends]) (by simp [E2s,xOb,xOb,atOb,ends]) (by simp [E2s,xOb,ends])
 intro I hI n hn
 have hxl:=yK d n d.length
 have hal:=y9 d n d.length
 have hpt:=jt d n
 simp -implicitDefEqProofs only [E2s,xOb,atOb,xOb,aTab,rRow,List.cons_append,List.nil_append,↓zb,push_cast,simprocAttr,tte]
 by_cases hnN:n=N
 ·subst hnN
  have hcn:=hs
  rw [hpt]
  simp only [xOb,List.cons_append,List.nil_append] at hcn
  refine yn [(1000,1000),(1001,1001),(1002,1002),(1003,1003),(1009,15)] (yj _ _) (hcn) (by simp [vE,ends,bs]) (by simp [ends,bs]) (by simp [vE,ends]) (by simp [idsOk,lookO,updO,ren1]) ?_
  simp -implicitDefEqProofs only [↓zb,push_cast,simprocAttr,tte]
  exact jQ trivial rfl (by simp [vE,ends]) (by simp [vE,ends])
 have hlt0:n<N:=by omega
 have hcn:=hc n hlt0
 rw [hpt]
 simp only [xOb,List.cons_append,List.nil_append] at hcn
 refine yn [(1000,1000),(1001,1001),(1002,1002),(1003,1003),(1009,15)] (yj _ _) (hcn) (by simp [vE,ends,bs]) (by simp [ends,bs]) (by simp [vE,ends]) (by simp [idsOk,lookO,updO,ren1]) ?_
 simp -implicitDefEqProofs only [↓zb,push_cast,simprocAttr,tte]
 have wl:IntKind.i64.wrap ((d.length:Int)-1)=(d.length:Int)-1:=z7 (by omega) (by omega)
 have hnp:n<zn d:=by omega
 rw [<-hpt]
 refine z8 mixed ttok (fun k:Nat=>E3s d (.clo 58 [.ptr 1000 0,.ptr 1001 0,.ptr 1002 0,.ptr 1003 0]) ([(1000,.var (vE a)),(1001,.var (vE b)),(1002,.var [boo true]),(1003,.var [.snil])]) n k) (fun k=>k) (fun k=>k<=d.length/\zn (d.drop k) ∣ n+1) d.length ⟨Nat.le_refl _,by rw [List.drop_length];exact Nat.one_dvd _⟩ ?_ ?_
 ·exact Weak.keepL (by simp [E3s,xOb,wl,ends]) (by simp [E3s,xOb,xOb,atOb,hpt,ends]) (by simp [E3s,xOb,ends])
 intro J hJ k hk
 obtain ⟨hk1,hk2⟩:=hk
 have hxl:=yK d n k
 have hal:=y9 d n k
 simp -implicitDefEqProofs only [E3s,xOb,atOb,xOb,aTab,rRow,List.cons_append,List.nil_append,↓zb,push_cast,simprocAttr,tte]
 refine za (fun g=>?_) fun g=>?_
 ·have hk0:0<k:=by simp only [decide_eq_true_eq] at g;omega
  obtain ⟨i,rfl⟩: ∃i,k=i+1:=⟨k-1,by omega⟩
  have hi:i<d.length:=by omega
  have ei:(((i+1:Nat):Int)-1)=(i:Int):=by omega
  have hfl:=hf.at hi
  have hdl:=ue hf hi n
  have hlb:=hll _ (zx hi)
  have hag:(atM d n (i+1)).getD i default=(dig d i n:Int):=by rw [jD hi,if_pos (by omega)]
  have wd:IntKind.i64.wrap ((dig d i n:Int)+1)=((dig d i n+1:Nat):Int):=by rw [z7 (by omega) (by omega)];rfl
  have hset:=yZ (l:=atM d n (i+1)) (n:=i) (v:=((dig d i n+1:Nat):Int)) (by omega)
  have hag2:((atM d n (i+1)).set i ((dig d i n+1:Nat):Int)).getD i default=((dig d i n+1:Nat):Int):=by simp [List.getD_eq_getElem?_getD,hal,hi]
  have hal2:((atM d n (i+1)).set i ((dig d i n+1:Nat):Int)).length=d.length:=by rw [List.length_set];exact hal
  simp only [ei,hag,wd,Int.toNat_natCast,hset]
  have hss:(atM d n (i+1)).set i 0=((atM d n (i+1)).set i ((dig d i n+1:Nat):Int)).set i 0:=by rw [List.set_set]
  have hup:=atM_up hf hi hk2
  have hov:=uz hf hi hk2
  rw [hss] at hov
  clear hss
  have hxu:=xM_up hf hi hk2
  have hxo:=js hf hi hk2
  obtain ⟨m,hm⟩: ∃m,dig d i n+1=m:=⟨_,rfl⟩
  rw [hm] at hag2 hup hov hal2 hxu hxo ⊢
  generalize (atM d n (i+1)).set i (m:Int)=av at hag2 hal2 hup hov ⊢
  simp -implicitDefEqProofs only [hag2,Int.toNat_natCast,↓zb,push_cast,simprocAttr,tte]
  refine ⟨⟨⟨by omega,by omega⟩,hal.symm⟩,by omega,hal.symm,⟨⟨by omega,by omega⟩,hal.symm⟩,⟨hal.symm,by omega,by omega⟩,⟨⟨by omega,by omega⟩,hal2.symm⟩,by omega,hal2.symm,⟨by omega,by omega⟩,zh (by kernel_rfl),?_⟩
  refine za (fun q=>?_) fun q=>?_
  ·have hq:m<(d.getD i default).length:=by simpa using q
   refine ⟨⟨by omega,by omega⟩,⟨⟨by omega,by omega⟩,hal2.symm⟩,by omega,hal2.symm,⟨by omega,by omega⟩,⟨⟨by omega,by omega⟩,hxl.symm⟩,⟨hxl.symm,by omega,by omega⟩,zh (by kernel_rfl),?_⟩
   refine za (fun h=>absurd h (by simp)) fun _=>?_
   have hlt:n+1<zn d:=j0 hf hi hk2 (by omega) hnp
   have hw:=zw (show n<5000 by omega) (by omega)
   have hxs:=yL (l:=xM d n (i+1)) (n:=i) (v:=(d.getD i default).getD m default) (by omega)
   rw [hxu hq] at hxs
   have hup:=hup hq
   exact zp hI (n+1) (by omega) (by show N-(n+1)<N-n;omega) (Weak.keepL (by simp [E2s,hw,xOb,ends]) (by simp only [E2s,xOb,xOb,atOb,hxs,hup,ends,ite_true,ite_false,reduceIte,Nat.reduceEqDiff,Nat.reduceLeDiff,Nat.reduceLT,Nat.reduceAdd,reduceCtorEq,num,boo,str,ints,aV,aTab,aRow,rRow,vE]<;>simp [vE,ends]) (by simp [E2s,xOb,ends]))
  ·have hq: ¬m<(d.getD i default).length:=by simpa using q
   have hov:=hov hq
   have hxo:=hxo hq
   have hvs:=yL (l:=xM d n (i+1)) (n:=i) (v:=(d.getD i default).getD 0 default) (by omega)
   rw [hxo] at hvs
   have his:=yZ (l:=av) (n:=i) (v:=0) (by omega)
   rw [hov] at his
   have wi:IntKind.i64.wrap ((i:Int)-1)=(i:Int)-1:=z7 (by omega) (by omega)
   refine ⟨⟨by omega,by omega⟩,by omega,⟨⟨by omega,by omega⟩,hal2.symm⟩,⟨hal2.symm,by omega,by omega⟩,⟨⟨by omega,by omega⟩,hxl.symm⟩,⟨hxl.symm,by omega,by omega⟩,?_⟩
   refine zp hJ i ⟨by omega,(wP hf hi hk2 (by rw [hm];exact hq)).2⟩ (by show i<i+1;omega) (Weak.keepL (by simp [E3s,wi,xOb,ends]) ?_ (by simp [E3s,xOb,ends]))
   simp only [E3s,xOb,xOb,atOb,hvs,his,ends,ite_true,ite_false,reduceIte,Nat.reduceEqDiff,Nat.reduceLeDiff,Nat.reduceLT,Nat.reduceAdd,reduceCtorEq,num,boo,str,ints,aV,aTab,aRow,rRow,vE]<;>simp [vE,ends]
 ·have hk0:k=0:=by simp only [decide_eq_false_iff_not] at g;omega
  subst hk0
  rw [List.drop_zero] at hk2
  have hlast:=wh hnp hk2
  exfalso
  omega
theorem c_eachY {d:List Row} (hf:Full d) (hl:d.length<=12) (hp:zn d<=5000) (hll: ∀l∈d,l.length<=5000) (e:Ex) {ks ps:List Nat} {asg bd:Code} {N:Nat} (hN:N+1=zn d)
 (hc: ∀k,k<zn d->AYield Tryz.prog 1000 [num k,.vec 1009 d.length] ([(1000,.x (.lp ks ps asg bd .ready) [.ptr 1001 0,.ptr 1002 0,.ptr 1003 0]),(1001,.var (vE e)),(1002,.var [.snil]),(1003,.var [num 0])]++[(1009,xOb (ptM d k) 0)]) (boo true) ([(1000,.x (.lp ks ps asg bd .ready) [.ptr 1001 0,.ptr 1002 0,.ptr 1003 0]),(1001,.var (vE e)),(1002,.var [.snil]),(1003,.var [num 0])]++[(1009,xOb (ptM d k) 0)])):
 ACall Tryz.prog 52 [aTab d,.xo true 1000] ([(1000,.x (.lp ks ps asg bd .ready) [.ptr 1001 0,.ptr 1002 0,.ptr 1003 0]),(1001,.var (vE e)),(1002,.var [.snil]),(1003,.var [num 0])]) (.tup []) ([(1000,.x (.lp ks ps asg bd .ready) [.ptr 1001 0,.ptr 1002 0,.ptr 1003 0]),(1001,.var (vE e)),(1002,.var [.snil]),(1003,.var [num 0])]):=by
 refine zm mixed ttok Tryz.func52 Tryz.ntmps52 Tryz.results52 ?_
 simp -implicitDefEqProofs only [xOb,argT,aTab,↓zb,push_cast,simprocAttr,tte]
 refine ⟨⟨by omega,by omega,by omega⟩,⟨by omega,by omega,by omega⟩,?_⟩
 refine z8 mixed ttok (fun n:Nat=>E1s d (.xo true 1000) ([(1000,.x (.lp ks ps asg bd .ready) [.ptr 1001 0,.ptr 1002 0,.ptr 1003 0]),(1001,.var (vE e)),(1002,.var [.snil]),(1003,.var [num 0])]) n) (fun n=>d.length-n) (fun n=>n<=d.length) 0 (Nat.zero_le _) ?_ ?_
 ·exact Weak.keepL (by simp [E1s,xOb,ends]) (by simp [E1s,xOb,xOb,atOb,u0,jC,ends]) (by simp [E1s,xOb,ends])
 intro I hI n hn
 have hxl:=vj d n
 simp -implicitDefEqProofs only [E1s,xOb,atOb,xOb,aTab,rRow,List.cons_append,List.nil_append,↓zb,push_cast,simprocAttr,tte]
 refine za (fun h=>?_) fun h=>?_
 ·have h':n<d.length:=by simpa using h
  have hw:=zw h' (by omega)
  have hs:=congrArg (zg rV) (x0_set h')
  rw [<-xN] at hs
  simp only [List.getD_eq_getElem?_getD] at hs
  have hd3:=drop3 (l:=x0 d n) (n:=n) (by omega)
  have hfl:=hf.at h'
  refine ⟨⟨by omega,by omega⟩,by omega,⟨⟨by omega,by omega⟩,hxl.symm⟩,⟨hxl.symm,by omega,by omega⟩,?_⟩
  exact zp hI (n+1) h' (by show d.length-(n+1)<d.length-n;omega) (Weak.keepL (by simp [E1s,xOb,hw,ends]) (by simp [E1s,xOb,xOb,atOb,hd3,hs,ends]) (by simp [E1s,xOb,ends]))
 have hnn:n=d.length:=by have:=of_decide_eq_false h;omega
 subst hnn
 rw [ju]
 clear hI I h hxl
 refine z8 mixed ttok (fun n:Nat=>E2s d (.xo true 1000) (fun k=>[(1000,.x (.lp ks ps asg bd .ready) [.ptr 1001 0,.ptr 1002 0,.ptr 1003 0]),(1001,.var (vE e)),(1002,.var [.snil]),(1003,.var [num 0])]) n) (fun n=>N-n) (fun n=>n<=N) 0 (Nat.zero_le _) ?_ ?_
 ·exact Weak.keepL (by simp [E2s,xOb,ends]) (by simp [E2s,xOb,xOb,atOb,ends]) (by simp [E2s,xOb,ends])
 intro I hI n hn
 have hxl:=yK d n d.length
 have hal:=y9 d n d.length
 have hpt:=jt d n
 simp -implicitDefEqProofs only [E2s,xOb,atOb,xOb,aTab,rRow,List.cons_append,List.nil_append,↓zb,push_cast,simprocAttr,tte]
 have hcn:=hc n (by omega)
 rw [hpt]
 simp only [xOb,List.cons_append,List.nil_append] at hcn
 refine uI [(1000,1000),(1001,1001),(1002,1002),(1003,1003),(1009,15)] (yj _ _) hcn rfl rfl (by simp [ends,bs]) (by simp [ends,bs]) (by simp [vE,ends]) (by simp [idsOk,lookO,updO,ren1]) ?_
 simp -implicitDefEqProofs only [↓zb,push_cast,simprocAttr,tte]
 have wl:IntKind.i64.wrap ((d.length:Int)-1)=(d.length:Int)-1:=z7 (by omega) (by omega)
 have hnp:n<zn d:=by omega
 rw [<-hpt]
 refine z8 mixed ttok (fun k:Nat=>E3s d (.xo true 1000) ([(1000,.x (.lp ks ps asg bd .ready) [.ptr 1001 0,.ptr 1002 0,.ptr 1003 0]),(1001,.var (vE e)),(1002,.var [.snil]),(1003,.var [num 0])]) n k) (fun k=>k) (fun k=>k<=d.length/\zn (d.drop k) ∣ n+1) d.length ⟨Nat.le_refl _,by rw [List.drop_length];exact Nat.one_dvd _⟩ ?_ ?_
 ·exact Weak.keepL (by simp [E3s,xOb,wl,ends]) (by simp [E3s,xOb,xOb,atOb,hpt,ends]) (by simp [E3s,xOb,ends])
 intro J hJ k hk
 obtain ⟨hk1,hk2⟩:=hk
 have hxl:=yK d n k
 have hal:=y9 d n k
 simp -implicitDefEqProofs only [E3s,xOb,atOb,xOb,aTab,rRow,List.cons_append,List.nil_append,↓zb,push_cast,simprocAttr,tte]
 refine za (fun g=>?_) fun g=>?_
 ·have hk0:0<k:=by simp only [decide_eq_true_eq] at g;omega
  obtain ⟨i,rfl⟩: ∃i,k=i+1:=⟨k-1,by omega⟩
  have hi:i<d.length:=by omega
  have ei:(((i+1:Nat):Int)-1)=(i:Int):=by omega
  have hfl:=hf.at hi
  have hdl:=ue hf hi n
  have hlb:=hll _ (zx hi)
  have hag:(atM d n (i+1)).getD i default=(dig d i n:Int):=by rw [jD hi,if_pos (by omega)]
  have wd:IntKind.i64.wrap ((dig d i n:Int)+1)=((dig d i n+1:Nat):Int):=by rw [z7 (by omega) (by omega)];rfl
  have hset:=yZ (l:=atM d n (i+1)) (n:=i) (v:=((dig d i n+1:Nat):Int)) (by omega)
  have hag2:((atM d n (i+1)).set i ((dig d i n+1:Nat):Int)).getD i default=((dig d i n+1:Nat):Int):=by simp [List.getD_eq_getElem?_getD,hal,hi]
  have hal2:((atM d n (i+1)).set i ((dig d i n+1:Nat):Int)).length=d.length:=by rw [List.length_set];exact hal
  simp only [ei,hag,wd,Int.toNat_natCast,hset]
  have hss:(atM d n (i+1)).set i 0=((atM d n (i+1)).set i ((dig d i n+1:Nat):Int)).set i 0:=by rw [List.set_set]
  have hup:=atM_up hf hi hk2
  have hov:=uz hf hi hk2
  rw [hss] at hov
  clear hss
  have hxu:=xM_up hf hi hk2
  have hxo:=js hf hi hk2
  obtain ⟨m,hm⟩: ∃m,dig d i n+1=m:=⟨_,rfl⟩
  rw [hm] at hag2 hup hov hal2 hxu hxo ⊢
  generalize (atM d n (i+1)).set i (m:Int)=av at hag2 hal2 hup hov ⊢
  simp -implicitDefEqProofs only [hag2,Int.toNat_natCast,↓zb,push_cast,simprocAttr,tte]
  refine ⟨⟨⟨by omega,by omega⟩,hal.symm⟩,by omega,hal.symm,⟨⟨by omega,by omega⟩,hal.symm⟩,⟨hal.symm,by omega,by omega⟩,⟨⟨by omega,by omega⟩,hal2.symm⟩,by omega,hal2.symm,⟨by omega,by omega⟩,zh (by kernel_rfl),?_⟩
  refine za (fun q=>?_) fun q=>?_
  ·have hq:m<(d.getD i default).length:=by simpa using q
   refine ⟨⟨by omega,by omega⟩,⟨⟨by omega,by omega⟩,hal2.symm⟩,by omega,hal2.symm,⟨by omega,by omega⟩,⟨⟨by omega,by omega⟩,hxl.symm⟩,⟨hxl.symm,by omega,by omega⟩,zh (by kernel_rfl),?_⟩
   refine za (fun h=>absurd h (by simp)) fun _=>?_
   have hlt:n+1<zn d:=j0 hf hi hk2 (by omega) hnp
   have hw:=zw (show n<5000 by omega) (by omega)
   have hxs:=yL (l:=xM d n (i+1)) (n:=i) (v:=(d.getD i default).getD m default) (by omega)
   rw [hxu hq] at hxs
   have hup:=hup hq
   exact zp hI (n+1) (by omega) (by show N-(n+1)<N-n;omega) (Weak.keepL (by simp [E2s,hw,xOb,ends]) (by simp only [E2s,xOb,xOb,atOb,hxs,hup,ends,ite_true,ite_false,reduceIte,Nat.reduceEqDiff,Nat.reduceLeDiff,Nat.reduceLT,Nat.reduceAdd,reduceCtorEq,num,boo,str,ints,aV,aTab,aRow,rRow,vE]<;>simp [vE,ends]) (by simp [E2s,xOb,ends]))
  ·have hq: ¬m<(d.getD i default).length:=by simpa using q
   have hov:=hov hq
   have hxo:=hxo hq
   have hvs:=yL (l:=xM d n (i+1)) (n:=i) (v:=(d.getD i default).getD 0 default) (by omega)
   rw [hxo] at hvs
   have his:=yZ (l:=av) (n:=i) (v:=0) (by omega)
   rw [hov] at his
   have wi:IntKind.i64.wrap ((i:Int)-1)=(i:Int)-1:=z7 (by omega) (by omega)
   refine ⟨⟨by omega,by omega⟩,by omega,⟨⟨by omega,by omega⟩,hal2.symm⟩,⟨hal2.symm,by omega,by omega⟩,⟨⟨by omega,by omega⟩,hxl.symm⟩,⟨hxl.symm,by omega,by omega⟩,?_⟩
   refine zp hJ i ⟨by omega,(wP hf hi hk2 (by rw [hm];exact hq)).2⟩ (by show i<i+1;omega) (Weak.keepL (by simp [E3s,wi,xOb,ends]) ?_ (by simp [E3s,xOb,ends]))
   simp only [E3s,xOb,xOb,atOb,hvs,his,ends,ite_true,ite_false,reduceIte,Nat.reduceEqDiff,Nat.reduceLeDiff,Nat.reduceLT,Nat.reduceAdd,reduceCtorEq,num,boo,str,ints,aV,aTab,aRow,rRow,vE]<;>simp [vE,ends]
 ·have hk0:k=0:=by simp only [decide_eq_false_iff_not] at g;omega
  subst hk0
  rw [List.drop_zero] at hk2
  have hlast:=wh hnp hk2
  have hnN:n=N:=by omega
  have d0:decide (((0:Nat):Int)-1<0)=true:=by decide
  simp -implicitDefEqProofs only [d0,↓zb,push_cast,simprocAttr,tte]
  try rw [<-hlast]
  exact jQ trivial rfl (by simp [vE,ends]) (by simp [vE,ends])
theorem c_eachYs {d:List Row} (hf:Full d) (hl:d.length<=12) (hp:zn d<=5000) (hll: ∀l∈d,l.length<=5000) (e:Ex) {ks ps:List Nat} {asg bd:Code} {N:Nat} (hN:N<zn d)
 (hc: ∀k,k<N->AYield Tryz.prog 1000 [num k,.vec 1009 d.length] ([(1000,.x (.lp ks ps asg bd .ready) [.ptr 1001 0,.ptr 1002 0,.ptr 1003 0]),(1001,.var (vE e)),(1002,.var [.snil]),(1003,.var [num 0])]++[(1009,xOb (ptM d k) 0)]) (boo true) ([(1000,.x (.lp ks ps asg bd .ready) [.ptr 1001 0,.ptr 1002 0,.ptr 1003 0]),(1001,.var (vE e)),(1002,.var [.snil]),(1003,.var [num 0])]++[(1009,xOb (ptM d k) 0)])) (hs:AYield Tryz.prog 1000 [num N,.vec 1009 d.length] ([(1000,.x (.lp ks ps asg bd .ready) [.ptr 1001 0,.ptr 1002 0,.ptr 1003 0]),(1001,.var (vE e)),(1002,.var [.snil]),(1003,.var [num 0])]++[(1009,xOb (ptM d N) 0)]) (boo false) ([(1000,.x (.lp ks ps asg bd (.done .ret)) [.ptr 1001 0,.ptr 1002 0,.ptr 1003 0]),(1001,.var (vE e)),(1002,.var [.d (.sl 3 (zg rV (ptM d N)))]),(1003,.var [num 0])]++[(1009,xOb (ptM d N) d.length)])):
 ACall Tryz.prog 52 [aTab d,.xo true 1000] ([(1000,.x (.lp ks ps asg bd .ready) [.ptr 1001 0,.ptr 1002 0,.ptr 1003 0]),(1001,.var (vE e)),(1002,.var [.snil]),(1003,.var [num 0])]) (.tup []) ([(1000,.x (.lp ks ps asg bd (.done .ret)) [.ptr 1001 0,.ptr 1002 0,.ptr 1003 0]),(1001,.var (vE e)),(1002,.var [.d (.sl 3 (zg rV (ptM d N)))]),(1003,.var [num 0])]):=by
 refine zm mixed ttok Tryz.func52 Tryz.ntmps52 Tryz.results52 ?_
 simp -implicitDefEqProofs only [xOb,argT,aTab,↓zb,push_cast,simprocAttr,tte]
 refine ⟨⟨by omega,by omega,by omega⟩,⟨by omega,by omega,by omega⟩,?_⟩
 refine z8 mixed ttok (fun n:Nat=>E1s d (.xo true 1000) ([(1000,.x (.lp ks ps asg bd .ready) [.ptr 1001 0,.ptr 1002 0,.ptr 1003 0]),(1001,.var (vE e)),(1002,.var [.snil]),(1003,.var [num 0])]) n) (fun n=>d.length-n) (fun n=>n<=d.length) 0 (Nat.zero_le _) ?_ ?_
 ·exact Weak.keepL (by simp [E1s,xOb,ends]) (by simp [E1s,xOb,xOb,atOb,u0,jC,ends]) (by simp [E1s,xOb,ends])
 intro I hI n hn
 have hxl:=vj d n
 simp -implicitDefEqProofs only [E1s,xOb,atOb,xOb,aTab,rRow,List.cons_append,List.nil_append,↓zb,push_cast,simprocAttr,tte]
 refine za (fun h=>?_) fun h=>?_
 ·have h':n<d.length:=by simpa using h
  have hw:=zw h' (by omega)
  have hs:=congrArg (zg rV) (x0_set h')
  rw [<-xN] at hs
  simp only [List.getD_eq_getElem?_getD] at hs
  have hd3:=drop3 (l:=x0 d n) (n:=n) (by omega)
  have hfl:=hf.at h'
  refine ⟨⟨by omega,by omega⟩,by omega,⟨⟨by omega,by omega⟩,hxl.symm⟩,⟨hxl.symm,by omega,by omega⟩,?_⟩
  exact zp hI (n+1) h' (by show d.length-(n+1)<d.length-n;omega) (Weak.keepL (by simp [E1s,xOb,hw,ends]) (by simp [E1s,xOb,xOb,atOb,hd3,hs,ends]) (by simp [E1s,xOb,ends]))
 have hnn:n=d.length:=by have:=of_decide_eq_false h;omega
 subst hnn
 rw [ju]
 clear hI I h hxl
 refine z8 mixed ttok (fun n:Nat=>E2s d (.xo true 1000) (fun k=>[(1000,.x (.lp ks ps asg bd .ready) [.ptr 1001 0,.ptr 1002 0,.ptr 1003 0]),(1001,.var (vE e)),(1002,.var [.snil]),(1003,.var [num 0])]) n) (fun n=>N-n) (fun n=>n<=N) 0 (Nat.zero_le _) ?_ ?_
 ·exact Weak.keepL (by simp [E2s,xOb,ends]) (by simp [E2s,xOb,xOb,atOb,ends]) (by simp [E2s,xOb,ends])
 intro I hI n hn
 have hxl:=yK d n d.length
 have hal:=y9 d n d.length
 have hpt:=jt d n
 simp -implicitDefEqProofs only [E2s,xOb,atOb,xOb,aTab,rRow,List.cons_append,List.nil_append,↓zb,push_cast,simprocAttr,tte]
 by_cases hnN:n=N
 ·subst hnN
  have hcn:=hs
  rw [hpt]
  simp only [xOb,List.cons_append,List.nil_append] at hcn
  refine uI [(1000,1000),(1001,1001),(1002,1002),(1003,1003),(1009,15)] (yj _ _) hcn rfl rfl (by simp [ends,bs]) (by simp [ends,bs]) (by simp [vE,ends]) (by simp [idsOk,lookO,updO,ren1]) ?_
  simp -implicitDefEqProofs only [↓zb,push_cast,simprocAttr,tte]
  exact jQ trivial rfl (by simp [vE,ends]) (by simp [vE,ends])
 have hlt0:n<N:=by omega
 have hcn:=hc n hlt0
 rw [hpt]
 simp only [xOb,List.cons_append,List.nil_append] at hcn
 refine uI [(1000,1000),(1001,1001),(1002,1002),(1003,1003),(1009,15)] (yj _ _) hcn rfl rfl (by simp [ends,bs]) (by simp [ends,bs]) (by simp [vE,ends]) (by simp [idsOk,lookO,updO,ren1]) ?_
 simp -implicitDefEqProofs only [↓zb,push_cast,simprocAttr,tte]
 have wl:IntKind.i64.wrap ((d.length:Int)-1)=(d.length:Int)-1:=z7 (by omega) (by omega)
 have hnp:n<zn d:=by omega
 rw [<-hpt]
 refine z8 mixed ttok (fun k:Nat=>E3s d (.xo true 1000) ([(1000,.x (.lp ks ps asg bd .ready) [.ptr 1001 0,.ptr 1002 0,.ptr 1003 0]),(1001,.var (vE e)),(1002,.var [.snil]),(1003,.var [num 0])]) n k) (fun k=>k) (fun k=>k<=d.length/\zn (d.drop k) ∣ n+1) d.length ⟨Nat.le_refl _,by rw [List.drop_length];exact Nat.one_dvd _⟩ ?_ ?_
 ·exact Weak.keepL (by simp [E3s,xOb,wl,ends]) (by simp [E3s,xOb,xOb,atOb,hpt,ends]) (by simp [E3s,xOb,ends])
 intro J hJ k hk
 obtain ⟨hk1,hk2⟩:=hk
 have hxl:=yK d n k
 have hal:=y9 d n k
 simp -implicitDefEqProofs only [E3s,xOb,atOb,xOb,aTab,rRow,List.cons_append,List.nil_append,↓zb,push_cast,simprocAttr,tte]
 refine za (fun g=>?_) fun g=>?_
 ·have hk0:0<k:=by simp only [decide_eq_true_eq] at g;omega
  obtain ⟨i,rfl⟩: ∃i,k=i+1:=⟨k-1,by omega⟩
  have hi:i<d.length:=by omega
  have ei:(((i+1:Nat):Int)-1)=(i:Int):=by omega
  have hfl:=hf.at hi
  have hdl:=ue hf hi n
  have hlb:=hll _ (zx hi)
  have hag:(atM d n (i+1)).getD i default=(dig d i n:Int):=by rw [jD hi,if_pos (by omega)]
  have wd:IntKind.i64.wrap ((dig d i n:Int)+1)=((dig d i n+1:Nat):Int):=by rw [z7 (by omega) (by omega)];rfl
  have hset:=yZ (l:=atM d n (i+1)) (n:=i) (v:=((dig d i n+1:Nat):Int)) (by omega)
  have hag2:((atM d n (i+1)).set i ((dig d i n+1:Nat):Int)).getD i default=((dig d i n+1:Nat):Int):=by simp [List.getD_eq_getElem?_getD,hal,hi]
  have hal2:((atM d n (i+1)).set i ((dig d i n+1:Nat):Int)).length=d.length:=by rw [List.length_set];exact hal
  simp only [ei,hag,wd,Int.toNat_natCast,hset]
  have hss:(atM d n (i+1)).set i 0=((atM d n (i+1)).set i ((dig d i n+1:Nat):Int)).set i 0:=by rw [List.set_set]
  have hup:=atM_up hf hi hk2
  have hov:=uz hf hi hk2
  rw [hss] at hov
  clear hss
  have hxu:=xM_up hf hi hk2
  have hxo:=js hf hi hk2
  obtain ⟨m,hm⟩: ∃m,dig d i n+1=m:=⟨_,rfl⟩
  rw [hm] at hag2 hup hov hal2 hxu hxo ⊢
  generalize (atM d n (i+1)).set i (m:Int)=av at hag2 hal2 hup hov ⊢
  simp -implicitDefEqProofs only [hag2,Int.toNat_natCast,↓zb,push_cast,simprocAttr,tte]
  refine ⟨⟨⟨by omega,by omega⟩,hal.symm⟩,by omega,hal.symm,⟨⟨by omega,by omega⟩,hal.symm⟩,⟨hal.symm,by omega,by omega⟩,⟨⟨by omega,by omega⟩,hal2.symm⟩,by omega,hal2.symm,⟨by omega,by omega⟩,zh (by kernel_rfl),?_⟩
  refine za (fun q=>?_) fun q=>?_
  ·have hq:m<(d.getD i default).length:=by simpa using q
   refine ⟨⟨by omega,by omega⟩,⟨⟨by omega,by omega⟩,hal2.symm⟩,by omega,hal2.symm,⟨by omega,by omega⟩,⟨⟨by omega,by omega⟩,hxl.symm⟩,⟨hxl.symm,by omega,by omega⟩,zh (by kernel_rfl),?_⟩
   refine za (fun h=>absurd h (by simp)) fun _=>?_
   have hlt:n+1<zn d:=j0 hf hi hk2 (by omega) hnp
   have hw:=zw (show n<5000 by omega) (by omega)
   have hxs:=yL (l:=xM d n (i+1)) (n:=i) (v:=(d.getD i default).getD m default) (by omega)
   rw [hxu hq] at hxs
   have hup:=hup hq
   exact zp hI (n+1) (by omega) (by show N-(n+1)<N-n;omega) (Weak.keepL (by simp [E2s,hw,xOb,ends]) (by simp only [E2s,xOb,xOb,atOb,hxs,hup,ends,ite_true,ite_false,reduceIte,Nat.reduceEqDiff,Nat.reduceLeDiff,Nat.reduceLT,Nat.reduceAdd,reduceCtorEq,num,boo,str,ints,aV,aTab,aRow,rRow,vE]<;>simp [vE,ends]) (by simp [E2s,xOb,ends]))
  ·have hq: ¬m<(d.getD i default).length:=by simpa using q
   have hov:=hov hq
   have hxo:=hxo hq
   have hvs:=yL (l:=xM d n (i+1)) (n:=i) (v:=(d.getD i default).getD 0 default) (by omega)
   rw [hxo] at hvs
   have his:=yZ (l:=av) (n:=i) (v:=0) (by omega)
   rw [hov] at his
   have wi:IntKind.i64.wrap ((i:Int)-1)=(i:Int)-1:=z7 (by omega) (by omega)
   refine ⟨⟨by omega,by omega⟩,by omega,⟨⟨by omega,by omega⟩,hal2.symm⟩,⟨hal2.symm,by omega,by omega⟩,⟨⟨by omega,by omega⟩,hxl.symm⟩,⟨hxl.symm,by omega,by omega⟩,?_⟩
   refine zp hJ i ⟨by omega,(wP hf hi hk2 (by rw [hm];exact hq)).2⟩ (by show i<i+1;omega) (Weak.keepL (by simp [E3s,wi,xOb,ends]) ?_ (by simp [E3s,xOb,ends]))
   simp only [E3s,xOb,xOb,atOb,hvs,his,ends,ite_true,ite_false,reduceIte,Nat.reduceEqDiff,Nat.reduceLeDiff,Nat.reduceLT,Nat.reduceAdd,reduceCtorEq,num,boo,str,ints,aV,aTab,aRow,rRow,vE]<;>simp [vE,ends]
 ·have hk0:k=0:=by simp only [decide_eq_false_iff_not] at g;omega
  subst hk0
  rw [List.drop_zero] at hk2
  have hlast:=wh hnp hk2
  exfalso
  omega
end
section
open Go.Am
attribute [local simp, local push_cast] num boo str ints aV aTab aRow rRow vE
theorem xW {h:Nat->Option Ob} (e:Ex) {x:Row} {o n fz:Nat} (ho:h o=some (.vec 53 3 (zg rV x) fz)) (hn:n=x.length):jr h ([.agg (vE e),.vec o n]++[]) [aE e,aRow x]:=by
 rw [zl]
 exact seenL_agg (u5 (seen_d _ _) (u5 (seen_d _ _) (u5 (seen_d _ _) (u5 (seen_d _ _) (u5 (seen_d _ _) (u5 (seen_d _ _) (seenL_nil _))))))) (u5 (seen_vec ho (by rw [zc];exact hn)) (seenL_nil _))
def valL (v:Val):List Value:=[.int .i64 v.kind,.int .i64 v.num,.string v.text]
theorem truth_cases (v:Val):zA v=0\/zA v=1\/zA v=2:=by
 unfold zA
 split
 ·exact .inr (.inr rfl)
 ·split
  ·exact .inr (.inl rfl)
  ·exact .inl rfl
theorem jA (v:Nat->Int) (t:Int) (k:Nat):0<=cntT v t k/\cntT v t k<=k:=by
 unfold cntT
 have:((List.range k).countP fun i=>v i==t)<=(List.range k).length:=List.countP_le_length
 rw [List.length_range] at this
 omega
theorem vn (v:Nat->Int) (t:Int) (k:Nat):cntT v t (k+1)=cntT v t k+if v k=t then 1 else 0:=by
 unfold cntT
 rw [List.range_succ,List.countP_append]
 by_cases h:v k=t
 ·simp [h]
 ·simp [h]
theorem c_count1 {d:List Row} (hl:d.length<=12) (e:Ex) (ho:Ok12 e) (v:Nat->Int) {k:Nat} (hk:k<=5000) (hv:v k=zA (zN (ptM d k) e)):
 ACall Tryz.prog 54 [num k,.vec 1009 d.length,.ptr 1000 0,.ptr 1001 0] (oCnt e v k++[(1009,xOb (ptM d k) 0)]) (boo true) (oCnt e v (k+1)++[(1009,xOb (ptM d k) 0)]):=by
 refine zm mixed ttok Tryz.func54 Tryz.ntmps54 Tryz.results54 ?_
 have hxl:=yk d k
 simp -implicitDefEqProofs only [oCnt,xOb,List.cons_append,List.nil_append,argT,↓zb,push_cast,simprocAttr,tte]
 refine vQ (xs:=[aE e,aRow (ptM d k)]) (rs:=valL (zN (ptM d k) e)) [1009] (uK (ptM d k) e ho) (fun h2 hr=>xW e (hr 1009 (by simp)) hxl.symm) ?_
 simp -implicitDefEqProofs only [lits,valL,↓zb,push_cast,simprocAttr,tte]
 refine zd [[0,0,0]] [] (vi (zN (ptM d k) e)) ?_
 rw [<-hv]
 have b0:=jA v 0 k
 have b1:=jA v 1 k
 have b2:=jA v 2 k
 have s0:=vn v 0 k
 have s1:=vn v 1 k
 have s2:=vn v 2 k
 have ht:=truth_cases (zN (ptM d k) e)
 rw [<-hv] at ht
 generalize v k=t at ht s0 s1 s2 ⊢
 rw [s0,s1,s2]
 have w0:IntKind.i64.wrap (cntT v 0 k+1)=cntT v 0 k+1:=z7 (by omega) (by omega)
 have w1:IntKind.i64.wrap (cntT v 1 k+1)=cntT v 1 k+1:=z7 (by omega) (by omega)
 have w2:IntKind.i64.wrap (cntT v 2 k+1)=cntT v 2 k+1:=z7 (by omega) (by omega)
 rcases ht with rfl | rfl | rfl
 all_goals
  simp -implicitDefEqProofs only [w0,w1,w2,↓zb,push_cast,simprocAttr,tte]
  exact zf [0] rfl trivial trivial rfl rfl (by simp [ends]) (by simp [ends])
theorem c_rel1 {d:List Row} (hl:d.length<=12) (e:Ex) (ho:Ok12 e) (v:Nat->Val) {k:Nat} (hk:k<=5000) (hv:v k=zN (ptM d k) e):
 ACall Tryz.prog 60 [num k,.vec 1009 d.length,.ptr 1000 0,.ptr 1001 0] ([(1000,.var [.vec 1003 k]),(1001,.var (vE e)),(1003,.vec 53 3 (zg rV ((List.range k).map v)) 0)]++[(1009,xOb (ptM d k) 0)]) (boo true)
  ([(1000,.var [.vec 1003 (k+1)]),(1001,.var (vE e)),(1003,.vec 53 3 (zg rV ((List.range (k+1)).map v)) 0)]++[(1009,xOb (ptM d k) 0)]):=by
 refine zm mixed ttok Tryz.func60 Tryz.ntmps60 Tryz.results60 ?_
 have hxl:=yk d k
 have hrl:((List.range k).map v).length=k:=by simp
 have hrs:(List.range (k+1)).map v=(List.range k).map v++[zN (ptM d k) e]:=by rw [List.range_succ,List.map_append,<-hv];rfl
 simp -implicitDefEqProofs only [xOb,List.cons_append,List.nil_append,argT,↓zb,push_cast,simprocAttr,tte]
 refine vQ (xs:=[aE e,aRow (ptM d k)]) (rs:=valL (zN (ptM d k) e)) [1009] (uK (ptM d k) e ho) (fun h2 hr=>xW e (hr 1009 (by simp)) hxl.symm) ?_
 simp -implicitDefEqProofs only [lits,valL,↓zb,push_cast,simprocAttr,tte]
 refine ⟨⟨hrl.symm,by rw [hrl];omega⟩,zh (by kernel_rfl),?_⟩
 exact zf [0] rfl trivial trivial rfl rfl (by simp only [hrs,hrl]<;>simp [ends]) (by simp [ends])
theorem c_cloneV (l:Row) (hl:l.length<=1000000):ACall Tryz.prog 53 [aRow l] [] (aRow l) []:=by
 refine zm mixed ttok Tryz.func53 Tryz.ntmps53 Tryz.results53 ?_
 cases l with
 | nil=>
   simp -implicitDefEqProofs only [argT,aRow,zv,List.isEmpty_nil,if_true,↓zb,push_cast,simprocAttr,tte]
   refine ⟨?_,?_⟩
   ·refine zf [3] rfl (by simp) (by simp [zc]<;>omega) ?_ (by first | rfl | simp [ends] | (subst_vars;simp [ends])) (by simp [ends]) (by simp [ends])
    rfl
   ·refine zf [3] rfl (by simp) (by simp [zc]<;>omega) ?_ (by first | rfl | simp [ends] | (subst_vars;simp [ends])) (by simp [ends]) (by simp [ends])
    rfl
 | cons x l=>
   simp only [List.length_cons] at hl
   simp -implicitDefEqProofs only [argT,aRow,zo,List.isEmpty_cons,↓zb,push_cast,simprocAttr,tte]
   refine ⟨by omega,?_⟩
   refine zf [3] rfl (by simp) (by simp [zc]<;>omega) ?_ (by first | rfl | simp [ends] | (subst_vars;simp [ends])) (by simp [ends]) (by simp [ends])
   rfl
theorem c_imp1 {d:List Row} (hl:d.length<=12) (a b:Ex) (ha:Ok12 a) (hb:Ok12 b) {k:Nat} (h:zA (zN (ptM d k) a)=1->zA (zN (ptM d k) b)=1):
 ACall Tryz.prog 58 [num k,.vec 1009 d.length,.ptr 1000 0,.ptr 1001 0,.ptr 1002 0,.ptr 1003 0]
  ([(1000,.var (vE a)),(1001,.var (vE b)),(1002,.var [boo true]),(1003,.var [.snil])]++[(1009,xOb (ptM d k) 0)]) (boo true)
  ([(1000,.var (vE a)),(1001,.var (vE b)),(1002,.var [boo true]),(1003,.var [.snil])]++[(1009,xOb (ptM d k) 0)]):=by
 refine zm mixed ttok Tryz.func58 Tryz.ntmps58 Tryz.results58 ?_
 have hxl:=yk d k
 simp -implicitDefEqProofs only [xOb,List.cons_append,List.nil_append,argT,↓zb,push_cast,simprocAttr,tte]
 refine xL (xs:=[aE a,aRow (ptM d k)]) [1009] (vS a (ptM d k) ha) (fun h2 hr=>xW a (hr 1009 (by simp)) hxl.symm) ?_
 by_cases h1:zA (zN (ptM d k) a)=1
 ·have h2:=h h1
  simp -implicitDefEqProofs only [h1,Int.reduceBEq,↓zb,push_cast,simprocAttr,tte]
  refine xL (xs:=[aE b,aRow (ptM d k)]) [1009] (vS b (ptM d k) hb) (fun h2 hr=>xW b (hr 1009 (by simp)) hxl.symm) ?_
  simp -implicitDefEqProofs only [h2,Int.reduceBEq,↓zb,push_cast,simprocAttr,tte]
  exact zf [0] rfl trivial trivial rfl rfl (by simp [ends]) (by simp [ends])
 ·have h1':(zA (zN (ptM d k) a)==1)=false:=beq_false_of_ne h1
  simp -implicitDefEqProofs only [h1',↓zb,push_cast,simprocAttr,tte]
  exact zf [0] rfl trivial trivial rfl rfl (by simp [ends]) (by simp [ends])
theorem c_imp1s {d:List Row} (hl:d.length<=12) (a b:Ex) (ha:Ok12 a) (hb:Ok12 b) {k:Nat} (h1:zA (zN (ptM d k) a)=1) (h2:zA (zN (ptM d k) b)≠1):
 ACall Tryz.prog 58 [num k,.vec 1009 d.length,.ptr 1000 0,.ptr 1001 0,.ptr 1002 0,.ptr 1003 0]
  ([(1000,.var (vE a)),(1001,.var (vE b)),(1002,.var [boo true]),(1003,.var [.snil])]++[(1009,xOb (ptM d k) 0)]) (boo false)
  ([(1000,.var (vE a)),(1001,.var (vE b)),(1002,.var [boo false]),(1003,.var [.d (.sl 3 (zg rV (ptM d k)))])]++[(1009,xOb (ptM d k) d.length)]):=by
 refine zm mixed ttok Tryz.func58 Tryz.ntmps58 Tryz.results58 ?_
 have hxl:=yk d k
 have h2':(zA (zN (ptM d k) b)==1)=false:=beq_false_of_ne h2
 simp -implicitDefEqProofs only [xOb,List.cons_append,List.nil_append,argT,↓zb,push_cast,simprocAttr,tte]
 refine xL (xs:=[aE a,aRow (ptM d k)]) [1009] (vS a (ptM d k) ha) (fun h2 hr=>xW a (hr 1009 (by simp)) hxl.symm) ?_
 simp -implicitDefEqProofs only [h1,Int.reduceBEq,↓zb,push_cast,simprocAttr,tte]
 refine xL (xs:=[aE b,aRow (ptM d k)]) [1009] (vS b (ptM d k) hb) (fun h2 hr=>xW b (hr 1009 (by simp)) hxl.symm) ?_
 simp -implicitDefEqProofs only [h2',↓zb,push_cast,simprocAttr,tte]
 rw [<-hxl]
 refine zd [[3]] [] (c_cloneV (ptM d k) (by omega)) ?_
 simp -implicitDefEqProofs only [↓zb,push_cast,simprocAttr,tte]
 exact zf [0] rfl trivial trivial rfl rfl (by simp [ends]) (by simp [ends])
end
end Go.Proofs.YtiagabnddihchaaGreatDoor
