/- Conditions over finite domains (part Wl) -/
import Derived.Test.YtiagabnddihchaaGreatDoorWk
set_option maxRecDepth 100000
set_option maxHeartbeats 4000000
set_option linter.all false
namespace Go.Proofs.YtiagabnddihchaaGreatDoor
section
open Go.Am
attribute [local simp, local push_cast] num boo str ints aV aTab aRow rRow vE
def wn (p:Nat->Bool) (N:Nat):Option Nat:=(List.range N).find? p
theorem ke {p:Nat->Bool} {N:Nat} (h:wn p N=none): ∀k,k<N->p k=false:=fun k hk=>by
 have:=List.find?_eq_none.1 h k (List.mem_range.2 hk)
 simpa using this
theorem uE: ∀{N:Nat} {p:Nat→Bool} {k:Nat},wn p N=some k→k<N∧p k=true∧ ∀j,j<k→p j=false:=by
 intro N p k h
 have h1:k<N:=List.mem_range.1 (List.mem_of_find?_eq_some h)
 have h2:p k=true:=List.find?_some h
 refine ⟨h1,h2,fun j hj=>?_⟩
 by_cases hp:p j=true
 ·exfalso
  obtain ⟨_,xs,ys,e,hb⟩:=List.find?_eq_some_iff_append.1 h
  have hj2:j∈xs:=by
   have hm:j∈List.range N:=List.mem_range.2 (by omega)
   rw [e] at hm
   rcases List.mem_append.1 hm with q | q
   ·exact q
   ·exfalso
    have hs:(List.range N).Pairwise (· < ·):=List.pairwise_lt_range
    rw [e] at hs
    rcases List.mem_cons.1 q with q | q
    ·omega
    ·have:=(List.pairwise_append.1 hs).2.1
     have:=List.rel_of_pairwise_cons this q
     omega
  have:=hb j hj2
  simp [hp] at this
 ·simpa using hp
theorem first_of {p:Nat->Bool} {N k:Nat} (h1:k<N) (h2:p k=true) (h3: ∀j,j<k->p j=false):wn p N=some k:=by
 cases h:wn p N with
 | none=>have:=ke h k h1;rw [h2] at this;cases this
 | some m=>
   obtain ⟨a,b,c⟩:=uE h
   rcases Nat.lt_trichotomy m k with q | q | q
   ·have:=h3 m q;rw [b] at this;cases this
   ·rw [q]
   ·have:=c k q;rw [h2] at this;cases this
theorem first_no {p:Nat->Bool} {N:Nat} (h: ∀k,k<N->p k=false):wn p N=none:=by
 cases hh:wn p N with
 | none=>rfl
 | some m=>obtain ⟨a,b,c⟩:=uE hh;rw [h m a] at b;cases b
theorem valid_dom {d:List Row} {e:Ex} (h:zI d e=0):wO d=true/\zn d<=4096:=by
 unfold zI at h
 split at h
 ·cases h
 ·rename_i h1
  split at h
  ·cases h
  ·exact ⟨by simpa using h1,by omega⟩
theorem uZ: ∀{d:List Row},Full d-> ∀l∈d,l.length<=zn d
 | [],_,l,hl=>by simp at hl
 | x::d,hf,l,hl=>by
   rw [zn]
   have hx:=hf x (by simp)
   have hp:=yX hf.tail
   rcases List.mem_cons.1 hl with rfl | hl
   ·exact Nat.le_mul_of_pos_right _ hp
   ·have:=uZ hf.tail l hl
    exact Nat.le_trans this (Nat.le_mul_of_pos_left _ hx)
structure GoodD (d:List Row):Prop where
 full:Full d
 l12:d.length<=12
 pr:zn d<=4096
 ll: ∀l∈d,l.length<=5000
theorem w7 {d:List Row} {e:Ex} (h:zI d e=0):GoodD d:=by
 obtain ⟨h1,h2⟩:=valid_dom h
 obtain ⟨h3,h4⟩:=uH h1
 exact ⟨h3,h4,h2,fun l hl=>by have:=uZ h3 l hl;omega⟩
def xq (d:List Row) (e:Ex):Row×Int:=
 if zI d e≠0 then ([],zI d e) else match wn (yp d e) (zn d) with | some k=>(ptM d k,0) | none=>([],12)
theorem c_solve (d:List Row) (hd:yE d) (e:Ex) (ho:Ok12 e):ACall Tryz.prog 12 [aTab d,aE e] [] (.tup [aRow (xq d e).1,num (xq d e).2]) []:=by
 have hV:=uw d hd e ho
 by_cases hv:zI d e=0
 ·have G:=w7 hv
  rw [hv] at hV
  unfold xq
  rw [if_neg (by omega)]
  cases hF:wn (yp d e) (zn d) with
  | none=>exact c_solveX G.full G.l12 (by have:=G.pr;omega) G.ll e ho hV (ke hF)
  | some k=>
    obtain ⟨h1,h2,h3⟩:=uE hF
    exact c_solveS G.full G.l12 (by have:=G.pr;omega) G.ll e ho hV h1 h3 h2
 ·have hm:xq d e=([],zI d e):=by rw [xq,if_pos hv]
  rw [hm]
  rw [zl] at hV ⊢
  refine enterqM mixed ttok Tryz.func12 Tryz.ntmps12 Tryz.results12 ?_
  simp -implicitDefEqProofs only [argT,aTab,↓zb,push_cast,simprocAttr,tte]
  refine zd [[1],[0,0,0,0,0,6]] [] (hV) ?_
  simp -implicitDefEqProofs only [↓zb,push_cast,simprocAttr,tte]
  have hv':(zI d e !=0)=true:=bne_iff_ne.2 hv
  simp -implicitDefEqProofs only [hv',↓zb,push_cast,simprocAttr,tte]
  refine ⟨⟨[(4,.ptr 4 0),(5,.ptr 5 0)],[(4,.var [.snil]),(5,.var [num (zI d e)])]⟩,⟨by simp [ends],by simp [ends],by simp [keepM,hdd,inO,lookO],by simp [noMk]⟩,?_⟩
  simp -implicitDefEqProofs only [↓zb,push_cast,simprocAttr,tte]
  refine zO [[3],[]] rfl (by simp) (by simp) ?_ rfl trivial (by simp [ends])
  rfl
def zV (d:List Row) (e:Ex) (k:Nat):Int:=zA (zN (ptM d k) e)
def uf (d:List Row) (e:Ex):List Int:=
 if zI d e≠0 then [0,0,0,zI d e] else [cntT (zV d e) 1 (zn d),cntT (zV d e) 0 (zn d),cntT (zV d e) 2 (zn d),0]
theorem cntT_zero (v:Nat->Int) (t:Int):cntT v t 0=0:=rfl
theorem c_pcount (d:List Row) (hd:yE d) (e:Ex) (ho:Ok12 e):ACall Tryz.prog 13 [aTab d,aE e] [] (.tup ((uf d e).map num)) []:=by
 have hV:=uw d hd e ho
 have hm:uf d e=if zI d e≠0 then [0,0,0,zI d e] else [cntT (zV d e) 1 (zn d),cntT (zV d e) 0 (zn d),cntT (zV d e) 2 (zn d),0]:=rfl
 generalize uf d e=r at hm ⊢
 refine zm mixed ttok Tryz.func13 Tryz.ntmps13 Tryz.results13 ?_
 simp -implicitDefEqProofs only [argT,aTab,↓zb,push_cast,simprocAttr,tte]
 refine zd [[1],[0,0,0,0,0,6]] [] (hV) ?_
 simp -implicitDefEqProofs only [↓zb,push_cast,simprocAttr,tte]
 refine za (fun h1=>?_) fun h1=>?_
 ·have hv:zI d e≠0:=by simpa using h1
  rw [if_pos hv] at hm
  subst hm
  exact zO [[],[],[],[]] rfl (by simp) (by simp) rfl rfl trivial (by simp [ends])
 have hv:zI d e=0:=by simpa using h1
 rw [if_neg (by omega)] at hm
 subst hm
 have G:=w7 hv
 have hpp:=yX G.full
 have hc:=c_eachC G.full G.l12 (by have:=G.pr;omega) G.ll e (zV d e) (N:=zn d-1) (by omega) (fun k hk=>c_count1 G.l12 e ho (zV d e) (by have:=G.pr;omega) rfl)
 simp only [oCnt,cntT_zero] at hc
 refine yn [(1000,9),(1001,3)] (yj _ _) (hc) (by simp [vE,ends,bs]) (by simp [ends,bs]) (by simp [vE,ends]) (by simp [idsOk,lookO,updO,ren1]) ?_
 simp -implicitDefEqProofs only [↓zb,push_cast,simprocAttr,tte]
 refine ⟨zh (by kernel_rfl),?_⟩
 exact zO [[],[],[],[]] rfl (by simp) (by simp) rfl rfl trivial (by simp [ends])
def jb (d:List Row) (a b:Ex) (k:Nat):Bool:=yp d a k&& !yp d b k
def impM (d:List Row) (a b:Ex):Row×Bool×Int:=
 if zI d a≠0 then ([],false,zI d a) else if zI d b≠0 then ([],false,zI d b) else
  match wn (jb d a b) (zn d) with | some k=>(ptM d k,false,0) | none=>([],true,0)
theorem imp_go {d:List Row} {a b:Ex} {k:Nat} (h:jb d a b k=false):zA (zN (ptM d k) a)=1->zA (zN (ptM d k) b)=1:=by
 intro h1
 unfold jb yp at h
 rw [h1] at h
 simpa using h
theorem imp_stop {d:List Row} {a b:Ex} {k:Nat} (h:jb d a b k=true):zA (zN (ptM d k) a)=1/\zA (zN (ptM d k) b)≠1:=by
 unfold jb yp at h
 simp only [Bool.and_eq_true,beq_iff_eq,Bool.not_eq_true',beq_eq_false_iff_ne] at h
 exact h
def I1s (d:List Row) (a b:Ex) (n:Nat):SL:=
 ⟨[(18,.d (.lit (.int .i64 n))),(17,num 2),(16,.vec 16 2),(0,aTab d),(4,.ptr 4 0),(5,.ptr 5 0)],[(16,.vec 29 6 (zg rE [a,b]) 0),(4,.var (vE a)),(5,.var (vE b))]⟩
theorem c_pimplies (d:List Row) (hd:yE d) (a b:Ex) (ha:Ok12 a) (hb:Ok12 b):ACall Tryz.prog 18 [aTab d,aE a,aE b] [] (.tup [aRow (impM d a b).1,boo (impM d a b).2.1,num (impM d a b).2.2]) []:=by
 have hVa:=uw d hd a ha
 have hVb:=uw d hd b hb
 generalize hm:impM d a b=r
 unfold impM at hm
 rw [zl a,zl b]
 refine zm mixed ttok Tryz.func18 Tryz.ntmps18 Tryz.results18 ?_
 simp -implicitDefEqProofs only [argT,aTab,↓zb,push_cast,simprocAttr,tte]
 refine z8 mixed ttok (fun n:Nat=>I1s d a b n) (fun n=>2-n) (fun n=>n<=2/\(1<=n->zI d a=0)/\(2<=n->zI d b=0)) 0 ⟨by omega,fun h=>by omega,fun h=>by omega⟩ ?_ ?_
 ·exact Weak.keepL (by simp [I1s,ends]) (by simp [I1s,vE,zo,zv,yI,ends]) (by simp [I1s,ends])
 have w1:IntKind.i64.wrap 1=1:=z7 (by omega) (by omega)
 have w2:IntKind.i64.wrap 2=2:=z7 (by omega) (by omega)
 rintro I hI n ⟨hn,hga,hgb⟩
 have hc:n=0\/n=1\/n=2:=by omega
 rcases hc with rfl | rfl | rfl
 ·simp -implicitDefEqProofs only [I1s,vE,zo,zv,Int.reduceLT,↓zb,push_cast,simprocAttr,tte]
  rw [zl] at hVa
  refine zd [[1],[0,0,0,0,0,6]] [] (hVa) ?_
  simp -implicitDefEqProofs only [↓zb,push_cast,simprocAttr,tte]
  refine za (fun h1=>?_) fun h1=>?_
  ·have hv:zI d a≠0:=by simpa using h1
   rw [if_pos hv] at hm
   subst hm
   refine zO [[3],[],[]] rfl (by simp) (by simp) ?_ rfl trivial (by simp [ends])
   rfl
  have hv:zI d a=0:=by simpa using h1
  exact zp hI (0+1) ⟨by omega,fun _=>hv,fun h=>by omega⟩ (by show 2-(0+1)<2-0;omega) (Weak.keepL (by simp [I1s,w1,w2,ends]) (by simp [I1s,vE,zo,zv,yI,ends]) (by simp [I1s,ends]))
 ·simp -implicitDefEqProofs only [I1s,vE,zo,zv,Int.reduceLT,↓zb,push_cast,simprocAttr,tte]
  rw [zl] at hVb
  refine zd [[1],[0,0,0,0,0,6]] [] (hVb) ?_
  simp -implicitDefEqProofs only [↓zb,push_cast,simprocAttr,tte]
  refine za (fun h1=>?_) fun h1=>?_
  ·have hv:zI d b≠0:=by simpa using h1
   rw [if_neg (fun h=>h (hga (by omega))),if_pos hv] at hm
   subst hm
   refine zO [[3],[],[]] rfl (by simp) (by simp) ?_ rfl trivial (by simp [ends])
   rfl
  have hv:zI d b=0:=by simpa using h1
  exact zp hI (1+1) ⟨by omega,fun _=>hga (by omega),fun _=>hv⟩ (by show 2-(1+1)<2-1;omega) (Weak.keepL (by simp [I1s,w1,w2,ends]) (by simp [I1s,vE,zo,zv,yI,ends]) (by simp [I1s,ends]))
 have va:=hga (by omega)
 have vb:=hgb (by omega)
 rw [if_neg (fun h=>h va),if_neg (fun h=>h vb)] at hm
 have G:=w7 va
 have hpp:=yX G.full
 have hpr:=G.pr
 simp -implicitDefEqProofs only [I1s,vE,zo,zv,Int.reduceLT,↓zb,push_cast,simprocAttr,tte]
 cases hF:wn (jb d a b) (zn d) with
 | none=>
   rw [hF] at hm
   have hno:=ke hF
   subst hm
   have hc:=c_eachI G.full G.l12 (by omega) G.ll a b (N:=zn d-1) (by omega) (fun k hk=>c_imp1 G.l12 a b ha hb (imp_go (hno k hk)))
   refine yn [(1000,4),(1001,5),(1002,13),(1003,12)] (yj _ _) (hc) (by simp [vE,ends,bs]) (by simp [ends,bs]) (by simp [vE,ends]) (by simp [idsOk,lookO,updO,ren1]) ?_
   simp -implicitDefEqProofs only [↓zb,push_cast,simprocAttr,tte]
   refine ⟨zh (by kernel_rfl),?_⟩
   refine zO [[3],[],[]] rfl (by simp) (by simp) ?_ rfl trivial (by simp [ends])
   rfl
 | some k=>
   rw [hF] at hm
   obtain ⟨h1,h2,h3⟩:=uE hF
   obtain ⟨s1,s2⟩:=imp_stop h2
   subst hm
   have hc:=c_eachIs G.full G.l12 (by omega) G.ll a b (N:=k) h1 (fun j hj=>c_imp1 G.l12 a b ha hb (imp_go (h3 j hj))) (c_imp1s G.l12 a b ha hb s1 s2)
   refine yn [(1000,4),(1001,5),(1002,13),(1003,12)] (yj _ _) (hc) (by simp [vE,ends,bs]) (by simp [ends,bs]) (by simp [vE,ends]) (by simp [idsOk,lookO,updO,ren1]) ?_
   simp -implicitDefEqProofs only [↓zb,push_cast,simprocAttr,tte]
   refine ⟨zh (by kernel_rfl),?_⟩
   refine zO [[3],[],[]] rfl (by simp) (by simp) ?_ rfl trivial (by simp [ends])
   rfl
end
section
open Go.Am
attribute [local simp, local push_cast] num boo str ints aV aTab aRow rRow vE
def yU (d:List Row) (e:Ex) (k:Nat):Val:=zN (ptM d k) e
def depAt (d:List Row) (e:Ex) (i n:Nat):Bool:= !yw (yU d e n) (yU d e (n-dig d i n * strd d i))
def jl (d:List Row) (e:Ex) (i n:Nat):Bool:=(List.range n).any (depAt d e i)
def xb (d:List Row) (e:Ex) (i:Nat):List Int:=((List.range i).filter fun j=>jl d e j (zn d)).map fun (j:Nat)=>(j:Int)
def relM (d:List Row) (e:Ex):List Int×Int:=if zI d e≠0 then ([],zI d e) else (xb d e d.length,0)
def jG (d:List Row) (e:Ex):List Val:=(List.range (zn d)).map (yU d e)
theorem vals_get {d:List Row} {e:Ex} {n:Nat} (h:n<zn d):(jG d e).getD n default=yU d e n:=by
 simp [jG,List.getD_eq_getElem?_getD,h]
def R1s (d:List Row) (e:Ex) (i:Nat):SL:=
 ⟨[(29,.d (.lit (.int .i64 i))),(28,.d (.lit (.int .i64 d.length))),(27,aTab d),(8,.d (.lit (.int .i64 (zn (d.drop i):Nat)))),(9,.vec 501 (xb d e i).length),(7,.ptr 7 0)],
  [(7,.var [.d (.sl 3 (zg rV (jG d e)))]),(501,.vec 3 1 (zg rI (xb d e i)) 0)]⟩
def R2s (d:List Row) (e:Ex) (i n:Nat):SL:=
 ⟨[(40,.d (.lit (.int .i64 n))),(39,.d (.lit (.int .i64 (zn d:Nat)))),(38,.d (.sl 3 (zg rV (jG d e)))),(12,boo (jl d e i n)),(11,aRow (d.getD i default)),(10,.d (.lit (.int .i64 i))),(8,.d (.lit (.int .i64 (strd d i:Nat)))),
   (29,.d (.lit (.int .i64 i))),(28,.d (.lit (.int .i64 d.length))),(27,aTab d),(9,.vec 501 (xb d e i).length),(7,.ptr 7 0)],
  [(7,.var [.d (.sl 3 (zg rV (jG d e)))]),(501,.vec 3 1 (zg rI (xb d e i)) 0)]⟩
theorem c_prelevant (d:List Row) (hd:yE d) (e:Ex) (ho:Ok12 e):ACall Tryz.prog 22 [aTab d,aE e] [] (.tup [ints (relM d e).1,num (relM d e).2]) []:=by
 have hV:=uw d hd e ho
 generalize hm:relM d e=r
 unfold relM at hm
 rw [zl] at hV ⊢
 refine zm mixed ttok Tryz.func22 Tryz.ntmps22 Tryz.results22 ?_
 simp -implicitDefEqProofs only [argT,aTab,↓zb,push_cast,simprocAttr,tte]
 refine zd [[1],[0,0,0,0,0,6]] [] (hV) ?_
 simp -implicitDefEqProofs only [↓zb,push_cast,simprocAttr,tte]
 refine za (fun h1=>?_) fun h1=>?_
 ·have hv:zI d e≠0:=by simpa using h1
  rw [if_pos hv] at hm
  subst hm
  refine zO [[1],[]] rfl (by simp) (by simp) ?_ rfl trivial (by simp [ends])
  rfl
 have hv:zI d e=0:=by simpa using h1
 rw [if_neg (by omega)] at hm
 subst hm
 have G:=w7 hv
 have hf:=G.full
 have hpp:=yX hf
 have hpr:=G.pr
 have hl12:=G.l12
 have hc:=c_eachR hf G.l12 (by omega) G.ll e (yU d e) (N:=zn d-1) (by omega) (fun k hk=>c_rel1 G.l12 e ho (yU d e) (by omega) rfl)
 refine yn [(1000,7),(1001,3),(1003,500)] (yj _ _) (hc) (by simp [vE,ends,bs]) (by simp [ends,bs]) (by simp [vE,ends]) (by simp [idsOk,lookO,updO,ren1]) ?_
 have hvl:(jG d e).length=zn d:=by rw [jG,List.length_map,List.length_range]
 rw [show (List.range (zn d)).map (yU d e)=jG d e from rfl]
 simp -implicitDefEqProofs only [↓zb,push_cast,simprocAttr,tte]
 refine ⟨hvl.symm,?_⟩
 refine z8 mixed ttok (fun i:Nat=>R1s d e i) (fun i=>d.length-i) (fun i=>i<=d.length) 0 (Nat.zero_le _) ?_ ?_
 ·refine (Weak.nilL 9 501 3 1 rfl rfl).trans ?_
  exact (Weak.frzCellL 7 0 3 rfl rfl rfl (by simp [zc,hvl]) rfl).trans (Weak.keepL (by simp [R1s,xb,ends]) (by simp [R1s,xb,zg,ends]) (by simp [R1s,ends]))
 intro I hI i hi
 simp -implicitDefEqProofs only [R1s,rRow,↓zb,push_cast,simprocAttr,tte]
 refine za (fun h=>?_) fun h=>?_
 ·have h':i<d.length:=by simpa using h
  have hfl:=hf.at h'
  have hS:=vt hf i
  have hpd:=x8 h'
  have hSp:strd d i<=zn d:=Nat.le_of_dvd hpp (by have:=xf (d:=d) (Nat.zero_le (i+1));simpa [strd] using this)
  have hdv:IntKind.i64.wrap (((zn (d.drop i):Nat):Int).tdiv ((d.getD i default).length:Nat))=((strd d i:Nat):Int):=by
   rw [hpd,<-Int.ofNat_tdiv,Nat.mul_div_cancel_left _ hfl,z7 (by omega) (by omega)]
  simp only [hdv,hvl]
  have hrs:xb d e (i+1)=if jl d e i (zn d)=true then xb d e i++[(i:Int)] else xb d e i:=by
   unfold xb
   rw [List.range_succ,List.filter_append,List.map_append]
   split<;>rename_i hq
   ·rw [List.filter_cons_of_pos (by simpa using hq)];simp
   ·rw [List.filter_cons_of_neg (by simpa using hq)];simp
  have hrl:(xb d e i).length<=i:=by
   unfold xb
   rw [List.length_map]
   exact Nat.le_trans (List.length_filter_le _ _) (by rw [List.length_range];exact Nat.le_refl _)
  refine ⟨⟨by omega,by omega⟩,by omega,?_⟩
  refine z8 mixed ttok (fun n:Nat=>R2s d e i n) (fun n=>zn d-n) (fun n=>n<=zn d) 0 (Nat.zero_le _) ?_ ?_
  ·exact Weak.keepL (by simp [R2s,jl,ends]) (by simp [R2s,ends]) (by simp [R2s,ends])
  intro J hJ n hn
  simp -implicitDefEqProofs only [R2s,↓zb,push_cast,simprocAttr,tte]
  refine za (fun h2=>?_) fun h2=>?_
  ·have hn':n<zn d:=by simpa using h2
   have hdl:=ue hf h' n
   have hle:dig d i n * strd d i<=n:=Nat.le_trans (Nat.mul_le_mul_right _ (Nat.mod_le _ _)) (Nat.div_mul_le_self _ _)
   have hnS:n / strd d i<=n:=Nat.div_le_self _ _
   obtain ⟨z,hz⟩: ∃z,n / strd d i=z:=⟨_,rfl⟩
   have q1:IntKind.i64.wrap ((n:Int).tdiv ((strd d i:Nat):Int))=(z:Int):=by rw [<-Int.ofNat_tdiv,hz,z7 (by omega) (by omega)]
   have q2:(z:Int).tmod (((d.getD i default).length:Nat):Int)=((dig d i n:Nat):Int):=by rw [<-Int.ofNat_tmod,<-hz];rfl
   obtain ⟨g,hg⟩: ∃g,dig d i n * strd d i=g:=⟨_,rfl⟩
   have q3:IntKind.i64.wrap (((dig d i n:Nat):Int) * ((strd d i:Nat):Int))=(g:Int):=by rw [<-Int.natCast_mul,hg,z7 (by omega) (by omega)]
   have q4:IntKind.i64.wrap ((n:Int)-(g:Int))=((n-g:Nat):Int):=by rw [z7 (by omega) (by omega)];omega
   have v1:(jG d e).getD n default=yU d e n:=vals_get hn'
   have v2:(jG d e).getD (n-g) default=yU d e (n-g):=vals_get (by omega)
   have hds:jl d e i (n+1)=(jl d e i n || !yw (yU d e n) (yU d e (n-g))):=by
    unfold jl
    rw [List.range_succ,List.any_append,List.any_cons,List.any_nil,Bool.or_false]
    unfold depAt
    rw [hg]
   have hw:=zw hn' (by omega)
   simp only [q1,q2,q3,q4,Int.toNat_natCast,v1,v2]
   refine ⟨⟨by omega,by omega⟩,by omega,by omega,?_⟩
   refine za (fun h3=>?_) fun h3=>?_
   ·rw [h3,Bool.true_or] at hds
    refine ⟨zh (by kernel_rfl),?_⟩
    exact zp hJ (n+1) hn' (by show zn d-(n+1)<zn d-n;omega) (Weak.keepL (by simp [R2s,hw,hds,ends]) (by simp [R2s,ends]) (by simp [R2s,ends]))
   rw [h3,Bool.false_or] at hds
   refine ⟨⟨by omega,by omega⟩,?_⟩
   refine zd [[0,0,0],[0,0,0]] [] (c_same (yU d e n) (yU d e (n-g))) ?_
   simp -implicitDefEqProofs only [↓zb,push_cast,simprocAttr,tte]
   refine ⟨zh (by kernel_rfl),?_⟩
   exact zp hJ (n+1) hn' (by show zn d-(n+1)<zn d-n;omega) (Weak.keepL (by simp [R2s,hw,hds,ends]) (by simp [R2s,ends]) (by simp [R2s,ends]))
  have hnn:n=zn d:=by have:=of_decide_eq_false h2;omega
  subst hnn
  have hw:=zw h' (by omega)
  refine za (fun h3=>?_) fun h3=>?_
  ·rw [h3,if_pos rfl] at hrs
   refine ⟨by omega,?_⟩
   refine zp hI (i+1) h' (by show d.length-(i+1)<d.length-i;omega) (Weak.keepL (by simp [R1s,hw,hrs,strd,ends]) (by simp [R1s,hrs,zy,rI,ends]) (by simp [R1s,ends]))
  ·rw [h3,if_neg (by decide)] at hrs
   refine zp hI (i+1) h' (by show d.length-(i+1)<d.length-i;omega) (Weak.keepL (by simp [R1s,hw,hrs,strd,ends]) (by simp [R1s,hrs,ends]) (by simp [R1s,ends]))
 have hnn:i=d.length:=by have:=of_decide_eq_false h;omega
 subst hnn
 refine zO [[1],[]] rfl (by simp) (by simp [zc]) ?_ rfl trivial (by simp [ends])
 rfl
end
section
open Go.Am Go.Sort Go.Proofs Go.Shelf Go.RowKit
attribute [local simp, local push_cast] num boo str ints aV aTab aRow rRow vE
def vd (v w:Val):Bool:=yw v w || ((v.kind !=w.kind&&v.kind !=0)&&w.kind !=0)
def okGo:Row->Row->Bool
 | _,[]=>true
 | pre,v::r=>(zC v&&pre.all fun w=> !vd v w)&&okGo (pre++[v]) r
def okR (l:Row):Bool:=(l.length !=0)&&okGo [] l
def domR (d:List Row):Bool:=decide (d.length<=12)&&d.all okR
theorem okGo_iff: ∀(r pre:Row),okGo pre r=true ↔ (∀v∈r,zC v=true∧ ∀w∈pre,vd v w=false)∧r.Pairwise (fun w v=>vd v w=false)
 | [],pre=>by simp [okGo]
 | v::r,pre=>by
   rw [okGo,Bool.and_eq_true,Bool.and_eq_true,okGo_iff r (pre++[v]),List.all_eq_true,List.pairwise_cons]
   simp only [Bool.not_eq_true',List.mem_append,List.mem_singleton,List.mem_cons,forall_eq_or_imp]
   constructor
   ·rintro ⟨⟨h1,h2⟩,h3,h4⟩
    exact ⟨⟨⟨h1,h2⟩,fun u hu=>⟨(h3 u hu).1,fun w hw=>(h3 u hu).2 w (.inl hw)⟩⟩,fun u hu=>(h3 u hu).2 v (.inr (by simp)),h4⟩
   ·rintro ⟨⟨⟨h1,h2⟩,h3⟩,h4,h5⟩
    refine ⟨⟨h1,h2⟩,fun u hu=>⟨(h3 u hu).1,fun w hw=>?_⟩,h5⟩
    rcases hw with hw | hw
    ·exact (h3 u hu).2 w hw
    ·have e:w=v:=by simpa using hw
     rw [e];exact h4 u hu
theorem kg1 {k:Int} (hk:k≠0): ∀l:Row,xi k l=if (l.all fun v=>zC v&&(v.kind==0 || v.kind==k))=true then some k else none
 | []=>rfl
 | v::l=>by
   rw [xi,kg1 hk l,List.all_cons]
   by_cases h1:zC v=false
   ·rw [if_pos h1,h1,Bool.false_and,Bool.false_and,if_neg (by decide)]
   ·rw [if_neg h1]
    have h1':zC v=true:=by simpa using h1
    rw [h1',Bool.true_and]
    by_cases h2:v.kind=0
    ·rw [if_pos h2,h2,beq_self_eq_true,Bool.true_or,Bool.true_and]
    ·rw [if_neg h2,if_neg hk]
     by_cases h3:v.kind≠k
     ·rw [if_pos h3,beq_false_of_ne h2,beq_false_of_ne h3,Bool.or_self,Bool.false_and,if_neg (by decide)]
     ·rw [if_neg h3]
      have h3':v.kind=k:=by simpa using h3
      rw [h3',beq_self_eq_true,Bool.or_true,Bool.true_and]
def alike (w v:Val):Prop:=v.kind=w.kind\/v.kind=0\/w.kind=0
theorem kg0: ∀l:Row,(xi 0 l).isSome=true ↔ (∀v∈l,zC v=true)∧l.Pairwise alike
 | []=>by simp [xi]
 | v::l=>by
   rw [xi,List.pairwise_cons]
   simp only [List.mem_cons,forall_eq_or_imp]
   by_cases h1:zC v=false
   ·rw [if_pos h1]
    simp [h1]
   ·rw [if_neg h1]
    have h1':zC v=true:=by simpa using h1
    by_cases h2:v.kind=0
    ·rw [if_pos h2,kg0 l]
     constructor
     ·rintro ⟨a,b⟩;exact ⟨⟨h1',a⟩,fun u _=> .inr (.inr h2),b⟩
     ·rintro ⟨⟨_,a⟩,_,b⟩;exact ⟨a,b⟩
    ·rw [if_neg h2]
     simp only [if_true]
     rw [kg1 h2]
     constructor
     ·intro h
      split at h
      ·rename_i ha
       have ha': ∀u∈l,zC u=true/\(u.kind=0\/u.kind=v.kind):=fun u hu=>by
        have:=List.all_eq_true.1 ha u hu
        simpa using this
       refine ⟨⟨h1',fun u hu=>(ha' u hu).1⟩,fun u hu=>?_,?_⟩
       ·rcases (ha' u hu).2 with q | q
        ·exact .inr (.inl q)
        ·exact .inl q
       ·refine List.Pairwise.imp_of_mem (R:=fun _ _=>True) ?_ (List.pairwise_of_forall fun _ _=>trivial)
        intro a b ha hb _
        rcases (ha' a ha).2 with q | q
        ·exact .inr (.inr q)
        ·rcases (ha' b hb).2 with q2 | q2
         ·exact .inr (.inl q2)
         ·exact .inl (q2.trans q.symm)
      ·cases h
     ·rintro ⟨⟨_,a⟩,b,_⟩
      rw [if_pos]
      ·rfl
      ·refine List.all_eq_true.2 fun u hu=>?_
       have:=b u hu
       unfold alike at this
       rw [a u hu,Bool.true_and,Bool.or_eq_true,beq_iff_eq,beq_iff_eq]
       rcases this with q | q | q
       ·exact .inr q
       ·exact .inl q
       ·exact absurd q h2
theorem dup_nodup: ∀(s:Row),s.Pairwise (fun a b=>cmpM a b≤0)→(dupS s=false ↔ s.Nodup)
 | [],_=>by simp [dupS]
 | [a],_=>by simp [dupS]
 | a::b::t,h=>by
   have ih:=dup_nodup (b::t) (List.pairwise_cons.1 h).2
   rw [dupS,Bool.or_eq_false_iff,ih,List.nodup_cons (a:=a)]
   constructor
   ·rintro ⟨h1,h2⟩
    refine ⟨fun hm=>?_,h2⟩
    have hab:cmpM a b<=0:=(List.pairwise_cons.1 h).1 b (by simp)
    have hne:cmpM a b≠0:=fun e=>by
     have:=vo a b
     rw [e] at this
     rw [h1] at this
     cases this
    have hlt:cmpM a b<0:=by omega
    rcases List.mem_cons.1 hm with rfl | hm
    ·exact wQ a hlt
    ·have hba:=(List.pairwise_cons.1 (List.pairwise_cons.1 h).2).1 a hm
     rw [cmpM_le] at hba
     exact hba hlt
   ·rintro ⟨h1,h2⟩
    refine ⟨?_,h2⟩
    cases hs:yw a b with
    | false=>rfl
    | true=>
      exfalso
      have:=vo a b
      rw [hs] at this
      have e:=(vP a b).1 (by simpa using this)
      exact h1 (by rw [e];simp)
theorem sortV_sorted (l:Row):(sortV l).Pairwise (fun a b=>cmpM a b≤0):=by
 have h:=List.pairwise_mergeSort (le:=fun x y=> !(ltOf cmpM y x)) (fun a b c h1 h2=>?_) (fun a b=>?_) l
 ·refine h.imp fun {a b} hab=>?_
  rw [cmpM_le]
  simpa [ltOf] using hab
 ·simp only [ltOf,Bool.not_eq_true',decide_eq_false_iff_not] at *
  intro h3
  by_cases h4:cmpM c b<0
  ·exact h2 h4
  ·by_cases h5:cmpM b a<0
   ·exact h1 h5
   ·have:cmpM a b≤0:=(cmpM_le a b).2 h5
    have:cmpM b c<=0:=(cmpM_le b c).2 h4
    rcases Int.lt_or_eq_of_le ‹cmpM a b<=0› with q | q
    ·exact h4 (vF h3 q)
    ·have:=(vP a b).1 q
     subst this
     exact h4 h3
 ·simp only [ltOf,Bool.or_eq_true,Bool.not_eq_true',decide_eq_false_iff_not]
  by_cases h1:cmpM b a<0
  ·right
   intro h2
   exact wQ a (vF h2 h1)
  ·exact .inl h1
theorem kind_ok (l:Row):(yB l).2=okR l:=by
 rw [Bool.eq_iff_iff]
 unfold okR yB
 by_cases h0:l.length=0
 ·rw [if_pos h0,h0];simp
 rw [if_neg h0]
 have hne:(l.length !=0)=true:=by simpa using h0
 rw [hne,Bool.true_and,okGo_iff]
 have hK:=kg0 l
 have hD:=dup_nodup _ (sortV_sorted l)
 have hP:(sortV l).Nodup ↔ l.Nodup:=List.Perm.nodup_iff (List.mergeSort_perm _ _)
 rw [hP] at hD
 have hC:l.Pairwise (fun w v=>vd v w=false) ↔ l.Nodup∧l.Pairwise alike:=by
  constructor
  ·intro h
   refine ⟨h.imp fun {w v} hc e=>?_,h.imp fun {w v} hc=>?_⟩
   ·subst e
    unfold vd at hc
    rw [Bool.or_eq_false_iff] at hc
    simp [yw] at hc
   ·unfold vd at hc
    rw [Bool.or_eq_false_iff] at hc
    have:=hc.2
    unfold alike
    by_cases a:v.kind=w.kind
    ·exact .inl a
    ·by_cases b:v.kind=0
     ·exact .inr (.inl b)
     ·right;right
      simpa [a,b] using this
  ·rintro ⟨h1,h2⟩
   refine List.Pairwise.imp (fun {w v} h=>?_) (List.Pairwise.and h1 h2)
   obtain ⟨g1,g2⟩:=h
   unfold vd
   rw [Bool.or_eq_false_iff]
   constructor
   ·cases hs:yw v w with
    | false=>rfl
    | true=>
      exfalso
      have:=vo v w
      rw [hs] at this
      exact g1 ((vP v w).1 (by simpa using this)).symm
   ·rcases g2 with q | q | q
    ·simp [q]
    ·simp [q]
    ·simp [q]
 rw [hC]
 cases hg:xi 0 l with
 | none=>
   rw [hg] at hK
   simp only [Option.isSome_none,Bool.false_eq_true,false_iff] at hK
   constructor
   ·intro h;cases h
   ·rintro ⟨a,b,c⟩
    exact absurd ⟨fun v hv=>(a v hv).1,c⟩ hK
 | some o=>
   rw [hg] at hK
   simp only [Option.isSome_some,true_iff] at hK
   dsimp only
   cases hd:dupS (sortV l) with
   | true=>
     rw [if_pos rfl]
     constructor
     ·intro h;cases h
     ·rintro ⟨a,b,c⟩
      have:=hD.2 b
      rw [hd] at this
      cases this
   | false=>
     rw [if_neg (by decide)]
     constructor
     ·intro _
      exact ⟨fun v hv=>⟨hK.1 v hv,fun w hw=>by cases hw⟩,hD.1 hd,hK.2⟩
     ·intro _;rfl
theorem domR_eq (d:List Row):domR d=wO d:=by
 unfold domR wO
 rw [show okR=fun l=>(yB l).2 from funext fun l=>(kind_ok l).symm]
def typR (l:Row):Int:=l.foldl (fun t v=>if v.kind=0 then t else v.kind) 1
theorem typ_go: ∀(l:Row) (out o:Int),xi out l=some o→l.foldl (fun t v=>if v.kind=0 then t else v.kind) (if out=0 then 1 else out)=if o=0 then 1 else o
 | [],out,o,h=>by rw [xi] at h;cases h;rfl
 | v::l,out,o,h=>by
   rw [xi] at h
   split at h
   ·cases h
   ·split at h
    ·rename_i h2
     rw [List.foldl_cons,if_pos h2]
     exact typ_go l out o h
    ·rename_i h2
     split at h
     ·rename_i h3
      have:=typ_go l v.kind o h
      rw [if_neg h2] at this
      rw [List.foldl_cons,if_neg h2]
      exact this
     ·rename_i h3
      split at h
      ·cases h
      ·rename_i h4
       have h4':v.kind=out:=by simpa using h4
       rw [List.foldl_cons,if_neg h2,h4']
       have:=typ_go l out o h
       rw [if_neg h3] at this
       exact this
theorem kw {l:Row} (h:(yB l).2=true):typR l=(yB l).1:=by
 unfold yB at h ⊢
 by_cases h0:l.length=0
 ·rw [if_pos h0] at h;cases h
 rw [if_neg h0] at h ⊢
 cases hg:xi 0 l with
 | none=>rw [hg] at h;cases h
 | some o=>
   rw [hg] at h
   dsimp only at h ⊢
   have:=typ_go l 0 o hg
   rw [if_pos rfl] at this
   split at h
   ·cases h
   ·rename_i hd
    rw [if_neg hd]
    exact this
end
end Go.Proofs.YtiagabnddihchaaGreatDoor
