/- Conditions over finite domains (part Wt) -/
import Derived.Test.YtiagabnddihchaaGreatDoorWp
set_option maxRecDepth 100000
set_option maxHeartbeats 4000000
set_option linter.all false
namespace Go.Proofs.YtiagabnddihchaaGreatDoor
section
open Go.Am
attribute [local simp, local push_cast] num boo str ints aV aTab aRow rRow vE zU
def l70 (n:Nat):Row:=(List.range n).map fun (i:Nat)=>iV i
def bentM (xs:List Int) (p:Nat) (d:List Row):List Row:=
 if d=[] then [[]] else
  let k:=(drawn xs p d.length).toNat
  let c:=drawn xs (p+1) 5
  if c=0 then d.set k [] else if c=1 then d.set k (d.getD k default++[(d.getD k default).getD 0 default])
  else if c=2 then d.set k (d.getD k default++[⟨drawn xs (p+1+1) 5,drawn xs (p+1+1+1) 3,ByteArray.empty⟩])
  else if c=3 then d++List.replicate (13-d.length) ((d.getD k default).take 1) else d++[l70 70,l70 70]
def bentP (xs:List Int) (p:Nat) (d:List Row):Nat:=if d=[] then p else if drawn xs (p+1) 5=2 then p+1+1+1+1 else p+1+1
theorem rowR_set {l:List Row} {n:Nat} {v:Row} (h:n<l.length):(zg rRow l).set n (D.sl 3 (zg rV v)::List.drop 1 ((zg rRow l).getD n []))=zg rRow (l.set n v):=by
 have e:List.drop 1 ((zg rRow l).getD n [])=[]:=by simp [zg,List.getD_eq_getElem?_getD,h,rRow]
 rw [e]
 simp [zg,rRow,List.map_set]
def BEs (xs:List Int) (p:Nat) (d:List Row) (k:Nat) (w:Row) (n:Nat):SL:=
 ⟨[(5,.vec 9 (d.length+n)),(6,num k),(0,.ptr 1000 0)],[(9,.vec 32 1 (zg rRow (d++List.replicate n w)) 0),(1000,zU xs p)]⟩
def BLs (xs:List Int) (p:Nat) (d:List Row) (n:Nat):SL:=
 ⟨[(8,.d (.lit (.int .i64 n))),(7,.vec 500 n),(5,.vec 9 d.length),(0,.ptr 1000 0)],[(500,.vec 53 3 (zg rV (l70 n)) 0),(9,.vec 32 1 (zg rRow d) 0),(1000,zU xs p)]⟩
theorem c_bent {xs:List Int} {p:Nat} (hx:ve xs) (d:List Row) (hD:DomOk d):ACall Tryz.prog 34 [.ptr 1000 0,aTab d] [(1000,zU xs p)] (aTab (bentM xs p d)) [(1000,zU xs (bentP xs p d))]:=by
 refine zm mixed ttok Tryz.func34 Tryz.ntmps34 Tryz.results34 ?_
 generalize hr:aTab (bentM xs p d)=R
 generalize hq:bentP xs p d=q
 have hl4:=hD.len
 simp -implicitDefEqProofs only [argT,aTab,↓zb,push_cast,simprocAttr,tte]
 refine ⟨by omega,?_⟩
 refine za (fun h0=>?_) fun h0=>?_
 ·have e0:d=[]:=List.length_eq_zero_iff.1 (by simpa using h0)
  subst e0
  rw [bentM,if_pos rfl] at hr
  rw [bentP,if_pos rfl] at hq
  subst hq
  subst hr
  refine zf [1] rfl trivial (by first | trivial | simp [zc]) ?_ (by simp [ends]) (by simp [ends]) (by simp [ends])
  rfl
 have e0: ¬d=[]:=fun e=>by rw [e] at h0;cases h0
 have hlp:0<d.length:=List.length_pos_iff.2 e0
 rw [bentM,if_neg e0] at hr
 rw [bentP,if_neg e0] at hq
 have hdr:=zB xs p (n:=(d.length:Nat)) (by omega)
 refine zd [[],[]] [(1000,1000)] (c_N (n:=(d.length:Nat)) (p:=p) hx (by omega) (by omega)) ?_
 obtain ⟨k,hk⟩: ∃k:Nat,drawn xs p (d.length:Nat)=k:=⟨(drawn xs p (d.length:Nat)).toNat,by omega⟩
 rw [hk] at hdr hr ⊢
 rw [Int.toNat_natCast] at hr
 have hkl:k<d.length:=by omega
 have hkr:=(hD.rows _ (zx hkl)).ne
 have hkg:=hD.good.ll _ (zx hkl)
 simp -implicitDefEqProofs only [↓zb,push_cast,simprocAttr,tte]
 refine zd [[],[]] [(1000,1000)] (c_N (n:=5) (p:=p+1) hx (by omega) (by omega)) ?_
 have h5:=zB xs (p+1) (n:=5) (by omega)
 generalize drawn xs (p+1) 5=c at h5 hr hq ⊢
 simp -implicitDefEqProofs only [↓zb,push_cast,simprocAttr,tte]
 refine za (fun c0=>?_) fun c0=>?_
 ·have c0':c=0:=by simpa using c0
  rw [if_pos c0'] at hr
  rw [if_neg (by omega)] at hq
  subst hq
  have hs:=rowR_set (v:=[]) hkl
  rw [zv] at hs
  simp only [hs]
  refine ⟨⟨by omega,by omega⟩,⟨by omega,by omega⟩,?_⟩
  subst hr
  refine zf [1] rfl trivial (by first | trivial | simp [zc]) ?_ (by simp [ends]) (by simp [ends]) (by simp [ends])
  rfl
 have c0': ¬c=0:=by simpa using c0
 rw [if_neg c0'] at hr
 refine za (fun c1=>?_) fun c1=>?_
 ·have c1':c=1:=by simpa using c1
  rw [if_pos c1'] at hr
  rw [if_neg (by omega)] at hq
  subst hq
  have hs:=rowR_set (v:=d.getD k default++[(d.getD k default).getD 0 default]) hkl
  simp only [hs]
  refine ⟨⟨by omega,by omega⟩,by omega,by omega,⟨by omega,by omega⟩,by omega,by omega,by omega,⟨by omega,by omega⟩,⟨by simp,by omega,by omega⟩,zh (by kernel_rfl),?_⟩
  subst hr
  refine zf [1] rfl trivial (by first | trivial | simp [zc]) ?_ (by simp [ends]) (by simp [ends]) (by simp [ends])
  rfl
 have c1': ¬c=1:=by simpa using c1
 rw [if_neg c1'] at hr
 refine za (fun c2=>?_) fun c2=>?_
 ·have c2':c=2:=by simpa using c2
  rw [if_pos c2'] at hr
  rw [if_pos c2'] at hq
  subst hq
  refine ⟨⟨by omega,by omega⟩,by omega,by omega,?_⟩
  refine zd [[],[],[]] [(1000,1000)] (kR (lo:=0) (hi:=4) (p:=p+1+1) hx (by omega) (by omega) (by omega)) ?_
  rw [show (4:Int)-0+1=5 from rfl,Int.zero_add]
  simp -implicitDefEqProofs only [↓zb,push_cast,simprocAttr,tte]
  refine zd [[],[]] [(1000,1000)] (c_N (n:=3) (p:=p+1+1+1) hx (by omega) (by omega)) ?_
  generalize drawn xs (p+1+1) 5=u1 at hr ⊢
  generalize drawn xs (p+1+1+1) 3=u2 at hr ⊢
  have hs:=rowR_set (v:=d.getD k default++[⟨u1,u2,ByteArray.empty⟩]) hkl
  simp -implicitDefEqProofs only [hs,↓zb,push_cast,simprocAttr,tte]
  refine ⟨by omega,⟨by omega,by omega⟩,⟨by simp,by omega,by omega⟩,?_⟩
  subst hr
  refine zf [1] rfl trivial (by first | trivial | simp [zc]) ?_ (by simp [ends]) (by simp [ends]) (by simp [ends])
  rfl
 have c2': ¬c=2:=by simpa using c2
 rw [if_neg c2'] at hr
 rw [if_neg c2'] at hq
 subst hq
 refine za (fun c3=>?_) fun c3=>?_
 ·have c3':c=3:=by simpa using c3
  rw [if_pos c3'] at hr
  obtain ⟨w,hw0⟩: ∃w:Row,(d.getD k default).take 1=w:=⟨_,rfl⟩
  rw [hw0] at hr
  refine z8 mixed ttok (fun n:Nat=>BEs xs (p+1+1) d k w n) (fun n=>13-(d.length+n)) (fun n=>d.length+n<=13) 0 (by omega) ?_ ?_
  ·exact Weak.keepL (by simp [BEs,ends]) (by simp [BEs,ends]) (by simp [BEs,ends])
  intro I hI n hn
  simp -implicitDefEqProofs only [BEs,zU,↓zb,push_cast,simprocAttr,tte]
  have hal:(d++List.replicate n w).length=d.length+n:=by simp
  have hgk:(d++List.replicate n w).getD k default=d.getD k default:=by
   rw [List.getD_eq_getElem?_getD,List.getD_eq_getElem?_getD,List.getElem?_append_left hkl]
  refine ⟨hal.symm,?_⟩
  refine za (fun g=>?_) fun g=>?_
  ·have g':d.length+n≤12:=by simp only [decide_eq_true_eq] at g;omega
   have hap:zg rRow (d++List.replicate n w)++[[D.sl 3 (zg rV w)]]=zg rRow (d++List.replicate (n+1) w):=by
    rw [List.replicate_succ',<-List.append_assoc]
    show zg rRow (d++List.replicate n w)++zg rRow [w]=_
    rw [zy]
   rw [hgk,hw0,hap,hal]
   refine ⟨⟨⟨by omega,by omega⟩,rfl⟩,by omega,rfl,by omega,⟨rfl,by omega⟩,?_⟩
   exact zp hI (n+1) (by omega) (by show 13-(d.length+(n+1))<13-(d.length+n);omega) (Weak.keepL (by simp [BEs,Nat.add_assoc,ends]) (by simp [BEs,ends]) (by simp [BEs,ends]))
  ·have g':n=13-d.length:=by simp only [decide_eq_false_iff_not] at g;omega
   subst g'
   subst hr
   refine zf [1] rfl trivial (by first | trivial | simp [zc]) ?_ (by simp [ends]) (by simp [ends]) (by simp [ends])
   rfl
 have c3': ¬c=3:=by simpa using c3
 rw [if_neg c3'] at hr
 refine z8 mixed ttok (fun n:Nat=>BLs xs (p+1+1) d n) (fun n=>70-n) (fun n=>n<=70) 0 (by omega) ?_ ?_
 ·exact (Weak.nilL 7 500 53 3 rfl rfl).trans (Weak.keepL (by simp [BLs,l70,ends]) (by simp [BLs,l70,zg,ends]) (by simp [BLs,ends]))
 intro I hI n hn
 simp -implicitDefEqProofs only [BLs,zU,↓zb,push_cast,simprocAttr,tte]
 have hll:(l70 n).length=n:=by simp [l70]
 refine za (fun g=>?_) fun g=>?_
 ·have g':n<70:=by simp only [decide_eq_true_eq] at g;omega
  have hw:IntKind.i64.wrap ((n:Int)+1)=((n+1:Nat):Int):=by rw [z7 (by omega) (by omega)];rfl
  have hl1:l70 (n+1)=l70 n++[iV n]:=by unfold l70;rw [List.range_succ,List.map_append];rfl
  refine zd [[]] [] (uJ n) ?_
  simp -implicitDefEqProofs only [↓zb,push_cast,simprocAttr,tte]
  refine ⟨⟨hll.symm,by omega⟩,?_⟩
  exact zp hI (n+1) g' (by show 70-(n+1)<70-n;omega) (Weak.keepL (by simp [BLs,hw,hll,ends]) (by simp [BLs,hl1,iV,ends]) (by simp [BLs,ends]))
 ·have g':n=70:=by simp only [decide_eq_false_iff_not] at g;omega
  subst g'
  subst hr
  refine ⟨⟨hll.symm,hll.symm⟩,by omega,?_⟩
  refine zf [1] rfl trivial (by first | trivial | simp [zc]) ?_ (by simp [ends]) (by simp [ends]) (by simp [ends])
  show A.d (D.sl 1 _)=A.d (D.sl 1 (zg rRow (d++[l70 70,l70 70])))
  rw [<-zy];rfl
end
section
open Go.Am
attribute [local simp, local push_cast] num boo str ints aV aTab aRow rRow vE zU
theorem small_dom {d:List Row} (h:DomOk d) {k:Nat} {v:Row} (hv:v.length<=6000):yE (d.set k v):=by
 refine ⟨by rw [List.length_set];have:=h.len;omega,fun l hl=>?_⟩
 rcases List.mem_or_eq_of_mem_set hl with hl | rfl
 ·have:=h.good.ll l hl;omega
 ·omega
theorem small_bent (xs:List Int) (p:Nat) {d:List Row} (h:DomOk d):yE (bentM xs p d):=by
 unfold bentM
 split
 ·exact ⟨by simp,fun l hl=>by rw [List.mem_singleton] at hl;subst hl;simp⟩
 rename_i hne
 have hlp:0<d.length:=List.length_pos_iff.2 hne
 have hdr:=zB xs p (n:=(d.length:Nat)) (by omega)
 have hk:(drawn xs p d.length).toNat<d.length:=by omega
 dsimp only
 generalize (drawn xs p d.length).toNat=k at hk ⊢
 have hg:=h.good.ll _ (zx hk)
 have hl4:=h.len
 split
 ·exact small_dom h (by simp)
 split
 ·exact small_dom h (by rw [List.length_append];show _+1<=_;omega)
 split
 ·exact small_dom h (by rw [List.length_append];show _+1<=_;omega)
 split
 ·refine ⟨by rw [List.length_append,List.length_replicate];omega,fun l hl=>?_⟩
  rcases List.mem_append.1 hl with hl | hl
  ·have:=h.good.ll l hl;omega
  ·rw [List.eq_of_mem_replicate hl,List.length_take];omega
 ·refine ⟨by rw [List.length_append];simp;omega,fun l hl=>?_⟩
  rcases List.mem_append.1 hl with hl | hl
  ·have:=h.good.ll l hl;omega
  ·simp only [List.mem_cons,List.not_mem_nil,or_false] at hl
   rcases hl with rfl | rfl<;>simp [l70]
def pick221:List Int:=[2,2,1]
theorem pick221_kn (xs:List Int) (p:Nat):Kn (pick221.getD (drawn xs p pick221.length).toNat default):=by
 have h4:=zB xs p (n:=(pick221.length:Nat)) (by decide)
 have l4:pick221.length=3:=rfl
 have:=zx (l:=pick221) (n:=(drawn xs p pick221.length).toNat) (by omega)
 generalize pick221.getD (drawn xs p pick221.length).toNat default=x at this ⊢
 simp only [pick221,List.mem_cons,List.not_mem_nil,or_false] at this
 unfold Kn
 omega
def AOs (x y a b:Ex) (row:Row) (L:List (List Row)) (n:Nat):SL:=
 ⟨[(79,.d (.lit (.int .i64 n))),(78,.d (.lit (.int .i64 3))),(77,.vec 77 3),(7,.ptr 7 0),(8,.ptr 8 0),(14,.ptr 14 0),(15,.ptr 15 0),(4,aRow row)],
  [(7,.var (vE x)),(8,.var (vE y)),(14,.var (vE a)),(15,.var (vE b)),(77,.vec 25 1 (zg rTab L) 0)]⟩
theorem solve_len (d:List Row) (e:Ex):(xq d e).1.length<=1000000:=by
 by_cases hv:zI d e=0
 ·have G:=w7 hv
  have:=G.l12
  rw [xq,if_neg (by omega)]
  cases wn (yp d e) (zn d) with
  | none=>show (0:Nat)<=_;omega
  | some k=>show (ptM d k).length<=_;rw [yk];omega
 ·rw [xq,if_pos hv];show (0:Nat)<=_;omega
theorem imp_len (d:List Row) (a b:Ex):(impM d a b).1.length<=1000000:=by
 by_cases hv:zI d a=0
 ·have G:=w7 hv
  have:=G.l12
  rw [impM,if_neg (by omega)]
  split
  ·show (0:Nat)<=_;omega
  ·cases wn (jb d a b) (zn d) with
   | none=>show (0:Nat)<=_;omega
   | some k=>show (ptM d k).length<=_;rw [yk];omega
 ·rw [impM,if_pos hv];show (0:Nat)<=_;omega
theorem rel_len {d:List Row} (hd:yE d) {e:Ex}:(relM d e).1.length<=1000000:=by
 unfold relM
 split
 ·show (0:Nat)<=_;omega
 ·show (xb d e d.length).length≤_
  rw [xb,List.length_map]
  have:=List.length_filter_le (fun j=>jl d e j (zn d)) (List.range d.length)
  rw [List.length_range] at this
  have:=hd.1
  omega
def AEs (E:List Ex) (row:Row) (n:Nat):SL:=
 ⟨[(222,.d (.lit (.int .i64 n))),(221,.d (.lit (.int .i64 4))),(220,.vec 220 4),(4,aRow row)],[(220,.vec 29 6 (zg rE E) 0)]⟩
def rPP (p:Ex×Ex):List D:=
 [.lit (.int .i64 p.1.op),.lit (.int .i64 p.1.type),.lit (.int .i64 p.1.num),.lit (.string p.1.text),.lit (.int .i64 p.1.col),.sl 6 (zg rE p.1.kids),
  .lit (.int .i64 p.2.op),.lit (.int .i64 p.2.type),.lit (.int .i64 p.2.num),.lit (.string p.2.text),.lit (.int .i64 p.2.col),.sl 6 (zg rE p.2.kids)]
def APs (x y a b:Ex) (row:Row) (L:List (List Row)) (n:Nat) (l:List Row) (P:List (Ex×Ex)) (m:Nat):SL:=
 ⟨[(100,.d (.lit (.int .i64 m))),(99,.d (.lit (.int .i64 3))),(98,.vec 98 3),(17,aTab l),(79,.d (.lit (.int .i64 n))),(78,.d (.lit (.int .i64 3))),(77,.vec 77 3),(7,.ptr 7 0),(8,.ptr 8 0),(14,.ptr 14 0),(15,.ptr 15 0),(4,aRow row)],
  [(7,.var (vE x)),(8,.var (vE y)),(14,.var (vE a)),(15,.var (vE b)),(77,.vec 25 1 (zg rTab L) 0),(98,.vec 67 12 (zg rPP P) 0)]⟩
theorem c_lawA (t:List Int) (ht: ∀x∈t,i64 x) (raw:List Row) (x y:Ex) (row:Row) (hl:raw.length≤1000000000000) (hr: ∀l∈raw,l.length≤1000000000000):
 ACall Tryz.prog 7 [ints t,aTab raw,aE x,aE y,aRow row] [] (boo true) []:=by
 have hN:=c_new t
 have hx:=tape_of ht
 generalize t.take 2000=xs at hx hN
 have hSx:=c_smallE x
 have hSy:=c_smallE y
 rw [zl] at hSx hSy
 rw [zl x,zl y]
 refine zm mixed ttok Tryz.func7 Tryz.ntmps7 Tryz.results7 ?_
 simp -implicitDefEqProofs only [argT,↓zb,push_cast,simprocAttr,tte]
 refine zd [[1]] [] (c_smallD raw hl hr) ?_
 simp -implicitDefEqProofs only [↓zb,push_cast,simprocAttr,tte]
 refine za (fun h1=>?_) fun h1=>?_
 ·refine zd [] [] (kT) ?_
  simp -implicitDefEqProofs only [↓zb,push_cast,simprocAttr,tte]
  exact zk trivial rfl (by simp [ends])
 have h1':smallQ raw=true:=by simpa using h1
 refine zd [[0,0,0,0,0,6]] [] (hSx) ?_
 simp -implicitDefEqProofs only [↓zb,push_cast,simprocAttr,tte]
 refine za (fun h2=>?_) fun h2=>?_
 ·refine zd [] [] (kT) ?_
  simp -implicitDefEqProofs only [↓zb,push_cast,simprocAttr,tte]
  exact zk trivial rfl (by simp [ends])
 have ox:=smallE_ok (e:=x) (by simpa using h2)
 refine zd [[0,0,0,0,0,6]] [] (hSy) ?_
 simp -implicitDefEqProofs only [↓zb,push_cast,simprocAttr,tte]
 refine za (fun h3=>?_) fun h3=>?_
 ·refine zd [] [] (kT) ?_
  simp -implicitDefEqProofs only [↓zb,push_cast,simprocAttr,tte]
  exact zk trivial rfl (by simp [ends])
 have oy:=smallE_ok (e:=y) (by simpa using h3)
 refine za (fun h4=>?_) fun h4=>?_
 ·refine zd [] [] (kT) ?_
  simp -implicitDefEqProofs only [↓zb,push_cast,simprocAttr,tte]
  exact zk trivial rfl (by simp [ends])
 refine zd [[1]] [(1000,400)] (hN) ?_
 simp -implicitDefEqProofs only [↓zb,push_cast,simprocAttr,tte]
 refine zd [[]] [(1000,400)] (c_domains (p:=0) hx) ?_
 have hD:=domF_ok xs 0
 generalize domF xs 0=dp at hD ⊢
 obtain ⟨d,p⟩:=dp
 dsimp only at hD ⊢
 have hsm:=hD.small
 have htl:(zZ d).length<=1000:=by have:=hD.tlen;have:=hD.len;omega
 simp -implicitDefEqProofs only [aTab,↓zb,push_cast,simprocAttr,tte]
 refine zd [[1]] [] (c_types23 d hsm) ?_
 simp -implicitDefEqProofs only [↓zb,push_cast,simprocAttr,tte]
 refine zd [[],[1],[],[]] [(1000,400)] (c_fexprN hx htl 4 4 rfl (by decide) 2 p kn2) ?_
 have hA:=made_expr xs (zZ d) 3 2 kn2 p
 generalize exprF xs (zZ d) 4 2 p=ap at hA ⊢
 obtain ⟨a,p⟩:=ap
 dsimp only at hA ⊢
 simp -implicitDefEqProofs only [↓zb,push_cast,simprocAttr,tte]
 refine zd [[],[1]] [(1000,400)] (vG (p:=p) hx pick221 (by decide) (by decide)) ?_ (hargs:=by simp [ends,bs,pick221,zo,zv,rI])
 have hk:=pick221_kn xs p
 generalize pick221.getD (drawn xs p pick221.length).toNat default=k at hk ⊢
 simp -implicitDefEqProofs only [↓zb,push_cast,simprocAttr,tte]
 refine zd [[],[1],[],[]] [(1000,400)] (c_fexprN hx htl 3 3 rfl (by decide) k (p+1) hk) ?_
 have hB:=made_expr xs (zZ d) 2 k hk (p+1)
 generalize exprF xs (zZ d) 3 k (p+1)=bp at hB ⊢
 obtain ⟨b,p⟩:=bp
 dsimp only at hB ⊢
 simp -implicitDefEqProofs only [↓zb,push_cast,simprocAttr,tte]
 refine zd [[],[1]] [(1000,400)] (c_bent (p:=p) hx d hD) ?_
 have hbs:=small_bent xs p hD
 generalize bentM xs p d=bd at hbs ⊢
 generalize bentP xs p d=q
 have oa:=hA.ok12
 have ob:=hB.ok12
 have hrs:=(small_of h1').1
 simp -implicitDefEqProofs only [↓zb,push_cast,simprocAttr,tte]
 obtain ⟨L,hL⟩: ∃L:List (List Row),L=[raw,d,bd]:=⟨_,rfl⟩
 have hLl:L.length=3:=by rw [hL];rfl
 have hLs: ∀l∈L,yE l:=by
  rw [hL]
  intro l hl
  simp only [List.mem_cons,List.not_mem_nil,or_false] at hl
  rcases hl with rfl | rfl | rfl
  ·exact hrs
  ·exact hsm
  ·exact hbs
 refine z8 mixed ttok (fun n:Nat=>AOs x y a b row L n) (fun n=>3-n) (fun n=>n<=3) 0 (by omega) ?_ ?_
 ·exact Weak.keepL (by simp [AOs,ends]) (by simp [AOs,vE,hL,zo,zv,rTab,ends]) (by simp [AOs,ends])
 intro I hI n hn
 clear hrs hsm hbs hD htl hA hB hN hSx hSy h1' hr hl hL
 simp -implicitDefEqProofs only [AOs,vE,rTab,↓zb,push_cast,simprocAttr,tte]
 refine za (fun g1=>?_) fun g1=>?_
 ·have g1':n<3:=by simp only [decide_eq_true_eq] at g1;omega
  have hw:IntKind.i64.wrap ((n:Int)+1)=((n+1:Nat):Int):=by rw [z7 (by omega) (by omega)];rfl
  have hls:=hLs _ (zx (show n<L.length by omega))
  generalize L.getD n default=l at hls ⊢
  have htl:(zZ l).length<=1000000:=by
   have:=hls.1
   unfold zZ
   split
   ·rw [List.length_map];omega
   ·simp
  have ht2:=c_types2 (zZ l) (zZ l) htl htl
  rw [beq_self_eq_true] at ht2
  refine ⟨⟨⟨by omega,by omega⟩,by omega⟩,by omega,by omega,?_⟩
  refine zd [[1]] [] (c_ptypes l hls) ?_
  simp -implicitDefEqProofs only [↓zb,push_cast,simprocAttr,tte]
  refine zd [[1]] [] (c_types23 l hls) ?_
  simp -implicitDefEqProofs only [↓zb,push_cast,simprocAttr,tte]
  refine zd [[1],[1]] [] (ht2) ?_
  simp -implicitDefEqProofs only [Bool.not_true,↓zb,push_cast,simprocAttr,tte]
  obtain ⟨P,hP⟩: ∃P:List (Ex×Ex),P=[(x,y),(a,b),(b,x)]:=⟨_,rfl⟩
  have hPl:P.length=3:=by rw [hP];rfl
  have hPo: ∀e∈P,Ok12 e.1/\Ok12 e.2:=by
   rw [hP]
   intro e he
   simp only [List.mem_cons,List.not_mem_nil,or_false] at he
   rcases he with rfl | rfl | rfl
   ·exact ⟨ox,oy⟩
   ·exact ⟨oa,ob⟩
   ·exact ⟨ob,ox⟩
  refine z8 mixed ttok (fun m:Nat=>APs x y a b row L n l P m) (fun m=>3-m) (fun m=>m<=3) 0 (by omega) ?_ ?_
  ·exact Weak.keepL (by simp [APs,ends]) (by simp [APs,vE,hP,zo,zv,rPP,ends]) (by simp [APs,ends])
  intro J hJ m hm
  clear hP
  simp -implicitDefEqProofs only [APs,vE,rPP,↓zb,push_cast,simprocAttr,tte]
  refine za (fun g2=>?_) fun g2=>?_
  ·have g2':m<3:=by simp only [decide_eq_true_eq] at g2;omega
   have hwm:IntKind.i64.wrap ((m:Int)+1)=((m+1:Nat):Int):=by rw [z7 (by omega) (by omega)];rfl
   have hpo:=hPo _ (zx (show m<P.length by omega))
   generalize P.getD m default=pr at hpo ⊢
   obtain ⟨e,f⟩:=pr
   dsimp only at hpo ⊢
   obtain ⟨oe,of⟩:=hpo
   refine ⟨⟨⟨by omega,by omega⟩,by omega⟩,by omega,by omega,?_⟩
   have hV1:=uw l hls e oe
   have hV2:=wu l hls e oe
   have hS1:=c_solve l hls e oe
   have hS2:=c_solve23 l hls e oe
   have hR1:=c_prelevant l hls e oe
   have hR2:=c_relevant23 l hls e oe
   have hI1:=c_pimplies l hls e f oe of
   have hI2:=c_implies23 l hls e f oe of
   have hC:=c_counts l hls e oe
   have hs1:=c_same23 (xq l e).1 (xq l e).1 (solve_len l e)
   have hs2:=c_same23 (impM l e f).1 (impM l e f).1 (imp_len l e f)
   have ht3:=c_types2 (relM l e).1 (relM l e).1 (rel_len hls) (rel_len hls)
   rw [beq_self_eq_true] at ht3
   rw [sameR_self] at hs1 hs2
   generalize zI l e=v0 at hV1 hV2
   generalize xq l e=s0 at hS1 hS2 hs1
   generalize relM l e=r0 at hR1 hR2 ht3
   generalize impM l e f=i0 at hI1 hI2 hs2
   rw [zl e] at hV1 hV2 hS1 hS2 hR1 hR2 hC
   rw [zl e,zl f] at hI1 hI2
   refine ⟨zh (by kernel_rfl),?_⟩
   have hPt:=ww l hls
   generalize pts23 l=pt at hPt
   refine zd [[1]] [] (hPt) ?_
   simp -implicitDefEqProofs only [↓zb,push_cast,simprocAttr,tte]
   refine za (fun g3=>?_) fun g3=>?_
   ·refine zd [[1]] [] (hPt) ?_
    simp -implicitDefEqProofs only [↓zb,push_cast,simprocAttr,tte]
    refine za (fun g4=>?_) fun g4=>?_
    ·refine zd [[1],[0,0,0,0,0,6]] [] (hV1) ?_
     simp -implicitDefEqProofs only [↓zb,push_cast,simprocAttr,tte]
     refine zd [[1],[0,0,0,0,0,6]] [] (hV2) ?_
     simp -implicitDefEqProofs only [bne_self_eq_false,↓zb,push_cast,simprocAttr,tte]
     refine ⟨zh (by kernel_rfl),?_⟩
     exact zp hJ (m+1) g2' (by show 3-(m+1)<3-m;omega) (Weak.keepL (by simp [APs,hwm,ends]) (by simp [APs,vE,rTab,rPP,ends]) (by simp [APs,ends]))
    ·have:=0
     refine zd [[1],[0,0,0,0,0,6]] [] (hS1) ?_
     simp -implicitDefEqProofs only [↓zb,push_cast,simprocAttr,tte]
     refine zd [[1],[0,0,0,0,0,6]] [] (hS2) ?_
     simp -implicitDefEqProofs only [↓zb,push_cast,simprocAttr,tte]
     refine zd [[1],[0,0,0,0,0,6]] [] (hR1) ?_
     simp -implicitDefEqProofs only [↓zb,push_cast,simprocAttr,tte]
     refine zd [[1],[0,0,0,0,0,6]] [] (hR2) ?_
     simp -implicitDefEqProofs only [↓zb,push_cast,simprocAttr,tte]
     refine zd [[1],[0,0,0,0,0,6],[0,0,0,0,0,6]] [] (hI1) ?_
     simp -implicitDefEqProofs only [↓zb,push_cast,simprocAttr,tte]
     refine zd [[1],[0,0,0,0,0,6],[0,0,0,0,0,6]] [] (hI2) ?_
     simp -implicitDefEqProofs only [↓zb,push_cast,simprocAttr,tte]
     refine zd [[1],[0,0,0,0,0,6]] [] (hV1) ?_
     simp -implicitDefEqProofs only [↓zb,push_cast,simprocAttr,tte]
     refine zd [[1],[0,0,0,0,0,6]] [] (hV2) ?_
     simp -implicitDefEqProofs only [bne_self_eq_false,↓zb,push_cast,simprocAttr,tte]
     refine zd [[3],[3]] [] (hs1) ?_
     simp -implicitDefEqProofs only [Bool.not_true,↓zb,push_cast,simprocAttr,tte]
     refine zd [[1],[1]] [] (ht3) ?_
     simp -implicitDefEqProofs only [Bool.not_true,↓zb,push_cast,simprocAttr,tte]
     refine zd [[3],[3]] [] (hs2) ?_
     simp -implicitDefEqProofs only [Bool.not_true,↓zb,push_cast,simprocAttr,tte]
     refine zd [[1],[0,0,0,0,0,6]] [] (hC) ?_
     simp -implicitDefEqProofs only [Bool.not_true,↓zb,push_cast,simprocAttr,tte]
     refine ⟨zh (by kernel_rfl),?_⟩
     exact zp hJ (m+1) g2' (by show 3-(m+1)<3-m;omega) (Weak.keepL (by simp [APs,hwm,ends]) (by simp [APs,vE,rTab,rPP,ends]) (by simp [APs,ends]))
   ·have:=0
    refine zd [[1],[0,0,0,0,0,6]] [] (hS1) ?_
    simp -implicitDefEqProofs only [↓zb,push_cast,simprocAttr,tte]
    refine zd [[1],[0,0,0,0,0,6]] [] (hS2) ?_
    simp -implicitDefEqProofs only [↓zb,push_cast,simprocAttr,tte]
    refine zd [[1],[0,0,0,0,0,6]] [] (hR1) ?_
    simp -implicitDefEqProofs only [↓zb,push_cast,simprocAttr,tte]
    refine zd [[1],[0,0,0,0,0,6]] [] (hR2) ?_
    simp -implicitDefEqProofs only [↓zb,push_cast,simprocAttr,tte]
    refine zd [[1],[0,0,0,0,0,6],[0,0,0,0,0,6]] [] (hI1) ?_
    simp -implicitDefEqProofs only [↓zb,push_cast,simprocAttr,tte]
    refine zd [[1],[0,0,0,0,0,6],[0,0,0,0,0,6]] [] (hI2) ?_
    simp -implicitDefEqProofs only [↓zb,push_cast,simprocAttr,tte]
    refine zd [[1],[0,0,0,0,0,6]] [] (hV1) ?_
    simp -implicitDefEqProofs only [↓zb,push_cast,simprocAttr,tte]
    refine zd [[1],[0,0,0,0,0,6]] [] (hV2) ?_
    simp -implicitDefEqProofs only [bne_self_eq_false,↓zb,push_cast,simprocAttr,tte]
    refine zd [[3],[3]] [] (hs1) ?_
    simp -implicitDefEqProofs only [Bool.not_true,↓zb,push_cast,simprocAttr,tte]
    refine zd [[1],[1]] [] (ht3) ?_
    simp -implicitDefEqProofs only [Bool.not_true,↓zb,push_cast,simprocAttr,tte]
    refine zd [[3],[3]] [] (hs2) ?_
    simp -implicitDefEqProofs only [Bool.not_true,↓zb,push_cast,simprocAttr,tte]
    refine zd [[1],[0,0,0,0,0,6]] [] (hC) ?_
    simp -implicitDefEqProofs only [Bool.not_true,↓zb,push_cast,simprocAttr,tte]
    refine ⟨zh (by kernel_rfl),?_⟩
    exact zp hJ (m+1) g2' (by show 3-(m+1)<3-m;omega) (Weak.keepL (by simp [APs,hwm,ends]) (by simp [APs,vE,rTab,rPP,ends]) (by simp [APs,ends]))
  ·exact zp hI (n+1) g1' (by show 3-(n+1)<3-n;omega) (Weak.keepL (by simp [AOs,hw,ends]) (by simp [AOs,vE,rTab,ends]) (by simp [AOs,ends]))
 obtain ⟨E,hE⟩: ∃E:List Ex,E=[x,y,a,b]:=⟨_,rfl⟩
 have hEl:E.length=4:=by rw [hE];rfl
 have hEo: ∀e∈E,Ok12 e:=by
  rw [hE]
  intro e he
  simp only [List.mem_cons,List.not_mem_nil,or_false] at he
  rcases he with rfl | rfl | rfl | rfl<;>assumption
 refine z8 mixed ttok (fun n:Nat=>AEs E row n) (fun n=>4-n) (fun n=>n<=4) 0 (by omega) ?_ ?_
 ·exact Weak.keepL (by simp [AEs,ends]) (by simp [AEs,hE,yI,zo,zv,ends]) (by simp [AEs,ends])
 intro J hJ m hm
 simp -implicitDefEqProofs only [AEs,↓zb,push_cast,simprocAttr,tte]
 refine za (fun g2=>?_) fun g2=>?_
 ·have g2':m<4:=by simp only [decide_eq_true_eq] at g2;omega
  have hwm:IntKind.i64.wrap ((m:Int)+1)=((m+1:Nat):Int):=by rw [z7 (by omega) (by omega)];rfl
  have oe:=hEo _ (zx (show m<E.length by omega))
  generalize E.getD m default=e at oe ⊢
  have hF:=c_fold e oe
  have hG:=c_rfold e oe
  have hSa:=c_sameE (xB e) (ok12_fold e oe)
  have hH:=vS e row oe
  have hH2:=jB e row oe
  generalize xB e=f at hF hG hSa
  rw [zl e] at hF hG hH hH2
  rw [zl f] at hSa
  refine ⟨⟨⟨by omega,by omega⟩,by omega⟩,by omega,by omega,?_⟩
  refine zd [[0,0,0,0,0,6]] [] (hF) ?_
  simp -implicitDefEqProofs only [↓zb,push_cast,simprocAttr,tte]
  refine zd [[0,0,0,0,0,6]] [] (hG) ?_
  simp -implicitDefEqProofs only [↓zb,push_cast,simprocAttr,tte]
  refine zd [[0,0,0,0,0,6],[0,0,0,0,0,6]] [] (hSa) ?_
  simp -implicitDefEqProofs only [Bool.not_true,↓zb,push_cast,simprocAttr,tte]
  refine zd [[0,0,0,0,0,6],[3]] [] (hH) ?_
  simp -implicitDefEqProofs only [↓zb,push_cast,simprocAttr,tte]
  refine zd [[0,0,0,0,0,6],[3]] [] (hH2) ?_
  simp -implicitDefEqProofs only [bne_self_eq_false,↓zb,push_cast,simprocAttr,tte]
  refine ⟨zh (by kernel_rfl),?_⟩
  exact zp hJ (m+1) g2' (by show 4-(m+1)<4-m;omega) (Weak.keepL (by simp [AEs,hwm,ends]) (by simp [AEs,ends]) (by simp [AEs,ends]))
 ·refine zd [] [] (kT) ?_
  simp -implicitDefEqProofs only [↓zb,push_cast,simprocAttr,tte]
  exact zk trivial rfl (by simp [ends])
end
end Go.Proofs.YtiagabnddihchaaGreatDoor
