/- Conditions over finite domains (part Wh) -/
import Derived.Test.YtiagabnddihchaaGreatDoorWg
set_option maxRecDepth 100000
set_option maxHeartbeats 4000000
set_option linter.all false
namespace Go.Proofs.YtiagabnddihchaaGreatDoor
section
open Go.Am
attribute [local simp, local push_cast] num boo str ints aV zU
theorem bq31:((3:Int)==1)=false:=rfl
theorem bq21:((2:Int)==1)=false:=rfl
theorem bq23:((2:Int)==3)=false:=rfl
attribute [local simp, local push_cast] bq31 bq21 bq23
abbrev Kn (k:Int):Prop:=k=1\/k=2\/k=3
def mkE (op:Int) (r:List Ex×Nat):Ex×Nat:=(bin op r.1,r.2)
def oneM (f:Int->Nat->Ex×Nat) (x:Int) (p:Nat):List Ex×Nat:=([(f x p).1],(f x p).2)
def twoM (f:Int->Nat->Ex×Nat) (x:Int) (p:Nat):List Ex×Nat:=([(f x p).1,(f x (f x p).2).1],(f x (f x p).2).2)
def zL (f:Int->Nat->Ex×Nat) (k:Int) (p:Nat):List Ex×Nat:=
 ([(f 2 p).1,(f k (f 2 p).2).1,(f k (f k (f 2 p).2).2).1],(f k (f k (f 2 p).2).2).2)
def inM3 (f g:Int->Nat->Ex×Nat) (x:Int) (p:Nat):List Ex×Nat:=
 ([(f x p).1,(g x (f x p).2).1,(g x (g x (f x p).2).2).1],(g x (g x (f x p).2).2).2)
def cstF (xs:List Int) (k:Int) (p:Nat):Ex×Nat:=(xK (yi xs k (drawn xs p 3==2) (p+1)).1 k,(yi xs k (drawn xs p 3==2) (p+1)).2)
def zW (xs types:List Int) (k:Int) (p:Nat):Ex×Nat:=
 if 0<(cols types k).length then
  if 0<drawn xs p 4 then (.mk 5 0 0 ByteArray.empty ((cols types k).getD (drawn xs (p+1) (cols types k).length).toNat default) [],p+2) else cstF xs k (p+1)
 else cstF xs k p
def xP (xs:List Int) (f:Int->Nat->Ex×Nat) (k:Int) (p:Nat):Ex×Nat:=
 if drawn xs p 2=0 then mkE 27 (twoM f k (p+1)) else mkE 26 (zL f k (p+1))
def pickB:List Int:=[1,1,3,2]
def wZ (xs:List Int) (f g:Int->Nat->Ex×Nat) (p:Nat):Ex×Nat:=
 let x:=pickB.getD (drawn xs p 4).toNat default
 let m:=drawn xs (p+1) 9
 if m=0\/m=1\/m=2 then mkE (14+drawn xs (p+2) 7) (twoM f x (p+3))
 else if m=3\/m=4 then mkE (22+drawn xs (p+2) 2) (twoM f 2 (p+3))
 else if m=5 then mkE (24+drawn xs (p+2) 2) (oneM f 2 (p+3))
 else if m=6 then mkE 21 (oneM f x (p+2))
 else if m=7 then mkE 28 (inM3 f g x (p+2))
 else mkE 26 (zL f 2 (p+2))
def yH (xs types:List Int) (f:Int→Nat→Ex×Nat) (k:Int) (p:Nat):Ex×Nat:=
 if drawn xs p 4=0 then zW xs types k (p+1)
 else if k=1 then
  let m:=drawn xs (p+1) 7
  if m=0\/m=1\/m=2 then mkE (6+drawn xs (p+2) 5) (twoM f 1 (p+3))
  else if m=3 then mkE 11 (oneM f 1 (p+2))
  else if m=4 then mkE 13 (oneM f 3 (p+2))
  else xP xs f 1 (p+2)
 else if k=3 then
  if 0<drawn xs (p+1) 3 then mkE 12 (twoM f 3 (p+2)) else xP xs f 3 (p+2)
 else wZ xs f (zW xs types) (p+1)
def exprF (xs types:List Int):Nat->Int->Nat->Ex×Nat
 | 0,k,p=>zW xs types k p
 | 1,k,p=>zW xs types k p
 | d+2,k,p=>yH xs types (exprF xs types (d+1)) k p
def CE (xs types:List Int) (D:Int) (f:Int->Nat->Ex×Nat):Prop:=
 ∀(k:Int) (p:Nat),Kn k->ACall Tryz.prog 10 [.ptr 1000 0,ints types,num k,num D] [(1000,zU xs p)] (aE (f k p).1) [(1000,zU xs (f k p).2)]
theorem cols_in {types:List Int} {typ c:Int} (h:c∈cols types typ): ∃j:Nat,c=j/\j<types.length/\types.getD j 0=typ:=by
 unfold cols vc at h
 simp only [List.mem_map,List.mem_filter,List.mem_range,decide_eq_true_eq] at h
 obtain ⟨j,⟨h1,h2⟩,h3⟩:=h
 exact ⟨j,h3.symm,h1,h2⟩
theorem pick_kn (xs:List Int) (p:Nat):Kn (pickB.getD (drawn xs p 4).toNat default):=by
 have h:=zB xs p (n:=4) (by omega)
 generalize drawn xs p 4=d at h
 have:d=0\/d=1\/d=2\/d=3:=by omega
 rcases this with rfl | rfl | rfl | rfl
 ·exact .inl rfl
 ·exact .inl rfl
 ·exact .inr (.inr rfl)
 ·exact .inr (.inl rfl)
theorem pick5 {d:Int} (h:0<=d/\d<5):([6,7,8,9,10]:List Int).getD d.toNat default=6+d:=by
 have:d=0\/d=1\/d=2\/d=3\/d=4:=by omega
 rcases this with rfl | rfl | rfl | rfl | rfl<;>rfl
theorem pick2 (a:Int) {d:Int} (h:0<=d/\d<2):([a,a+1]:List Int).getD d.toNat default=a+d:=by
 have:d=0\/d=1:=by omega
 rcases this with rfl | rfl
 ·simp
 ·simp
theorem c_leaf {xs types:List Int} {D k:Int} {p:Nat} (hx:ve xs) (ht:types.length<=1000) (hD:D<=1):
 ACall Tryz.prog 10 [.ptr 1000 0,ints types,num k,num D] [(1000,zU xs p)] (aE (zW xs types k p).1) [(1000,zU xs (zW xs types k p).2)]:=by
 refine zm mixed ttok Tryz.func10 Tryz.ntmps10 Tryz.results10 ?_
 have hD1:decide (D<=1)=true:=decide_eq_true hD
 have hDw:True:=trivial
 simp -implicitDefEqProofs only [argT,hD1,↓zb,push_cast,simprocAttr,tte]
 refine zd [[1],[]] [] (c_of2 types (k) ht) ?_
 simp -implicitDefEqProofs only [↓zb,push_cast,simprocAttr,tte]
 have hcl:=wa types (k) types.length
 rw [show vc types (k) types.length=cols types (k) from rfl] at hcl
 refine za (fun c1=>?_) fun c1=>?_
 ·have c1':0<(cols types (k)).length:=by simpa using c1
  refine zd [[],[]] [(1000,1000)] (c_N (n:=4) (p:=p) hx (by omega) (by omega)) ?_
  simp -implicitDefEqProofs only [hDw,↓zb,push_cast,simprocAttr,tte]
  refine za (fun c2=>?_) fun c2=>?_
  ·have c2':0<drawn xs (p) 4:=by simpa using c2
   have dr:=zB xs (p+1) (n:=((cols types (k)).length:Int)) (by omega)
   refine zd [[],[]] [(1000,1000)] (c_N (n:=((cols types (k)).length:Int)) (p:=p+1) hx (by omega) (by omega)) ?_
   simp -implicitDefEqProofs only [hDw,↓zb,push_cast,simprocAttr,tte]
   refine ⟨by omega,?_⟩
   refine zd [[]] [] (c_fcol ((cols types (k)).getD (drawn xs (p+1) (cols types (k)).length).toNat default)) ?_
   simp -implicitDefEqProofs only [↓zb,push_cast,simprocAttr,tte]
   have hL:zW xs types (k) (p)=(.mk 5 0 0 ByteArray.empty ((cols types (k)).getD (drawn xs (p+1) (cols types (k)).length).toNat default) [],p+2):=by rw [zW,if_pos c1',if_pos c2']
   refine zf [0,0,0,0,0,6] rfl (by trivial) (by simp [zc]) ?_ (by simp [ends]) ?_ (by simp [ends])
   ·rw [hL]<;>simp [zl,ends]
   ·rw [hL]<;>simp [ends]
  have c2': ¬0<drawn xs (p) 4:=by simpa using c2
  have hL:zW xs types (k) (p)=cstF xs (k) (p+1):=by rw [zW,if_pos c1',if_neg c2']
  refine zd [[],[]] [(1000,1000)] (c_N (n:=3) (p:=p+1) hx (by omega) (by omega)) ?_
  simp -implicitDefEqProofs only [hDw,↓zb,push_cast,simprocAttr,tte]
  refine zd [[],[],[]] [(1000,1000)] (wc (typ:=k) (nl:=(drawn xs (p+1) 3==2)) (p:=p+1+1) hx) ?_
  simp -implicitDefEqProofs only [↓zb,push_cast,simprocAttr,tte]
  refine zd [[0,0,0],[]] [] (yN (yi xs (k) (drawn xs (p+1) 3==2) (p+1+1)).1 (k)) ?_
  simp -implicitDefEqProofs only [↓zb,push_cast,simprocAttr,tte]
  refine zf [0,0,0,0,0,6] rfl (by trivial) (by simp [zc]) ?_ (by simp [ends]) ?_ (by simp [ends])
  ·rw [hL,cstF]<;>simp [zl,ends]
  ·rw [hL,cstF]<;>simp [ends]
 have c1': ¬0<(cols types (k)).length:=by simpa using c1
 have hL:zW xs types (k) (p)=cstF xs (k) (p):=by rw [zW,if_neg c1']
 refine zd [[],[]] [(1000,1000)] (c_N (n:=3) (p:=p) hx (by omega) (by omega)) ?_
 simp -implicitDefEqProofs only [hDw,↓zb,push_cast,simprocAttr,tte]
 refine zd [[],[],[]] [(1000,1000)] (wc (typ:=k) (nl:=(drawn xs (p) 3==2)) (p:=p+1) hx) ?_
 simp -implicitDefEqProofs only [↓zb,push_cast,simprocAttr,tte]
 refine zd [[0,0,0],[]] [] (yN (yi xs (k) (drawn xs (p) 3==2) (p+1)).1 (k)) ?_
 simp -implicitDefEqProofs only [↓zb,push_cast,simprocAttr,tte]
 refine zf [0,0,0,0,0,6] rfl (by trivial) (by simp [zc]) ?_ (by simp [ends]) ?_ (by simp [ends])
 ·rw [hL,cstF]<;>simp [zl,ends]
 ·rw [hL,cstF]<;>simp [ends]
theorem c_step1 {xs types:List Int} {D:Int} {f:Int→Nat→Ex×Nat} {p:Nat} (hx:ve xs) (ht:types.length≤1000) (hD:2≤D) (hD2:D≤100) (H:CE xs types (D-1) f):
 ACall Tryz.prog 10 [.ptr 1000 0,ints types,num 1,num D] [(1000,zU xs p)] (aE (yH xs types f 1 p).1) [(1000,zU xs (yH xs types f 1 p).2)]:=by
 refine zm mixed ttok Tryz.func10 Tryz.ntmps10 Tryz.results10 ?_
 have hD1:decide (D<=1)=false:=decide_eq_false (by omega)
 have hDw:IntKind.i64.wrap (D-1)=D-1:=z7 (by omega) (by omega)
 simp -implicitDefEqProofs only [argT,hD1,hDw,↓zb,push_cast,simprocAttr,tte]
 refine zd [[],[]] [(1000,1000)] (c_N (n:=4) (p:=p) hx (by omega) (by omega)) ?_
 simp -implicitDefEqProofs only [hDw,↓zb,push_cast,simprocAttr,tte]
 refine za (fun h0=>?_) fun h0=>?_
 ·have h0':drawn xs p 4=0:=by simpa using h0
  have hM:yH xs types f 1 p=zW xs types 1 (p+1):=by rw [yH,if_pos h0']
  refine zd [[1],[]] [] (c_of2 types (1) ht) ?_
  simp -implicitDefEqProofs only [↓zb,push_cast,simprocAttr,tte]
  have hcl:=wa types (1) types.length
  rw [show vc types (1) types.length=cols types (1) from rfl] at hcl
  refine za (fun c1=>?_) fun c1=>?_
  ·have c1':0<(cols types (1)).length:=by simpa using c1
   refine zd [[],[]] [(1000,1000)] (c_N (n:=4) (p:=p+1) hx (by omega) (by omega)) ?_
   simp -implicitDefEqProofs only [hDw,↓zb,push_cast,simprocAttr,tte]
   refine za (fun c2=>?_) fun c2=>?_
   ·have c2':0<drawn xs (p+1) 4:=by simpa using c2
    have dr:=zB xs (p+1+1) (n:=((cols types (1)).length:Int)) (by omega)
    refine zd [[],[]] [(1000,1000)] (c_N (n:=((cols types (1)).length:Int)) (p:=p+1+1) hx (by omega) (by omega)) ?_
    simp -implicitDefEqProofs only [hDw,↓zb,push_cast,simprocAttr,tte]
    refine ⟨by omega,?_⟩
    refine zd [[]] [] (c_fcol ((cols types (1)).getD (drawn xs (p+1+1) (cols types (1)).length).toNat default)) ?_
    simp -implicitDefEqProofs only [↓zb,push_cast,simprocAttr,tte]
    have hL:zW xs types (1) (p+1)=(.mk 5 0 0 ByteArray.empty ((cols types (1)).getD (drawn xs (p+1+1) (cols types (1)).length).toNat default) [],p+1+2):=by rw [zW,if_pos c1',if_pos c2']
    refine zf [0,0,0,0,0,6] rfl (by trivial) (by simp [zc]) ?_ (by simp [ends]) ?_ (by simp [ends])
    ·rw [hM,hL]<;>simp [zl,ends]
    ·rw [hM,hL]<;>simp [ends]
   have c2': ¬0<drawn xs (p+1) 4:=by simpa using c2
   have hL:zW xs types (1) (p+1)=cstF xs (1) (p+1+1):=by rw [zW,if_pos c1',if_neg c2']
   refine zd [[],[]] [(1000,1000)] (c_N (n:=3) (p:=p+1+1) hx (by omega) (by omega)) ?_
   simp -implicitDefEqProofs only [hDw,↓zb,push_cast,simprocAttr,tte]
   refine zd [[],[],[]] [(1000,1000)] (wc (typ:=1) (nl:=(drawn xs (p+1+1) 3==2)) (p:=p+1+1+1) hx) ?_
   simp -implicitDefEqProofs only [↓zb,push_cast,simprocAttr,tte]
   refine zd [[0,0,0],[]] [] (yN (yi xs (1) (drawn xs (p+1+1) 3==2) (p+1+1+1)).1 (1)) ?_
   simp -implicitDefEqProofs only [↓zb,push_cast,simprocAttr,tte]
   refine zf [0,0,0,0,0,6] rfl (by trivial) (by simp [zc]) ?_ (by simp [ends]) ?_ (by simp [ends])
   ·rw [hM,hL,cstF]<;>simp [zl,ends]
   ·rw [hM,hL,cstF]<;>simp [ends]
  have c1': ¬0<(cols types (1)).length:=by simpa using c1
  have hL:zW xs types (1) (p+1)=cstF xs (1) (p+1):=by rw [zW,if_neg c1']
  refine zd [[],[]] [(1000,1000)] (c_N (n:=3) (p:=p+1) hx (by omega) (by omega)) ?_
  simp -implicitDefEqProofs only [hDw,↓zb,push_cast,simprocAttr,tte]
  refine zd [[],[],[]] [(1000,1000)] (wc (typ:=1) (nl:=(drawn xs (p+1) 3==2)) (p:=p+1+1) hx) ?_
  simp -implicitDefEqProofs only [↓zb,push_cast,simprocAttr,tte]
  refine zd [[0,0,0],[]] [] (yN (yi xs (1) (drawn xs (p+1) 3==2) (p+1+1)).1 (1)) ?_
  simp -implicitDefEqProofs only [↓zb,push_cast,simprocAttr,tte]
  refine zf [0,0,0,0,0,6] rfl (by trivial) (by simp [zc]) ?_ (by simp [ends]) ?_ (by simp [ends])
  ·rw [hM,hL,cstF]<;>simp [zl,ends]
  ·rw [hM,hL,cstF]<;>simp [ends]
 have h0': ¬drawn xs p 4=0:=by simpa using h0
 refine zd [[],[]] [(1000,1000)] (c_N (n:=7) (p:=p+1) hx (by omega) (by omega)) ?_
 simp -implicitDefEqProofs only [hDw,↓zb,push_cast,simprocAttr,tte]
 have h7:=zB xs (p+1) (n:=7) (by omega)
 have hM0:yH xs types f 1 p=(let m:=drawn xs (p+1) 7
  if m=0\/m=1\/m=2 then mkE (6+drawn xs (p+2) 5) (twoM f 1 (p+3))
  else if m=3 then mkE 11 (oneM f 1 (p+2))
  else if m=4 then mkE 13 (oneM f 3 (p+2))
  else xP xs f 1 (p+2)):=by rw [yH,if_neg h0',if_pos rfl]
 dsimp only at hM0
 generalize drawn xs (p+1) 7=m at hM0 h7 ⊢
 have hc:m=0\/m=1\/m=2\/m=3\/m=4\/m=5\/m=6:=by omega
 rcases hc with rfl | rfl | rfl | rfl | rfl | rfl | rfl
 ·simp -implicitDefEqProofs only [Int.reduceBEq,hDw,↓zb,push_cast,simprocAttr,tte]
  have hM:yH xs types f 1 p=mkE (6+drawn xs (p+2) 5) (twoM f 1 (p+3)):=by rw [hM0,if_pos (by decide)]
  have h5:=zB xs (p+2) (n:=5) (by omega)
  have hpk:([6,7,8,9,10]:List Int).getD (drawn xs (p+2) 5).toNat default=6+drawn xs (p+2) 5:=pick5 h5
  have hcp:=vG (p:=p+2) hx [6,7,8,9,10] (by decide) (by decide)
  rw [show ((([6,7,8,9,10]:List Int).length:Nat):Int)=5 from rfl,hpk] at hcp
  refine zd [[],[1]] [(1000,1000)] hcp ?_ (hargs:=by simp [ends,bs,zo,zv,rI])
  simp -implicitDefEqProofs only [hDw,↓zb,push_cast,simprocAttr,tte]
  refine zd [[],[1],[],[]] [(1000,1000)] (H (1) (p+3) (by decide)) ?_
  simp -implicitDefEqProofs only [hDw,↓zb,push_cast,simprocAttr,tte]
  refine zd [[],[1],[],[]] [(1000,1000)] (H (1) ((f (1) (p+3)).2) (by decide)) ?_
  simp -implicitDefEqProofs only [hDw,↓zb,push_cast,simprocAttr,tte]
  refine zd [[],[6]] [] (c_do (6+drawn xs (p+2) 5) [(f (1) (p+3)).1,(f (1) (f (1) (p+3)).2).1] (by simp)) ?_ (hargs:=by simp [ends,bs,yI,zo,zv])
  simp -implicitDefEqProofs only [↓zb,push_cast,simprocAttr,tte]
  refine zf [0,0,0,0,0,6] rfl (by trivial) (by simp [zc]) ?_ (by simp [ends]) ?_ (by simp [ends])
  ·rw [hM]<;>simp [mkE,zl,oneM,twoM,zL,inM3,ends]
  ·rw [hM]<;>simp [mkE,oneM,twoM,zL,inM3,ends]
 ·simp -implicitDefEqProofs only [Int.reduceBEq,hDw,↓zb,push_cast,simprocAttr,tte]
  have hM:yH xs types f 1 p=mkE (6+drawn xs (p+2) 5) (twoM f 1 (p+3)):=by rw [hM0,if_pos (by decide)]
  have h5:=zB xs (p+2) (n:=5) (by omega)
  have hpk:([6,7,8,9,10]:List Int).getD (drawn xs (p+2) 5).toNat default=6+drawn xs (p+2) 5:=pick5 h5
  have hcp:=vG (p:=p+2) hx [6,7,8,9,10] (by decide) (by decide)
  rw [show ((([6,7,8,9,10]:List Int).length:Nat):Int)=5 from rfl,hpk] at hcp
  refine zd [[],[1]] [(1000,1000)] hcp ?_ (hargs:=by simp [ends,bs,zo,zv,rI])
  simp -implicitDefEqProofs only [hDw,↓zb,push_cast,simprocAttr,tte]
  refine zd [[],[1],[],[]] [(1000,1000)] (H (1) (p+3) (by decide)) ?_
  simp -implicitDefEqProofs only [hDw,↓zb,push_cast,simprocAttr,tte]
  refine zd [[],[1],[],[]] [(1000,1000)] (H (1) ((f (1) (p+3)).2) (by decide)) ?_
  simp -implicitDefEqProofs only [hDw,↓zb,push_cast,simprocAttr,tte]
  refine zd [[],[6]] [] (c_do (6+drawn xs (p+2) 5) [(f (1) (p+3)).1,(f (1) (f (1) (p+3)).2).1] (by simp)) ?_ (hargs:=by simp [ends,bs,yI,zo,zv])
  simp -implicitDefEqProofs only [↓zb,push_cast,simprocAttr,tte]
  refine zf [0,0,0,0,0,6] rfl (by trivial) (by simp [zc]) ?_ (by simp [ends]) ?_ (by simp [ends])
  ·rw [hM]<;>simp [mkE,zl,oneM,twoM,zL,inM3,ends]
  ·rw [hM]<;>simp [mkE,oneM,twoM,zL,inM3,ends]
 ·simp -implicitDefEqProofs only [Int.reduceBEq,hDw,↓zb,push_cast,simprocAttr,tte]
  have hM:yH xs types f 1 p=mkE (6+drawn xs (p+2) 5) (twoM f 1 (p+3)):=by rw [hM0,if_pos (by decide)]
  have h5:=zB xs (p+2) (n:=5) (by omega)
  have hpk:([6,7,8,9,10]:List Int).getD (drawn xs (p+2) 5).toNat default=6+drawn xs (p+2) 5:=pick5 h5
  have hcp:=vG (p:=p+2) hx [6,7,8,9,10] (by decide) (by decide)
  rw [show ((([6,7,8,9,10]:List Int).length:Nat):Int)=5 from rfl,hpk] at hcp
  refine zd [[],[1]] [(1000,1000)] hcp ?_ (hargs:=by simp [ends,bs,zo,zv,rI])
  simp -implicitDefEqProofs only [hDw,↓zb,push_cast,simprocAttr,tte]
  refine zd [[],[1],[],[]] [(1000,1000)] (H (1) (p+3) (by decide)) ?_
  simp -implicitDefEqProofs only [hDw,↓zb,push_cast,simprocAttr,tte]
  refine zd [[],[1],[],[]] [(1000,1000)] (H (1) ((f (1) (p+3)).2) (by decide)) ?_
  simp -implicitDefEqProofs only [hDw,↓zb,push_cast,simprocAttr,tte]
  refine zd [[],[6]] [] (c_do (6+drawn xs (p+2) 5) [(f (1) (p+3)).1,(f (1) (f (1) (p+3)).2).1] (by simp)) ?_ (hargs:=by simp [ends,bs,yI,zo,zv])
  simp -implicitDefEqProofs only [↓zb,push_cast,simprocAttr,tte]
  refine zf [0,0,0,0,0,6] rfl (by trivial) (by simp [zc]) ?_ (by simp [ends]) ?_ (by simp [ends])
  ·rw [hM]<;>simp [mkE,zl,oneM,twoM,zL,inM3,ends]
  ·rw [hM]<;>simp [mkE,oneM,twoM,zL,inM3,ends]
 ·simp -implicitDefEqProofs only [Int.reduceBEq,hDw,↓zb,push_cast,simprocAttr,tte]
  have hM:yH xs types f 1 p=mkE 11 (oneM f 1 (p+2)):=by rw [hM0,if_neg (by decide),if_pos rfl]
  refine zd [[],[1],[],[]] [(1000,1000)] (H (1) (p+2) (by decide)) ?_
  simp -implicitDefEqProofs only [hDw,↓zb,push_cast,simprocAttr,tte]
  refine zd [[],[6]] [] (c_do 11 [(f (1) (p+2)).1] (by simp)) ?_ (hargs:=by simp [ends,bs,yI,zo,zv])
  simp -implicitDefEqProofs only [↓zb,push_cast,simprocAttr,tte]
  refine zf [0,0,0,0,0,6] rfl (by trivial) (by simp [zc]) ?_ (by simp [ends]) ?_ (by simp [ends])
  ·rw [hM]<;>simp [mkE,zl,oneM,twoM,zL,inM3,ends]
  ·rw [hM]<;>simp [mkE,oneM,twoM,zL,inM3,ends]
 ·simp -implicitDefEqProofs only [Int.reduceBEq,hDw,↓zb,push_cast,simprocAttr,tte]
  have hM:yH xs types f 1 p=mkE 13 (oneM f 3 (p+2)):=by rw [hM0,if_neg (by decide),if_neg (by decide),if_pos rfl]
  refine zd [[],[1],[],[]] [(1000,1000)] (H (3) (p+2) (by decide)) ?_
  simp -implicitDefEqProofs only [hDw,↓zb,push_cast,simprocAttr,tte]
  refine zd [[],[6]] [] (c_do 13 [(f (3) (p+2)).1] (by simp)) ?_ (hargs:=by simp [ends,bs,yI,zo,zv])
  simp -implicitDefEqProofs only [↓zb,push_cast,simprocAttr,tte]
  refine zf [0,0,0,0,0,6] rfl (by trivial) (by simp [zc]) ?_ (by simp [ends]) ?_ (by simp [ends])
  ·rw [hM]<;>simp [mkE,zl,oneM,twoM,zL,inM3,ends]
  ·rw [hM]<;>simp [mkE,oneM,twoM,zL,inM3,ends]
 ·simp -implicitDefEqProofs only [Int.reduceBEq,hDw,↓zb,push_cast,simprocAttr,tte]
  have hM:yH xs types f 1 p=xP xs f 1 (p+2):=by rw [hM0,if_neg (by decide),if_neg (by decide),if_neg (by decide)]
  refine zd [[],[]] [(1000,1000)] (c_N (n:=2) (p:=p+2) hx (by omega) (by omega)) ?_
  simp -implicitDefEqProofs only [hDw,↓zb,push_cast,simprocAttr,tte]
  refine za (fun l1=>?_) fun l1=>?_
  ·have l1':drawn xs (p+2) 2=0:=by simpa using l1
   have hL:xP xs f 1 (p+2)=mkE 27 (twoM f 1 (p+2+1)):=by rw [xP,if_pos l1']
   refine zd [[],[1],[],[]] [(1000,1000)] (H (1) (p+2+1) (by decide)) ?_
   simp -implicitDefEqProofs only [hDw,↓zb,push_cast,simprocAttr,tte]
   refine zd [[],[1],[],[]] [(1000,1000)] (H (1) ((f (1) (p+2+1)).2) (by decide)) ?_
   simp -implicitDefEqProofs only [hDw,↓zb,push_cast,simprocAttr,tte]
   refine zd [[],[6]] [] (c_do 27 [(f (1) (p+2+1)).1,(f (1) (f (1) (p+2+1)).2).1] (by simp)) ?_ (hargs:=by simp [ends,bs,yI,zo,zv])
   simp -implicitDefEqProofs only [↓zb,push_cast,simprocAttr,tte]
   refine zf [0,0,0,0,0,6] rfl (by trivial) (by simp [zc]) ?_ (by simp [ends]) ?_ (by simp [ends])
   ·rw [hM,hL]<;>simp [mkE,zl,oneM,twoM,zL,inM3,ends]
   ·rw [hM,hL]<;>simp [mkE,oneM,twoM,zL,inM3,ends]
  have l1': ¬drawn xs (p+2) 2=0:=by simpa using l1
  have hL:xP xs f 1 (p+2)=mkE 26 (zL f 1 (p+2+1)):=by rw [xP,if_neg l1']
  refine zd [[],[1],[],[]] [(1000,1000)] (H (2) (p+2+1) (by decide)) ?_
  simp -implicitDefEqProofs only [hDw,↓zb,push_cast,simprocAttr,tte]
  refine zd [[],[1],[],[]] [(1000,1000)] (H (1) ((f 2 (p+2+1)).2) (by decide)) ?_
  simp -implicitDefEqProofs only [hDw,↓zb,push_cast,simprocAttr,tte]
  refine zd [[],[1],[],[]] [(1000,1000)] (H (1) ((f (1) (f 2 (p+2+1)).2).2) (by decide)) ?_
  simp -implicitDefEqProofs only [hDw,↓zb,push_cast,simprocAttr,tte]
  refine zd [[],[6]] [] (c_do 26 [(f 2 (p+2+1)).1,(f (1) (f 2 (p+2+1)).2).1,(f (1) (f (1) (f 2 (p+2+1)).2).2).1] (by simp)) ?_ (hargs:=by simp [ends,bs,yI,zo,zv])
  simp -implicitDefEqProofs only [↓zb,push_cast,simprocAttr,tte]
  refine zf [0,0,0,0,0,6] rfl (by trivial) (by simp [zc]) ?_ (by simp [ends]) ?_ (by simp [ends])
  ·rw [hM,hL]<;>simp [mkE,zl,oneM,twoM,zL,inM3,ends]
  ·rw [hM,hL]<;>simp [mkE,oneM,twoM,zL,inM3,ends]
 ·simp -implicitDefEqProofs only [Int.reduceBEq,hDw,↓zb,push_cast,simprocAttr,tte]
  have hM:yH xs types f 1 p=xP xs f 1 (p+2):=by rw [hM0,if_neg (by decide),if_neg (by decide),if_neg (by decide)]
  refine zd [[],[]] [(1000,1000)] (c_N (n:=2) (p:=p+2) hx (by omega) (by omega)) ?_
  simp -implicitDefEqProofs only [hDw,↓zb,push_cast,simprocAttr,tte]
  refine za (fun l1=>?_) fun l1=>?_
  ·have l1':drawn xs (p+2) 2=0:=by simpa using l1
   have hL:xP xs f 1 (p+2)=mkE 27 (twoM f 1 (p+2+1)):=by rw [xP,if_pos l1']
   refine zd [[],[1],[],[]] [(1000,1000)] (H (1) (p+2+1) (by decide)) ?_
   simp -implicitDefEqProofs only [hDw,↓zb,push_cast,simprocAttr,tte]
   refine zd [[],[1],[],[]] [(1000,1000)] (H (1) ((f (1) (p+2+1)).2) (by decide)) ?_
   simp -implicitDefEqProofs only [hDw,↓zb,push_cast,simprocAttr,tte]
   refine zd [[],[6]] [] (c_do 27 [(f (1) (p+2+1)).1,(f (1) (f (1) (p+2+1)).2).1] (by simp)) ?_ (hargs:=by simp [ends,bs,yI,zo,zv])
   simp -implicitDefEqProofs only [↓zb,push_cast,simprocAttr,tte]
   refine zf [0,0,0,0,0,6] rfl (by trivial) (by simp [zc]) ?_ (by simp [ends]) ?_ (by simp [ends])
   ·rw [hM,hL]<;>simp [mkE,zl,oneM,twoM,zL,inM3,ends]
   ·rw [hM,hL]<;>simp [mkE,oneM,twoM,zL,inM3,ends]
  have l1': ¬drawn xs (p+2) 2=0:=by simpa using l1
  have hL:xP xs f 1 (p+2)=mkE 26 (zL f 1 (p+2+1)):=by rw [xP,if_neg l1']
  refine zd [[],[1],[],[]] [(1000,1000)] (H (2) (p+2+1) (by decide)) ?_
  simp -implicitDefEqProofs only [hDw,↓zb,push_cast,simprocAttr,tte]
  refine zd [[],[1],[],[]] [(1000,1000)] (H (1) ((f 2 (p+2+1)).2) (by decide)) ?_
  simp -implicitDefEqProofs only [hDw,↓zb,push_cast,simprocAttr,tte]
  refine zd [[],[1],[],[]] [(1000,1000)] (H (1) ((f (1) (f 2 (p+2+1)).2).2) (by decide)) ?_
  simp -implicitDefEqProofs only [hDw,↓zb,push_cast,simprocAttr,tte]
  refine zd [[],[6]] [] (c_do 26 [(f 2 (p+2+1)).1,(f (1) (f 2 (p+2+1)).2).1,(f (1) (f (1) (f 2 (p+2+1)).2).2).1] (by simp)) ?_ (hargs:=by simp [ends,bs,yI,zo,zv])
  simp -implicitDefEqProofs only [↓zb,push_cast,simprocAttr,tte]
  refine zf [0,0,0,0,0,6] rfl (by trivial) (by simp [zc]) ?_ (by simp [ends]) ?_ (by simp [ends])
  ·rw [hM,hL]<;>simp [mkE,zl,oneM,twoM,zL,inM3,ends]
  ·rw [hM,hL]<;>simp [mkE,oneM,twoM,zL,inM3,ends]
theorem c_step3 {xs types:List Int} {D:Int} {f:Int→Nat→Ex×Nat} {p:Nat} (hx:ve xs) (ht:types.length≤1000) (hD:2≤D) (hD2:D≤100) (H:CE xs types (D-1) f):
 ACall Tryz.prog 10 [.ptr 1000 0,ints types,num 3,num D] [(1000,zU xs p)] (aE (yH xs types f 3 p).1) [(1000,zU xs (yH xs types f 3 p).2)]:=by
 refine zm mixed ttok Tryz.func10 Tryz.ntmps10 Tryz.results10 ?_
 have hD1:decide (D<=1)=false:=decide_eq_false (by omega)
 have hDw:IntKind.i64.wrap (D-1)=D-1:=z7 (by omega) (by omega)
 simp -implicitDefEqProofs only [argT,hD1,hDw,↓zb,push_cast,simprocAttr,tte]
 refine zd [[],[]] [(1000,1000)] (c_N (n:=4) (p:=p) hx (by omega) (by omega)) ?_
 simp -implicitDefEqProofs only [hDw,↓zb,push_cast,simprocAttr,tte]
 refine za (fun h0=>?_) fun h0=>?_
 ·have h0':drawn xs p 4=0:=by simpa using h0
  have hM:yH xs types f 3 p=zW xs types 3 (p+1):=by rw [yH,if_pos h0']
  refine zd [[1],[]] [] (c_of2 types (3) ht) ?_
  simp -implicitDefEqProofs only [↓zb,push_cast,simprocAttr,tte]
  have hcl:=wa types (3) types.length
  rw [show vc types (3) types.length=cols types (3) from rfl] at hcl
  refine za (fun c1=>?_) fun c1=>?_
  ·have c1':0<(cols types (3)).length:=by simpa using c1
   refine zd [[],[]] [(1000,1000)] (c_N (n:=4) (p:=p+1) hx (by omega) (by omega)) ?_
   simp -implicitDefEqProofs only [hDw,↓zb,push_cast,simprocAttr,tte]
   refine za (fun c2=>?_) fun c2=>?_
   ·have c2':0<drawn xs (p+1) 4:=by simpa using c2
    have dr:=zB xs (p+1+1) (n:=((cols types (3)).length:Int)) (by omega)
    refine zd [[],[]] [(1000,1000)] (c_N (n:=((cols types (3)).length:Int)) (p:=p+1+1) hx (by omega) (by omega)) ?_
    simp -implicitDefEqProofs only [hDw,↓zb,push_cast,simprocAttr,tte]
    refine ⟨by omega,?_⟩
    refine zd [[]] [] (c_fcol ((cols types (3)).getD (drawn xs (p+1+1) (cols types (3)).length).toNat default)) ?_
    simp -implicitDefEqProofs only [↓zb,push_cast,simprocAttr,tte]
    have hL:zW xs types (3) (p+1)=(.mk 5 0 0 ByteArray.empty ((cols types (3)).getD (drawn xs (p+1+1) (cols types (3)).length).toNat default) [],p+1+2):=by rw [zW,if_pos c1',if_pos c2']
    refine zf [0,0,0,0,0,6] rfl (by trivial) (by simp [zc]) ?_ (by simp [ends]) ?_ (by simp [ends])
    ·rw [hM,hL]<;>simp [zl,ends]
    ·rw [hM,hL]<;>simp [ends]
   have c2': ¬0<drawn xs (p+1) 4:=by simpa using c2
   have hL:zW xs types (3) (p+1)=cstF xs (3) (p+1+1):=by rw [zW,if_pos c1',if_neg c2']
   refine zd [[],[]] [(1000,1000)] (c_N (n:=3) (p:=p+1+1) hx (by omega) (by omega)) ?_
   simp -implicitDefEqProofs only [hDw,↓zb,push_cast,simprocAttr,tte]
   refine zd [[],[],[]] [(1000,1000)] (wc (typ:=3) (nl:=(drawn xs (p+1+1) 3==2)) (p:=p+1+1+1) hx) ?_
   simp -implicitDefEqProofs only [↓zb,push_cast,simprocAttr,tte]
   refine zd [[0,0,0],[]] [] (yN (yi xs (3) (drawn xs (p+1+1) 3==2) (p+1+1+1)).1 (3)) ?_
   simp -implicitDefEqProofs only [↓zb,push_cast,simprocAttr,tte]
   refine zf [0,0,0,0,0,6] rfl (by trivial) (by simp [zc]) ?_ (by simp [ends]) ?_ (by simp [ends])
   ·rw [hM,hL,cstF]<;>simp [zl,ends]
   ·rw [hM,hL,cstF]<;>simp [ends]
  have c1': ¬0<(cols types (3)).length:=by simpa using c1
  have hL:zW xs types (3) (p+1)=cstF xs (3) (p+1):=by rw [zW,if_neg c1']
  refine zd [[],[]] [(1000,1000)] (c_N (n:=3) (p:=p+1) hx (by omega) (by omega)) ?_
  simp -implicitDefEqProofs only [hDw,↓zb,push_cast,simprocAttr,tte]
  refine zd [[],[],[]] [(1000,1000)] (wc (typ:=3) (nl:=(drawn xs (p+1) 3==2)) (p:=p+1+1) hx) ?_
  simp -implicitDefEqProofs only [↓zb,push_cast,simprocAttr,tte]
  refine zd [[0,0,0],[]] [] (yN (yi xs (3) (drawn xs (p+1) 3==2) (p+1+1)).1 (3)) ?_
  simp -implicitDefEqProofs only [↓zb,push_cast,simprocAttr,tte]
  refine zf [0,0,0,0,0,6] rfl (by trivial) (by simp [zc]) ?_ (by simp [ends]) ?_ (by simp [ends])
  ·rw [hM,hL,cstF]<;>simp [zl,ends]
  ·rw [hM,hL,cstF]<;>simp [ends]
 have h0': ¬drawn xs p 4=0:=by simpa using h0
 refine zd [[],[]] [(1000,1000)] (c_N (n:=3) (p:=p+1) hx (by omega) (by omega)) ?_
 simp -implicitDefEqProofs only [hDw,↓zb,push_cast,simprocAttr,tte]
 refine za (fun h3=>?_) fun h3=>?_
 ·have h3':0<drawn xs (p+1) 3:=by simpa using h3
  have hM:yH xs types f 3 p=mkE 12 (twoM f 3 (p+2)):=by rw [yH,if_neg h0',if_neg (by decide),if_pos rfl,if_pos h3']
  refine zd [[],[1],[],[]] [(1000,1000)] (H (3) (p+2) (by decide)) ?_
  simp -implicitDefEqProofs only [hDw,↓zb,push_cast,simprocAttr,tte]
  refine zd [[],[1],[],[]] [(1000,1000)] (H (3) ((f (3) (p+2)).2) (by decide)) ?_
  simp -implicitDefEqProofs only [hDw,↓zb,push_cast,simprocAttr,tte]
  refine zd [[],[6]] [] (c_do 12 [(f (3) (p+2)).1,(f (3) (f (3) (p+2)).2).1] (by simp)) ?_ (hargs:=by simp [ends,bs,yI,zo,zv])
  simp -implicitDefEqProofs only [↓zb,push_cast,simprocAttr,tte]
  refine zf [0,0,0,0,0,6] rfl (by trivial) (by simp [zc]) ?_ (by simp [ends]) ?_ (by simp [ends])
  ·rw [hM]<;>simp [mkE,zl,oneM,twoM,zL,inM3,ends]
  ·rw [hM]<;>simp [mkE,oneM,twoM,zL,inM3,ends]
 have h3': ¬0<drawn xs (p+1) 3:=by simpa using h3
 have hM:yH xs types f 3 p=xP xs f 3 (p+2):=by rw [yH,if_neg h0',if_neg (by decide),if_pos rfl,if_neg h3']
 refine zd [[],[]] [(1000,1000)] (c_N (n:=2) (p:=p+2) hx (by omega) (by omega)) ?_
 simp -implicitDefEqProofs only [hDw,↓zb,push_cast,simprocAttr,tte]
 refine za (fun l1=>?_) fun l1=>?_
 ·have l1':drawn xs (p+2) 2=0:=by simpa using l1
  have hL:xP xs f 3 (p+2)=mkE 27 (twoM f 3 (p+2+1)):=by rw [xP,if_pos l1']
  refine zd [[],[1],[],[]] [(1000,1000)] (H (3) (p+2+1) (by decide)) ?_
  simp -implicitDefEqProofs only [hDw,↓zb,push_cast,simprocAttr,tte]
  refine zd [[],[1],[],[]] [(1000,1000)] (H (3) ((f (3) (p+2+1)).2) (by decide)) ?_
  simp -implicitDefEqProofs only [hDw,↓zb,push_cast,simprocAttr,tte]
  refine zd [[],[6]] [] (c_do 27 [(f (3) (p+2+1)).1,(f (3) (f (3) (p+2+1)).2).1] (by simp)) ?_ (hargs:=by simp [ends,bs,yI,zo,zv])
  simp -implicitDefEqProofs only [↓zb,push_cast,simprocAttr,tte]
  refine zf [0,0,0,0,0,6] rfl (by trivial) (by simp [zc]) ?_ (by simp [ends]) ?_ (by simp [ends])
  ·rw [hM,hL]<;>simp [mkE,zl,oneM,twoM,zL,inM3,ends]
  ·rw [hM,hL]<;>simp [mkE,oneM,twoM,zL,inM3,ends]
 have l1': ¬drawn xs (p+2) 2=0:=by simpa using l1
 have hL:xP xs f 3 (p+2)=mkE 26 (zL f 3 (p+2+1)):=by rw [xP,if_neg l1']
 refine zd [[],[1],[],[]] [(1000,1000)] (H (2) (p+2+1) (by decide)) ?_
 simp -implicitDefEqProofs only [hDw,↓zb,push_cast,simprocAttr,tte]
 refine zd [[],[1],[],[]] [(1000,1000)] (H (3) ((f 2 (p+2+1)).2) (by decide)) ?_
 simp -implicitDefEqProofs only [hDw,↓zb,push_cast,simprocAttr,tte]
 refine zd [[],[1],[],[]] [(1000,1000)] (H (3) ((f (3) (f 2 (p+2+1)).2).2) (by decide)) ?_
 simp -implicitDefEqProofs only [hDw,↓zb,push_cast,simprocAttr,tte]
 refine zd [[],[6]] [] (c_do 26 [(f 2 (p+2+1)).1,(f (3) (f 2 (p+2+1)).2).1,(f (3) (f (3) (f 2 (p+2+1)).2).2).1] (by simp)) ?_ (hargs:=by simp [ends,bs,yI,zo,zv])
 simp -implicitDefEqProofs only [↓zb,push_cast,simprocAttr,tte]
 refine zf [0,0,0,0,0,6] rfl (by trivial) (by simp [zc]) ?_ (by simp [ends]) ?_ (by simp [ends])
 ·rw [hM,hL]<;>simp [mkE,zl,oneM,twoM,zL,inM3,ends]
 ·rw [hM,hL]<;>simp [mkE,oneM,twoM,zL,inM3,ends]
theorem c_fcond {xs types:List Int} {D:Int} {f:Int->Nat->Ex×Nat} {p:Nat} (hx:ve xs) (ht:types.length<=1000) (hD:2<=D) (hD2:D<=100) (H:CE xs types (D-1) f):
 ACall Tryz.prog 49 [.ptr 1000 0,ints types,num D] [(1000,zU xs p)] (aE (wZ xs f (zW xs types) p).1) [(1000,zU xs (wZ xs f (zW xs types) p).2)]:=by
 refine zm mixed ttok Tryz.func49 Tryz.ntmps49 Tryz.results49 ?_
 have hDw:IntKind.i64.wrap (D-1)=D-1:=z7 (by omega) (by omega)
 simp -implicitDefEqProofs only [argT,hDw,↓zb,push_cast,simprocAttr,tte]
 refine zd [[],[1]] [(1000,1000)] (vG (p:=p) hx pickB (by decide) (by decide)) ?_ (hargs:=by simp [ends,bs,pickB,zo,zv,rI])
 have hkn:=pick_kn xs p
 have hM0:wZ xs f (zW xs types) p=(let x:=pickB.getD (drawn xs p 4).toNat default
  let m:=drawn xs (p+1) 9
  if m=0\/m=1\/m=2 then mkE (14+drawn xs (p+2) 7) (twoM f x (p+3))
  else if m=3\/m=4 then mkE (22+drawn xs (p+2) 2) (twoM f 2 (p+3))
  else if m=5 then mkE (24+drawn xs (p+2) 2) (oneM f 2 (p+3))
  else if m=6 then mkE 21 (oneM f x (p+2))
  else if m=7 then mkE 28 (inM3 f (zW xs types) x (p+2))
  else mkE 26 (zL f 2 (p+2))):=rfl
 dsimp only at hM0
 rw [show ((pickB.length:Nat):Int)=4 from rfl]
 generalize pickB.getD (drawn xs p 4).toNat default=x at hkn hM0 ⊢
 simp -implicitDefEqProofs only [hDw,↓zb,push_cast,simprocAttr,tte]
 refine zd [[],[]] [(1000,1000)] (c_N (n:=9) (p:=p+1) hx (by omega) (by omega)) ?_
 simp -implicitDefEqProofs only [hDw,↓zb,push_cast,simprocAttr,tte]
 have h9:=zB xs (p+1) (n:=9) (by omega)
 generalize drawn xs (p+1) 9=m at hM0 h9 ⊢
 have hc:m=0\/m=1\/m=2\/m=3\/m=4\/m=5\/m=6\/m=7\/m=8:=by omega
 rcases hc with rfl | rfl | rfl | rfl | rfl | rfl | rfl | rfl | rfl
 ·simp -implicitDefEqProofs only [Int.reduceBEq,hDw,↓zb,push_cast,simprocAttr,tte]
  have hM:wZ xs f (zW xs types) p=mkE (14+drawn xs (p+2) 7) (twoM f x (p+3)):=by rw [hM0,if_pos (by decide)]
  refine zd [[],[],[]] [(1000,1000)] (kR (lo:=14) (hi:=20) (p:=p+2) hx (by omega) (by omega) (by omega)) ?_
  rw [show (20:Int)-14+1=7 from rfl]
  simp -implicitDefEqProofs only [hDw,↓zb,push_cast,simprocAttr,tte]
  refine zd [[],[1],[],[]] [(1000,1000)] (H (x) (p+3) hkn) ?_
  simp -implicitDefEqProofs only [hDw,↓zb,push_cast,simprocAttr,tte]
  refine zd [[],[1],[],[]] [(1000,1000)] (H (x) ((f (x) (p+3)).2) hkn) ?_
  simp -implicitDefEqProofs only [hDw,↓zb,push_cast,simprocAttr,tte]
  refine zd [[],[6]] [] (c_do (14+drawn xs (p+2) 7) [(f (x) (p+3)).1,(f (x) (f (x) (p+3)).2).1] (by simp)) ?_ (hargs:=by simp [ends,bs,yI,zo,zv])
  simp -implicitDefEqProofs only [↓zb,push_cast,simprocAttr,tte]
  refine zf [0,0,0,0,0,6] rfl (by trivial) (by simp [zc]) ?_ (by simp [ends]) ?_ (by simp [ends])
  ·rw [hM]<;>simp [mkE,zl,oneM,twoM,zL,inM3,ends]
  ·rw [hM]<;>simp [mkE,oneM,twoM,zL,inM3,ends]
 ·simp -implicitDefEqProofs only [Int.reduceBEq,hDw,↓zb,push_cast,simprocAttr,tte]
  have hM:wZ xs f (zW xs types) p=mkE (14+drawn xs (p+2) 7) (twoM f x (p+3)):=by rw [hM0,if_pos (by decide)]
  refine zd [[],[],[]] [(1000,1000)] (kR (lo:=14) (hi:=20) (p:=p+2) hx (by omega) (by omega) (by omega)) ?_
  rw [show (20:Int)-14+1=7 from rfl]
  simp -implicitDefEqProofs only [hDw,↓zb,push_cast,simprocAttr,tte]
  refine zd [[],[1],[],[]] [(1000,1000)] (H (x) (p+3) hkn) ?_
  simp -implicitDefEqProofs only [hDw,↓zb,push_cast,simprocAttr,tte]
  refine zd [[],[1],[],[]] [(1000,1000)] (H (x) ((f (x) (p+3)).2) hkn) ?_
  simp -implicitDefEqProofs only [hDw,↓zb,push_cast,simprocAttr,tte]
  refine zd [[],[6]] [] (c_do (14+drawn xs (p+2) 7) [(f (x) (p+3)).1,(f (x) (f (x) (p+3)).2).1] (by simp)) ?_ (hargs:=by simp [ends,bs,yI,zo,zv])
  simp -implicitDefEqProofs only [↓zb,push_cast,simprocAttr,tte]
  refine zf [0,0,0,0,0,6] rfl (by trivial) (by simp [zc]) ?_ (by simp [ends]) ?_ (by simp [ends])
  ·rw [hM]<;>simp [mkE,zl,oneM,twoM,zL,inM3,ends]
  ·rw [hM]<;>simp [mkE,oneM,twoM,zL,inM3,ends]
 ·simp -implicitDefEqProofs only [Int.reduceBEq,hDw,↓zb,push_cast,simprocAttr,tte]
  have hM:wZ xs f (zW xs types) p=mkE (14+drawn xs (p+2) 7) (twoM f x (p+3)):=by rw [hM0,if_pos (by decide)]
  refine zd [[],[],[]] [(1000,1000)] (kR (lo:=14) (hi:=20) (p:=p+2) hx (by omega) (by omega) (by omega)) ?_
  rw [show (20:Int)-14+1=7 from rfl]
  simp -implicitDefEqProofs only [hDw,↓zb,push_cast,simprocAttr,tte]
  refine zd [[],[1],[],[]] [(1000,1000)] (H (x) (p+3) hkn) ?_
  simp -implicitDefEqProofs only [hDw,↓zb,push_cast,simprocAttr,tte]
  refine zd [[],[1],[],[]] [(1000,1000)] (H (x) ((f (x) (p+3)).2) hkn) ?_
  simp -implicitDefEqProofs only [hDw,↓zb,push_cast,simprocAttr,tte]
  refine zd [[],[6]] [] (c_do (14+drawn xs (p+2) 7) [(f (x) (p+3)).1,(f (x) (f (x) (p+3)).2).1] (by simp)) ?_ (hargs:=by simp [ends,bs,yI,zo,zv])
  simp -implicitDefEqProofs only [↓zb,push_cast,simprocAttr,tte]
  refine zf [0,0,0,0,0,6] rfl (by trivial) (by simp [zc]) ?_ (by simp [ends]) ?_ (by simp [ends])
  ·rw [hM]<;>simp [mkE,zl,oneM,twoM,zL,inM3,ends]
  ·rw [hM]<;>simp [mkE,oneM,twoM,zL,inM3,ends]
 ·simp -implicitDefEqProofs only [Int.reduceBEq,hDw,↓zb,push_cast,simprocAttr,tte]
  have hM:wZ xs f (zW xs types) p=mkE (22+drawn xs (p+2) 2) (twoM f 2 (p+3)):=by rw [hM0,if_neg (by decide),if_pos (by decide)]
  have h5:=zB xs (p+2) (n:=2) (by omega)
  have hpk:([22,23]:List Int).getD (drawn xs (p+2) 2).toNat default=22+drawn xs (p+2) 2:=pick2 22 h5
  have hcp:=vG (p:=p+2) hx [22,23] (by decide) (by decide)
  rw [show ((([22,23]:List Int).length:Nat):Int)=2 from rfl,hpk] at hcp
  refine zd [[],[1]] [(1000,1000)] hcp ?_ (hargs:=by simp [ends,bs,zo,zv,rI])
  simp -implicitDefEqProofs only [hDw,↓zb,push_cast,simprocAttr,tte]
  refine zd [[],[1],[],[]] [(1000,1000)] (H (2) (p+3) (by decide)) ?_
  simp -implicitDefEqProofs only [hDw,↓zb,push_cast,simprocAttr,tte]
  refine zd [[],[1],[],[]] [(1000,1000)] (H (2) ((f (2) (p+3)).2) (by decide)) ?_
  simp -implicitDefEqProofs only [hDw,↓zb,push_cast,simprocAttr,tte]
  refine zd [[],[6]] [] (c_do (22+drawn xs (p+2) 2) [(f (2) (p+3)).1,(f (2) (f (2) (p+3)).2).1] (by simp)) ?_ (hargs:=by simp [ends,bs,yI,zo,zv])
  simp -implicitDefEqProofs only [↓zb,push_cast,simprocAttr,tte]
  refine zf [0,0,0,0,0,6] rfl (by trivial) (by simp [zc]) ?_ (by simp [ends]) ?_ (by simp [ends])
  ·rw [hM]<;>simp [mkE,zl,oneM,twoM,zL,inM3,ends]
  ·rw [hM]<;>simp [mkE,oneM,twoM,zL,inM3,ends]
 ·simp -implicitDefEqProofs only [Int.reduceBEq,hDw,↓zb,push_cast,simprocAttr,tte]
  have hM:wZ xs f (zW xs types) p=mkE (22+drawn xs (p+2) 2) (twoM f 2 (p+3)):=by rw [hM0,if_neg (by decide),if_pos (by decide)]
  have h5:=zB xs (p+2) (n:=2) (by omega)
  have hpk:([22,23]:List Int).getD (drawn xs (p+2) 2).toNat default=22+drawn xs (p+2) 2:=pick2 22 h5
  have hcp:=vG (p:=p+2) hx [22,23] (by decide) (by decide)
  rw [show ((([22,23]:List Int).length:Nat):Int)=2 from rfl,hpk] at hcp
  refine zd [[],[1]] [(1000,1000)] hcp ?_ (hargs:=by simp [ends,bs,zo,zv,rI])
  simp -implicitDefEqProofs only [hDw,↓zb,push_cast,simprocAttr,tte]
  refine zd [[],[1],[],[]] [(1000,1000)] (H (2) (p+3) (by decide)) ?_
  simp -implicitDefEqProofs only [hDw,↓zb,push_cast,simprocAttr,tte]
  refine zd [[],[1],[],[]] [(1000,1000)] (H (2) ((f (2) (p+3)).2) (by decide)) ?_
  simp -implicitDefEqProofs only [hDw,↓zb,push_cast,simprocAttr,tte]
  refine zd [[],[6]] [] (c_do (22+drawn xs (p+2) 2) [(f (2) (p+3)).1,(f (2) (f (2) (p+3)).2).1] (by simp)) ?_ (hargs:=by simp [ends,bs,yI,zo,zv])
  simp -implicitDefEqProofs only [↓zb,push_cast,simprocAttr,tte]
  refine zf [0,0,0,0,0,6] rfl (by trivial) (by simp [zc]) ?_ (by simp [ends]) ?_ (by simp [ends])
  ·rw [hM]<;>simp [mkE,zl,oneM,twoM,zL,inM3,ends]
  ·rw [hM]<;>simp [mkE,oneM,twoM,zL,inM3,ends]
 ·simp -implicitDefEqProofs only [Int.reduceBEq,hDw,↓zb,push_cast,simprocAttr,tte]
  have hM:wZ xs f (zW xs types) p=mkE (24+drawn xs (p+2) 2) (oneM f 2 (p+3)):=by rw [hM0,if_neg (by decide),if_neg (by decide),if_pos rfl]
  have h5:=zB xs (p+2) (n:=2) (by omega)
  have hpk:([24,25]:List Int).getD (drawn xs (p+2) 2).toNat default=24+drawn xs (p+2) 2:=pick2 24 h5
  have hcp:=vG (p:=p+2) hx [24,25] (by decide) (by decide)
  rw [show ((([24,25]:List Int).length:Nat):Int)=2 from rfl,hpk] at hcp
  refine zd [[],[1]] [(1000,1000)] hcp ?_ (hargs:=by simp [ends,bs,zo,zv,rI])
  simp -implicitDefEqProofs only [hDw,↓zb,push_cast,simprocAttr,tte]
  refine zd [[],[1],[],[]] [(1000,1000)] (H (2) (p+3) (by decide)) ?_
  simp -implicitDefEqProofs only [hDw,↓zb,push_cast,simprocAttr,tte]
  refine zd [[],[6]] [] (c_do (24+drawn xs (p+2) 2) [(f (2) (p+3)).1] (by simp)) ?_ (hargs:=by simp [ends,bs,yI,zo,zv])
  simp -implicitDefEqProofs only [↓zb,push_cast,simprocAttr,tte]
  refine zf [0,0,0,0,0,6] rfl (by trivial) (by simp [zc]) ?_ (by simp [ends]) ?_ (by simp [ends])
  ·rw [hM]<;>simp [mkE,zl,oneM,twoM,zL,inM3,ends]
  ·rw [hM]<;>simp [mkE,oneM,twoM,zL,inM3,ends]
 ·simp -implicitDefEqProofs only [Int.reduceBEq,hDw,↓zb,push_cast,simprocAttr,tte]
  have hM:wZ xs f (zW xs types) p=mkE 21 (oneM f x (p+2)):=by rw [hM0,if_neg (by decide),if_neg (by decide),if_neg (by decide),if_pos rfl]
  refine zd [[],[1],[],[]] [(1000,1000)] (H (x) (p+2) hkn) ?_
  simp -implicitDefEqProofs only [hDw,↓zb,push_cast,simprocAttr,tte]
  refine zd [[],[6]] [] (c_do 21 [(f (x) (p+2)).1] (by simp)) ?_ (hargs:=by simp [ends,bs,yI,zo,zv])
  simp -implicitDefEqProofs only [↓zb,push_cast,simprocAttr,tte]
  refine zf [0,0,0,0,0,6] rfl (by trivial) (by simp [zc]) ?_ (by simp [ends]) ?_ (by simp [ends])
  ·rw [hM]<;>simp [mkE,zl,oneM,twoM,zL,inM3,ends]
  ·rw [hM]<;>simp [mkE,oneM,twoM,zL,inM3,ends]
 ·simp -implicitDefEqProofs only [Int.reduceBEq,hDw,↓zb,push_cast,simprocAttr,tte]
  have hM:wZ xs f (zW xs types) p=mkE 28 (inM3 f (zW xs types) x (p+2)):=by rw [hM0,if_neg (by decide),if_neg (by decide),if_neg (by decide),if_neg (by decide),if_pos rfl]
  refine zd [[],[1],[],[]] [(1000,1000)] (H (x) (p+2) hkn) ?_
  simp -implicitDefEqProofs only [hDw,↓zb,push_cast,simprocAttr,tte]
  refine zd [[],[1],[],[]] [(1000,1000)] (c_leaf (D:=1) (k:=x) (p:=(f x (p+2)).2) hx ht (by omega)) ?_
  simp -implicitDefEqProofs only [hDw,↓zb,push_cast,simprocAttr,tte]
  refine zd [[],[1],[],[]] [(1000,1000)] (c_leaf (D:=1) (k:=x) (p:=(zW xs types x (f x (p+2)).2).2) hx ht (by omega)) ?_
  simp -implicitDefEqProofs only [hDw,↓zb,push_cast,simprocAttr,tte]
  refine zd [[],[6]] [] (c_do 28 [(f x (p+2)).1,(zW xs types x (f x (p+2)).2).1,(zW xs types x (zW xs types x (f x (p+2)).2).2).1] (by simp)) ?_ (hargs:=by simp [ends,bs,yI,zo,zv])
  simp -implicitDefEqProofs only [↓zb,push_cast,simprocAttr,tte]
  refine zf [0,0,0,0,0,6] rfl (by trivial) (by simp [zc]) ?_ (by simp [ends]) ?_ (by simp [ends])
  ·rw [hM]<;>simp [mkE,zl,oneM,twoM,zL,inM3,ends]
  ·rw [hM]<;>simp [mkE,oneM,twoM,zL,inM3,ends]
 ·simp -implicitDefEqProofs only [Int.reduceBEq,hDw,↓zb,push_cast,simprocAttr,tte]
  have hM:wZ xs f (zW xs types) p=mkE 26 (zL f 2 (p+2)):=by rw [hM0,if_neg (by decide),if_neg (by decide),if_neg (by decide),if_neg (by decide),if_neg (by decide)]
  refine zd [[],[1],[],[]] [(1000,1000)] (H (2) (p+2) (by decide)) ?_
  simp -implicitDefEqProofs only [hDw,↓zb,push_cast,simprocAttr,tte]
  refine zd [[],[1],[],[]] [(1000,1000)] (H (2) ((f 2 (p+2)).2) (by decide)) ?_
  simp -implicitDefEqProofs only [hDw,↓zb,push_cast,simprocAttr,tte]
  refine zd [[],[1],[],[]] [(1000,1000)] (H (2) ((f (2) (f 2 (p+2)).2).2) (by decide)) ?_
  simp -implicitDefEqProofs only [hDw,↓zb,push_cast,simprocAttr,tte]
  refine zd [[],[6]] [] (c_do 26 [(f 2 (p+2)).1,(f (2) (f 2 (p+2)).2).1,(f (2) (f (2) (f 2 (p+2)).2).2).1] (by simp)) ?_ (hargs:=by simp [ends,bs,yI,zo,zv])
  simp -implicitDefEqProofs only [↓zb,push_cast,simprocAttr,tte]
  refine zf [0,0,0,0,0,6] rfl (by trivial) (by simp [zc]) ?_ (by simp [ends]) ?_ (by simp [ends])
  ·rw [hM]<;>simp [mkE,zl,oneM,twoM,zL,inM3,ends]
  ·rw [hM]<;>simp [mkE,oneM,twoM,zL,inM3,ends]
theorem c_step2 {xs types:List Int} {D:Int} {f:Int→Nat→Ex×Nat} {p:Nat} (hx:ve xs) (ht:types.length≤1000) (hD:2≤D) (hD2:D≤100) (H:CE xs types (D-1) f):
 ACall Tryz.prog 10 [.ptr 1000 0,ints types,num 2,num D] [(1000,zU xs p)] (aE (yH xs types f 2 p).1) [(1000,zU xs (yH xs types f 2 p).2)]:=by
 refine zm mixed ttok Tryz.func10 Tryz.ntmps10 Tryz.results10 ?_
 have hD1:decide (D<=1)=false:=decide_eq_false (by omega)
 have hDw:IntKind.i64.wrap (D-1)=D-1:=z7 (by omega) (by omega)
 simp -implicitDefEqProofs only [argT,hD1,hDw,↓zb,push_cast,simprocAttr,tte]
 refine zd [[],[]] [(1000,1000)] (c_N (n:=4) (p:=p) hx (by omega) (by omega)) ?_
 simp -implicitDefEqProofs only [hDw,↓zb,push_cast,simprocAttr,tte]
 refine za (fun h0=>?_) fun h0=>?_
 ·have h0':drawn xs p 4=0:=by simpa using h0
  have hM:yH xs types f 2 p=zW xs types 2 (p+1):=by rw [yH,if_pos h0']
  refine zd [[1],[]] [] (c_of2 types (2) ht) ?_
  simp -implicitDefEqProofs only [↓zb,push_cast,simprocAttr,tte]
  have hcl:=wa types (2) types.length
  rw [show vc types (2) types.length=cols types (2) from rfl] at hcl
  refine za (fun c1=>?_) fun c1=>?_
  ·have c1':0<(cols types (2)).length:=by simpa using c1
   refine zd [[],[]] [(1000,1000)] (c_N (n:=4) (p:=p+1) hx (by omega) (by omega)) ?_
   simp -implicitDefEqProofs only [hDw,↓zb,push_cast,simprocAttr,tte]
   refine za (fun c2=>?_) fun c2=>?_
   ·have c2':0<drawn xs (p+1) 4:=by simpa using c2
    have dr:=zB xs (p+1+1) (n:=((cols types (2)).length:Int)) (by omega)
    refine zd [[],[]] [(1000,1000)] (c_N (n:=((cols types (2)).length:Int)) (p:=p+1+1) hx (by omega) (by omega)) ?_
    simp -implicitDefEqProofs only [hDw,↓zb,push_cast,simprocAttr,tte]
    refine ⟨by omega,?_⟩
    refine zd [[]] [] (c_fcol ((cols types (2)).getD (drawn xs (p+1+1) (cols types (2)).length).toNat default)) ?_
    simp -implicitDefEqProofs only [↓zb,push_cast,simprocAttr,tte]
    have hL:zW xs types (2) (p+1)=(.mk 5 0 0 ByteArray.empty ((cols types (2)).getD (drawn xs (p+1+1) (cols types (2)).length).toNat default) [],p+1+2):=by rw [zW,if_pos c1',if_pos c2']
    refine zf [0,0,0,0,0,6] rfl (by trivial) (by simp [zc]) ?_ (by simp [ends]) ?_ (by simp [ends])
    ·rw [hM,hL]<;>simp [zl,ends]
    ·rw [hM,hL]<;>simp [ends]
   have c2': ¬0<drawn xs (p+1) 4:=by simpa using c2
   have hL:zW xs types (2) (p+1)=cstF xs (2) (p+1+1):=by rw [zW,if_pos c1',if_neg c2']
   refine zd [[],[]] [(1000,1000)] (c_N (n:=3) (p:=p+1+1) hx (by omega) (by omega)) ?_
   simp -implicitDefEqProofs only [hDw,↓zb,push_cast,simprocAttr,tte]
   refine zd [[],[],[]] [(1000,1000)] (wc (typ:=2) (nl:=(drawn xs (p+1+1) 3==2)) (p:=p+1+1+1) hx) ?_
   simp -implicitDefEqProofs only [↓zb,push_cast,simprocAttr,tte]
   refine zd [[0,0,0],[]] [] (yN (yi xs (2) (drawn xs (p+1+1) 3==2) (p+1+1+1)).1 (2)) ?_
   simp -implicitDefEqProofs only [↓zb,push_cast,simprocAttr,tte]
   refine zf [0,0,0,0,0,6] rfl (by trivial) (by simp [zc]) ?_ (by simp [ends]) ?_ (by simp [ends])
   ·rw [hM,hL,cstF]<;>simp [zl,ends]
   ·rw [hM,hL,cstF]<;>simp [ends]
  have c1': ¬0<(cols types (2)).length:=by simpa using c1
  have hL:zW xs types (2) (p+1)=cstF xs (2) (p+1):=by rw [zW,if_neg c1']
  refine zd [[],[]] [(1000,1000)] (c_N (n:=3) (p:=p+1) hx (by omega) (by omega)) ?_
  simp -implicitDefEqProofs only [hDw,↓zb,push_cast,simprocAttr,tte]
  refine zd [[],[],[]] [(1000,1000)] (wc (typ:=2) (nl:=(drawn xs (p+1) 3==2)) (p:=p+1+1) hx) ?_
  simp -implicitDefEqProofs only [↓zb,push_cast,simprocAttr,tte]
  refine zd [[0,0,0],[]] [] (yN (yi xs (2) (drawn xs (p+1) 3==2) (p+1+1)).1 (2)) ?_
  simp -implicitDefEqProofs only [↓zb,push_cast,simprocAttr,tte]
  refine zf [0,0,0,0,0,6] rfl (by trivial) (by simp [zc]) ?_ (by simp [ends]) ?_ (by simp [ends])
  ·rw [hM,hL,cstF]<;>simp [zl,ends]
  ·rw [hM,hL,cstF]<;>simp [ends]
 have h0': ¬drawn xs p 4=0:=by simpa using h0
 have hM:yH xs types f 2 p=wZ xs f (zW xs types) (p+1):=by rw [yH,if_neg h0',if_neg (by decide),if_neg (by decide)]
 refine zd [[],[1],[]] [(1000,1000)] (c_fcond (p:=p+1) hx ht hD hD2 H) ?_
 simp -implicitDefEqProofs only [↓zb,push_cast,simprocAttr,tte]
 refine zf [0,0,0,0,0,6] rfl (by trivial) (by simp [zc]) ?_ (by simp [ends]) ?_ (by simp [ends])
 ·rw [hM]<;>simp [zl,ends]
 ·rw [hM]<;>simp [ends]
theorem c_fexpr {xs types:List Int} (hx:ve xs) (ht:types.length<=1000): ∀(d:Nat),d<=99->CE xs types (d:Nat) (exprF xs types d)
 | 0,_=>fun k p _=>c_leaf hx ht (by decide)
 | 1,_=>fun k p _=>c_leaf hx ht (by decide)
 | d+2,hd=>fun k p hk=>by
   have H:=c_fexpr hx ht (d+1) (by omega)
   have e:(((d+2:Nat):Int)-1)=((d+1:Nat):Int):=by omega
   rw [<-e] at H
   rcases hk with rfl | rfl | rfl
   ·exact c_step1 hx ht (by omega) (by omega) H
   ·exact c_step2 hx ht (by omega) (by omega) H
   ·exact c_step3 hx ht (by omega) (by omega) H
end
end Go.Proofs.YtiagabnddihchaaGreatDoor
