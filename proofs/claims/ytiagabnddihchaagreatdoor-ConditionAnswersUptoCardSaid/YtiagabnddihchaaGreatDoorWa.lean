/- Conditions over finite domains (part Wa) -/
import Derived.Test.YtiagabnddihchaaGreatDoorW0
set_option maxRecDepth 100000
set_option maxHeartbeats 4000000
set_option linter.all false
namespace Go.Proofs.YtiagabnddihchaaGreatDoor
section
open Go.Am
attribute [local simp, local push_cast] num boo str ints aV aTab yC aS
end
section
open Go.Am
attribute [local simp, local push_cast] num boo str ints aV aTab yC aS
def aT (t:Tbl):A:= .agg [.d (.lit (.string t.name)),.d (.sl 3 (zg rC t.columns)),.d (.sl 1 (zg rI t.primary)),.d (.sl 1 (zg rIs t.uniques)),.d (.sl 2 (zg rF t.foreigns)),.d (.sl 6 (zg rE t.checks))]
def aC (c:Col):A:= .agg [.d (.lit (.string c.name)),.d (.lit (.int .i64 c.type)),.d (.lit (.bool c.nullable))]
attribute [local simp, local push_cast] aT aC
def jL (k:Int):A:= .tup [num (if 0>k then 0 else k),boo (decide (k≥0))]
end
section
open Go.Am
attribute [local simp, local push_cast] num boo str ints aV aTab yC aS aT aC
theorem all_range {p:Nat->Bool} {N:Nat}:(List.range N).all p=true ↔ ∀i,i<N->p i=true:=by simp [List.all_eq_true]
theorem bad_range {p:Nat->Bool} {N n:Nat} (h:n<N) (hp:p n=false):(List.range N).all p=false:=by
 cases hq:(List.range N).all p with
 | false=>rfl
 | true=>rw [all_range.1 hq n h] at hp;cases hp
end
section
open Go.Am
attribute [local simp, local push_cast] num boo str ints aV aTab yC aS aT aC
def vT (t:Tbl):Ob:= .var [.d (.lit (.string t.name)),.d (.sl 3 (zg rC t.columns)),.d (.sl 1 (zg rI t.primary)),.d (.sl 1 (zg rIs t.uniques)),.d (.sl 2 (zg rF t.foreigns)),.d (.sl 6 (zg rE t.checks))]
theorem any_fidx {α:Type} (p:α->Bool) (l:List α):decide (fidx p l≥0)=l.any p:=by
 have h:=kI p l
 cases ha:l.any p with
 | false=>rw [ha] at h;simp only [iff_true] at h;exact decide_eq_false (by omega)
 | true=>rw [ha] at h;simp only [Bool.true_eq_false,iff_false] at h;exact decide_eq_true (by omega)
structure SmallT (t:Tbl):Prop where
 cols:t.columns.length<=1000
 prim:t.primary.length<=1000
 uniq:t.uniques.length<=1000
 uniqs: ∀u∈t.uniques,u.length<=1000
 fors:t.foreigns.length<=1000
 forss: ∀f∈t.foreigns,f.columns.length<=1000
 chk:t.checks.length<=1000
 chks: ∀e∈t.checks,Ok12 e
end
section
open Go.Am
attribute [local simp, local push_cast] num boo str ints aV aTab yC aS aT aC
def oddR (c:Int):Bool:=(decide (c<32) || decide (c>126)) || c==39
theorem c_text1 (c:Int):ACall Tryz.prog 140 [.d (.lit (.int .i32 c))] [] (boo (oddR c)) []:=by
 refine zm mixed ttok Tryz.func140 Tryz.ntmps140 Tryz.results140 ?_
 generalize hr:boo (oddR c)=R
 simp -implicitDefEqProofs only [argT,↓zb,push_cast,simprocAttr,tte]
 refine za (fun h1=>?_) fun h1=>?_
 ·exact zk trivial (by rw [<-hr,oddR,h1,Bool.true_or,Bool.true_or];rfl) (by simp [ends])
 refine za (fun h2=>?_) fun h2=>?_
 ·exact zk trivial (by rw [<-hr,oddR,h1,h2,Bool.or_true,Bool.true_or];rfl) (by simp [ends])
 ·exact zk trivial (by rw [<-hr,oddR,h1,h2,Bool.or_false,Bool.false_or];rfl) (by simp [ends])
def vf (s:ByteArray) (p:Nat):Nat->Int
 | 0=> -1
 | n+1=>if p<s.size then (if oddR (Utf8.decode s p).1 then p else vf s (p+(Utf8.decode s p).2) n) else -1
theorem dec_pos (s:ByteArray) (p:Nat):0<(Utf8.decode s p).2:=by
 unfold Utf8.decode
 simp only []
 repeat' split
 all_goals simp
theorem kC (s:ByteArray): ∀(n p m:Nat),s.size-p<=n->n<=m->vf s p n=vf s p m
 | 0,p,m,h,_=>by
   cases m with
   | zero=>rfl
   | succ m=>simp only [vf];rw [if_neg (by omega)]
 | n+1,p,0,h,h2=>by omega
 | n+1,p,m+1,h,h2=>by
   simp only [vf]
   have:=dec_pos s p
   rw [kC s n (p+(Utf8.decode s p).2) m (by omega) (by omega)]
def xY (s:ByteArray) (p:Nat):Int:=vf s p s.size
theorem oddIdx_eq (s:ByteArray) (p:Nat):xY s p=if p<s.size then (if oddR (Utf8.decode s p).1 then (p:Int) else xY s (p+(Utf8.decode s p).2)) else -1:=by
 unfold xY
 rw [kC s s.size p (s.size+1) (by omega) (by omega)]
 rfl
theorem c_indexF (s:ByteArray):ACall Tryz.prog 151 [str s,.clo 140 [],boo true] [] (num (xY s 0)) []:=by
 refine zm mixed ttok Tryz.func151 Tryz.ntmps151 Tryz.results151 ?_
 generalize hr:num (xY s 0)=R
 simp -implicitDefEqProofs only [argT,↓zb,push_cast,simprocAttr,tte]
 refine jV mixed ttok (fun p:{p:Nat // xY s p=xY s 0}=>(⟨[(10,.itr 10),(1,.clo 140 []),(2,boo true)],[(10,.it s p.1)]⟩:SL)) (fun p=>s.size-p.1) ⟨0,rfl⟩ ?_ fun ⟨p,hp⟩=>?_
 ·exact Weak.keepL (by simp [ends]) (by simp [ends]) (by simp [ends])
 generalize hI:(fun p:{p:Nat // xY s p=xY s 0}=>(⟨[(10,.itr 10),(1,.clo 140 []),(2,boo true)],[(10,.it s p.1)]⟩:SL))=I
 rw [oddIdx_eq] at hp
 by_cases h:p<s.size
 ·rw [if_pos h] at hp
  simp -implicitDefEqProofs only [nextOf_lt h,↓zb,push_cast,simprocAttr,tte]
  refine zd [[0]] [] (c_text1 (Utf8.decode s p).1) ?_
  simp -implicitDefEqProofs only [↓zb,push_cast,simprocAttr,tte]
  refine za (fun g=>?_) fun g=>?_
  ·have g':oddR (Utf8.decode s p).1=true:=by simpa [jO] using g
   rw [g',if_pos rfl] at hp
   exact zk trivial (by rw [<-hr,<-hp];rfl) (by simp [ends])
  ·have g':oddR (Utf8.decode s p).1=false:=by simpa [jO] using g
   rw [g',if_neg (by decide)] at hp
   have:=dec_pos s p
   refine loopK_again (⟨p+(Utf8.decode s p).2,hp⟩:{p:Nat // xY s p=xY s 0}) (by show s.size-(p+(Utf8.decode s p).2)<s.size-p;omega) ?_ ?_ ?_<;>subst hI
   ·simp [ends]
   ·simp [ends]
   ·simp [ends]
 ·rw [if_neg h] at hp
  simp -implicitDefEqProofs only [nextOf_ge h,↓zb,push_cast,simprocAttr,tte]
  exact zk trivial (by rw [<-hr,<-hp];rfl) (by simp [ends])
theorem c_indexFunc (s:ByteArray):ACall Tryz.prog 139 [str s,.clo 140 []] [] (num (xY s 0)) []:=by
 refine zm mixed ttok Tryz.func139 Tryz.ntmps139 Tryz.results139 ?_
 generalize hr:num (xY s 0)=R
 simp -implicitDefEqProofs only [argT,↓zb,push_cast,simprocAttr,tte]
 refine zd [[0],[],[0]] [] (c_indexF s) ?_
 simp -implicitDefEqProofs only [↓zb,push_cast,simprocAttr,tte]
 exact zk trivial (by rw [<-hr];rfl) (by simp [ends])
def uQ (s:ByteArray):Bool:=decide (s.size<=24)&&decide (xY s 0<0)
theorem c_vtext (s:ByteArray):ACall Tryz.prog 124 [str s] [] (boo (uQ s)) []:=by
 refine zm mixed ttok Tryz.func124 Tryz.ntmps124 Tryz.results124 ?_
 generalize hr:boo (uQ s)=R
 have hM:decide ((s.size:Int)<=24)=decide (s.size<=24):=decide_eq_decide.2 (by omega)
 simp -implicitDefEqProofs only [argT,hM,↓zb,push_cast,simprocAttr,tte]
 refine za (fun h=>?_) fun h=>?_
 ·refine zd [[0],[]] [] (c_indexFunc s) ?_
  simp -implicitDefEqProofs only [↓zb,push_cast,simprocAttr,tte]
  exact zk trivial (by rw [<-hr,uQ,h,Bool.true_and];rfl) (by simp [ends])
 ·exact zk trivial (by rw [<-hr,uQ,h,Bool.false_and];rfl) (by simp [ends])
def zC (v:Val):Bool:=
 if v.kind=0 then (v.num==0)&&(v.text.toList==[])
 else if v.kind=1 then (decide (v.num≥ -1000000000000)&&decide (v.num<=1000000000000))&&(v.text.toList==[])
 else if v.kind=2 then ((v.num==0) || (v.num==1))&&(v.text.toList==[])
 else if v.kind=3 then (v.num==0)&&uQ v.text
 else false
theorem vh (v:Val):ACall Tryz.prog 105 [aV v] [] (boo (zC v)) []:=by
 refine zm mixed ttok Tryz.func105 Tryz.ntmps105 Tryz.results105 ?_
 generalize hr:boo (zC v)=R
 have he:(ByteArray.mk #[]).toList=[]:=by simp [ByteArray.toList_eq]
 simp -implicitDefEqProofs only [argT,he,↓zb,push_cast,simprocAttr,tte]
 refine za (fun k0=>?_) fun k0=>?_
 ·have hk:v.kind=0:=by simpa using k0
  have hM:zC v=((v.num==0)&&(v.text.toList==[])):=by rw [zC,if_pos hk]
  refine za (fun g=>?_) fun g=>?_
  ·exact zk trivial (by rw [<-hr,hM,g,Bool.true_and];rfl) (by simp [ends])
  ·exact zk trivial (by rw [<-hr,hM,g,Bool.false_and];rfl) (by simp [ends])
 have hk0: ¬v.kind=0:=by simpa using k0
 refine za (fun k1=>?_) fun k1=>?_
 ·have hk:v.kind=1:=by simpa using k1
  have hM:zC v=((decide (v.num≥ -1000000000000)&&decide (v.num<=1000000000000))&&(v.text.toList==[])):=by rw [zC,if_neg hk0,if_pos hk]
  refine za (fun g=>?_) fun g=>?_
  ·refine za (fun g2=>?_) fun g2=>?_
   ·exact zk trivial (by rw [<-hr,hM,g,g2,Bool.true_and,Bool.true_and];rfl) (by simp [ends])
   ·exact zk trivial (by rw [<-hr,hM,g,g2,Bool.true_and,Bool.false_and];rfl) (by simp [ends])
  ·exact zk trivial (by rw [<-hr,hM,g,Bool.false_and,Bool.false_and];rfl) (by simp [ends])
 have hk1: ¬v.kind=1:=by simpa using k1
 refine za (fun k2=>?_) fun k2=>?_
 ·have hk:v.kind=2:=by simpa using k2
  have hM:zC v=(((v.num==0) || (v.num==1))&&(v.text.toList==[])):=by rw [zC,if_neg hk0,if_neg hk1,if_pos hk]
  refine za (fun g=>?_) fun g=>?_
  ·exact zk trivial (by rw [<-hr,hM,g,Bool.true_or,Bool.true_and];rfl) (by simp [ends])
  ·refine za (fun g2=>?_) fun g2=>?_
   ·exact zk trivial (by rw [<-hr,hM,g,g2,Bool.false_or,Bool.true_and];rfl) (by simp [ends])
   ·exact zk trivial (by rw [<-hr,hM,g,g2,Bool.false_or,Bool.false_and];rfl) (by simp [ends])
 have hk2: ¬v.kind=2:=by simpa using k2
 refine za (fun k3=>?_) fun k3=>?_
 ·have hk:v.kind=3:=by simpa using k3
  have hM:zC v=((v.num==0)&&uQ v.text):=by rw [zC,if_neg hk0,if_neg hk1,if_neg hk2,if_pos hk]
  refine za (fun g=>?_) fun g=>?_
  ·refine zd [[0]] [] (c_vtext v.text) ?_
   simp -implicitDefEqProofs only [↓zb,push_cast,simprocAttr,tte]
   exact zk trivial (by rw [<-hr,hM,g,Bool.true_and];rfl) (by simp [ends])
  ·exact zk trivial (by rw [<-hr,hM,g,Bool.false_and];rfl) (by simp [ends])
 ·have hk3: ¬v.kind=3:=by simpa using k3
  have hM:zC v=false:=by rw [zC,if_neg hk0,if_neg hk1,if_neg hk2,if_neg hk3]
  exact zk trivial (by rw [<-hr,hM];rfl) (by simp [ends])
end
section
open Go.Am
attribute [local simp, local push_cast] num boo str ints aV aTab yC aS aT aC
def jo (s:ByteArray) (i:Nat):Int:=((s.data.getD i 0).toNat:Nat)
theorem get_byte (s:ByteArray) (i:Nat) (h:i<s.size):((s.get! i).toNat:Int)=jo s i:=by
 have h':i<s.data.size:=h
 show (((s.data[i]!).toNat:Nat):Int)=_
 rw [jo,Array.getD_eq_getD_getElem?,Array.getElem?_eq_getElem h',getElem!_pos s.data i h']
 rfl
theorem decode_low (s:ByteArray) (p:Nat) (h:(s.get! p).toNat<128):Utf8.decode s p=((s.get! p).toNat,1):=by
 unfold Utf8.decode
 simp only [Nat.add_zero]
 rw [if_pos h]
theorem decode_high (s:ByteArray) (p:Nat) (h: ¬(s.get! p).toNat<128):127<(Utf8.decode s p).1:=by
 unfold Utf8.decode
 simp only [Nat.add_zero]
 rw [if_neg h]
 repeat' split
 all_goals first | (simp [Utf8.runeError];done) | (simp only [Bool.and_eq_true,decide_eq_true_eq,ge_iff_le] at *;omega)
theorem oddR_high {c:Int} (h:126<c):oddR c=true:=by rw [oddR,decide_eq_true (by omega:c>126),Bool.or_true,Bool.true_or]
theorem oddFrom_neg (s:ByteArray): ∀(n p:Nat),s.size-p≤n→(vf s p n<0 ↔ ∀i,p≤i→i<s.size→oddR (jo s i)=false)
 | 0,p,h=>⟨fun _ i h1 h2=>by omega,fun _=>by show (-1:Int)<0;decide⟩
 | n+1,p,h=>by
   simp only [vf]
   by_cases hp:p<s.size
   ·rw [if_pos hp]
    by_cases hl:(s.get! p).toNat<128
    ·rw [decode_low s p hl]
     simp only []
     rw [get_byte s p hp]
     by_cases ho:oddR (jo s p)=true
     ·rw [if_pos ho]
      exact ⟨fun h=>by omega,fun h=>by rw [h p (Nat.le_refl _) hp] at ho;cases ho⟩
     ·rw [if_neg ho,oddFrom_neg s n (p+1) (by omega)]
      simp only [Bool.not_eq_true] at ho
      exact ⟨fun h i h1 h2=>if hi:i=p then hi ▸ ho else h i (by omega) h2,fun h i h1 h2=>h i (by omega) h2⟩
    ·have:=decode_high s p hl
     rw [if_pos (oddR_high (by omega))]
     refine ⟨fun h=>by omega,fun h=>?_⟩
     have h2:=h p (Nat.le_refl _) hp
     rw [<-get_byte s p hp,oddR_high (by omega)] at h2
     cases h2
   ·rw [if_neg hp]
    exact ⟨fun _ i h1 h2=>by omega,fun _=>by decide⟩
def jx (s:ByteArray):Bool:=(List.range s.size).all fun i=> !oddR (jo s i)
theorem textM_eq (s:ByteArray):uQ s=(decide (s.size<=24)&&jx s):=by
 have h:=oddFrom_neg s s.size 0 (by omega)
 rw [uQ]
 congr 1
 rw [Bool.eq_iff_iff,decide_eq_true_eq]
 show vf s 0 s.size<0 ↔ _
 rw [h,jx,all_range]
 exact ⟨fun h i hi=>by rw [h i (Nat.zero_le _) hi];rfl,fun h i _ hi=>by simpa using h i hi⟩
theorem jm (v:Val):ACall Tryz.prog 97 [aV v] [] (boo (zC v)) []:=by
 refine zm mixed ttok Tryz.func97 Tryz.ntmps97 Tryz.results97 ?_
 generalize hr:boo (zC v)=R
 have he:(ByteArray.mk #[]).toList=[]:=by simp [ByteArray.toList_eq]
 simp -implicitDefEqProofs only [argT,he,↓zb,push_cast,simprocAttr,tte]
 refine za (fun k0=>?_) fun k0=>?_
 ·have hk:v.kind=0:=by simpa using k0
  have hM:zC v=((v.num==0)&&(v.text.toList==[])):=by rw [zC,if_pos hk]
  refine za (fun g=>?_) fun g=>?_
  ·exact zk trivial (by rw [<-hr,hM,g,Bool.true_and];rfl) (by simp [ends])
  ·exact zk trivial (by rw [<-hr,hM,g,Bool.false_and];rfl) (by simp [ends])
 have hk0: ¬v.kind=0:=by simpa using k0
 refine za (fun k1=>?_) fun k1=>?_
 ·have hk:v.kind=1:=by simpa using k1
  have hM:zC v=((decide (v.num≥ -1000000000000)&&decide (v.num<=1000000000000))&&(v.text.toList==[])):=by rw [zC,if_neg hk0,if_pos hk]
  refine za (fun g=>?_) fun g=>?_
  ·refine za (fun g2=>?_) fun g2=>?_
   ·exact zk trivial (by rw [<-hr,hM,g,g2,Bool.true_and,Bool.true_and];rfl) (by simp [ends])
   ·exact zk trivial (by rw [<-hr,hM,g,g2,Bool.true_and,Bool.false_and];rfl) (by simp [ends])
  ·exact zk trivial (by rw [<-hr,hM,g,Bool.false_and,Bool.false_and];rfl) (by simp [ends])
 have hk1: ¬v.kind=1:=by simpa using k1
 refine za (fun k2=>?_) fun k2=>?_
 ·have hk:v.kind=2:=by simpa using k2
  have hM:zC v=(((v.num==0) || (v.num==1))&&(v.text.toList==[])):=by rw [zC,if_neg hk0,if_neg hk1,if_pos hk]
  refine za (fun g=>?_) fun g=>?_
  ·exact zk trivial (by rw [<-hr,hM,g,Bool.true_or,Bool.true_and];rfl) (by simp [ends])
  ·refine za (fun g2=>?_) fun g2=>?_
   ·exact zk trivial (by rw [<-hr,hM,g,g2,Bool.false_or,Bool.true_and];rfl) (by simp [ends])
   ·exact zk trivial (by rw [<-hr,hM,g,g2,Bool.false_or,Bool.false_and];rfl) (by simp [ends])
 have hk2: ¬v.kind=2:=by simpa using k2
 refine za (fun k3=>?_) fun k3=>?_
 ·have hk:v.kind=3:=by simpa using k3
  have hM:zC v=((v.num==0)&&(decide (v.text.size<=24)&&jx v.text)):=by rw [zC,if_neg hk0,if_neg hk1,if_neg hk2,if_pos hk,textM_eq]
  refine za (fun g1=>?_) fun g1=>?_
  ·have:(v.num==0)=false:=by simpa [bne] using g1
   exact zk trivial (by rw [<-hr,hM,this,Bool.false_and];rfl) (by simp [ends])
  have g1':(v.num==0)=true:=by simpa [bne] using g1
  refine za (fun g2=>?_) fun g2=>?_
  ·simp only [decide_eq_true_eq] at g2
   exact zk trivial (by rw [<-hr,hM,decide_eq_false (by omega: ¬v.text.size<=24),Bool.false_and,Bool.and_false];rfl) (by simp [ends])
  simp only [decide_eq_false_iff_not] at g2
  have hM2:zC v=jx v.text:=by rw [hM,g1',decide_eq_true (by omega:v.text.size<=24),Bool.true_and,Bool.true_and]
  refine yl mixed ttok 3 [1] [1] (by simp only [wH,ends,push_cast,simprocAttr];rfl) (by simp only [wI,ym,ends,push_cast,simprocAttr];rfl) v.text.size (fun n=> ∀i,i<n->(!oddR (jo v.text i))=true) (fun _=>[]) (fun _=>[]) (fun i h=>absurd h (Nat.not_lt_zero _)) ?_ ?_
  ·exact Weak.keepL (by simp [cst,ends]) (by simp [cst,ends]) (by simp [cst,ends])
  intro I hI n hn hi
  simp -implicitDefEqProofs only [cst,↓zb,push_cast,simprocAttr,tte]
  refine za (fun h=>?_) fun h=>?_
  ·simp only [decide_eq_true_eq] at h
   have h':n<v.text.size:=by omega
   have hw:=zw h' (by omega)
   have bad:oddR (jo v.text n)=true->zC v=false:=fun h=>by rw [hM2,jx,bad_range h' (by rw [h];rfl)]
   refine ⟨(by first | omega | trivial | (refine ⟨?_,?_⟩<;>first | omega | trivial | (refine ⟨?_,?_⟩<;>first | omega | trivial | (refine ⟨?_,?_⟩<;>first | omega | trivial | rfl)))),?_⟩
   generalize hcc:(((v.text.data.getD n 0).toNat:Nat):Int)=c
   have hcb:jo v.text n=c:=hcc
   rw [hcb] at bad
   refine za (fun g3=>?_) fun g3=>?_
   ·exact zk trivial (by rw [<-hr,bad (by rw [oddR,g3];rfl)];rfl) (by simp [ends])
   refine ⟨(by first | omega | trivial | (refine ⟨?_,?_⟩<;>first | omega | trivial | (refine ⟨?_,?_⟩<;>first | omega | trivial | (refine ⟨?_,?_⟩<;>first | omega | trivial | rfl)))),?_⟩
   refine za (fun g4=>?_) fun g4=>?_
   ·exact zk trivial (by rw [<-hr,bad (by rw [oddR,g3,g4];rfl)];rfl) (by simp [ends])
   refine ⟨(by first | omega | trivial | (refine ⟨?_,?_⟩<;>first | omega | trivial | (refine ⟨?_,?_⟩<;>first | omega | trivial | (refine ⟨?_,?_⟩<;>first | omega | trivial | rfl)))),?_⟩
   refine za (fun g5=>?_) fun g5=>?_
   ·exact zk trivial (by rw [<-hr,bad (by rw [oddR,g3,g4,g5];rfl)];rfl) (by simp [ends])
   ·exact yt hI n rfl h' (fun i h2=>if h3:i=n then by rw [h3,hcb,oddR,g3,g4,g5];rfl else hi i (by omega)) (by simp [hw,ends]) (by simp [hw,ends]) (by simp [hw,ends]) (by simp [hw,ends])
  ·simp only [decide_eq_false_iff_not] at h
   obtain rfl:n=v.text.size:=by omega
   exact zk trivial (by rw [<-hr,hM2,jx,all_range.2 hi];rfl) (by simp [ends])
 ·have hk3: ¬v.kind=3:=by simpa using k3
  have hM:zC v=false:=by rw [zC,if_neg hk0,if_neg hk1,if_neg hk2,if_neg hk3]
  exact zk trivial (by rw [<-hr,hM];rfl) (by simp [ends])
end
section
open Go.Am
attribute [local simp, local push_cast] num boo str ints aV aTab yC aS aT aC
theorem jk (e:Ex): ∀(l:List Ex) (n:Int),depthL n (l++[e])=(if xk e>depthL n l then xk e else depthL n l)
 | [],n=>by simp [depthL]
 | x::l,n=>by simp only [List.cons_append,depthL];exact jk e l _
theorem c_size: ∀e:Ex,Ok12 e->ACall Tryz.prog 109 [aE e] [] (num (we e)) []:=
 xj (p:=fun e=>Ok12 e->ACall Tryz.prog 109 [aE e] [] (num (we e)) []) fun e ih ho=>by
 refine zm mixed ttok Tryz.func109 Tryz.ntmps109 Tryz.results109 ?_
 generalize hr:num (we e)=R
 have hl:=ho.kids
 simp -implicitDefEqProofs only [argT,↓zb,push_cast,simprocAttr,tte]
 refine yl mixed ttok 9 [7,8] [] (by simp only [wH,ends,push_cast,simprocAttr];rfl) (by simp only [wI,ym,ends,push_cast,simprocAttr];rfl) e.kids.length (fun n=>sizeL (sizeL 1 (e.kids.take n)) (e.kids.drop n)=sizeL 1 e.kids) (fun n=>[(3,num (sizeL 1 (e.kids.take n)))]) (fun _=>[]) rfl ?_ ?_
 ·exact Weak.keepL (by simp [cst,sizeL,ends]) (by simp [cst,ends]) (by simp [cst,ends])
 intro I hI n hn hi
 simp -implicitDefEqProofs only [cst,↓zb,push_cast,simprocAttr,tte]
 refine za (fun h=>?_) fun h=>?_
 ·simp only [decide_eq_true_eq] at h
  have h':n<e.kids.length:=by omega
  have hw:=zw h' (by omega)
  have ht:=jP (e.kids.getD n default) (e.kids.take n) 1
  rw [<-yr _ _ h'] at ht
  refine ⟨(by first | omega | trivial | (refine ⟨?_,?_⟩<;>first | omega | trivial | (refine ⟨?_,?_⟩<;>first | omega | trivial | (refine ⟨?_,?_⟩<;>first | omega | trivial | rfl)))),?_⟩
  refine zd [[0,0,0,0,0,6]] [] (ih _ (zx h') (ho.kid (zx h'))) ?_
  simp -implicitDefEqProofs only [↓zb,push_cast,simprocAttr,tte]
  exact yt hI n rfl h' (by rw [yc _ n h',sizeL] at hi;rw [ht];exact hi) (by simp [hw,ht,ends]) (by simp [hw,ht,ends]) (by simp [hw,ht,ends]) (by simp [hw,ht,ends])
 ·simp only [decide_eq_false_iff_not] at h
  obtain rfl:n=e.kids.length:=by omega
  exact zk trivial (by rw [<-hr,sizeW_eq,List.take_length];rfl) (by simp [ends])
theorem c_depth: ∀e:Ex,Ok12 e->ACall Tryz.prog 110 [aE e] [] (num (xk e)) []:=
 xj (p:=fun e=>Ok12 e->ACall Tryz.prog 110 [aE e] [] (num (xk e)) []) fun e ih ho=>by
 refine zm mixed ttok Tryz.func110 Tryz.ntmps110 Tryz.results110 ?_
 generalize hr:num (xk e)=R
 have hl:=ho.kids
 simp -implicitDefEqProofs only [argT,↓zb,push_cast,simprocAttr,tte]
 refine yl mixed ttok 9 [7,8] [] (by simp only [wH,ends,push_cast,simprocAttr];rfl) (by simp only [wI,ym,ends,push_cast,simprocAttr];rfl) e.kids.length (fun n=>depthL (depthL 0 (e.kids.take n)) (e.kids.drop n)=depthL 0 e.kids) (fun n=>[(3,num (depthL 0 (e.kids.take n)))]) (fun _=>[]) rfl ?_ ?_
 ·exact Weak.keepL (by simp [cst,depthL,ends]) (by simp [cst,ends]) (by simp [cst,ends])
 intro I hI n hn hi
 simp -implicitDefEqProofs only [cst,↓zb,push_cast,simprocAttr,tte]
 refine za (fun h=>?_) fun h=>?_
 ·simp only [decide_eq_true_eq] at h
  have h':n<e.kids.length:=by omega
  have hw:=zw h' (by omega)
  have ht:=jk (e.kids.getD n default) (e.kids.take n) 0
  rw [<-yr _ _ h'] at ht
  refine ⟨(by first | omega | trivial | (refine ⟨?_,?_⟩<;>first | omega | trivial | (refine ⟨?_,?_⟩<;>first | omega | trivial | (refine ⟨?_,?_⟩<;>first | omega | trivial | rfl)))),?_⟩
  refine zd [[0,0,0,0,0,6]] [] (ih _ (zx h') (ho.kid (zx h'))) ?_
  simp -implicitDefEqProofs only [↓zb,push_cast,simprocAttr,tte]
  exact yt hI n rfl h' (by rw [yc _ n h',depthL] at hi;rw [ht];exact hi) (by simp [hw,ht,ends]) (by simp [hw,ht,ends]) (by simp [hw,ht,ends]) (by simp [hw,ht,ends])
 ·simp only [decide_eq_false_iff_not] at h
  obtain rfl:n=e.kids.length:=by omega
  exact zk trivial (by rw [<-hr,depthW_eq,List.take_length];rfl) (by simp [ends])
theorem c_rdepth: ∀e:Ex,Ok12 e->ACall Tryz.prog 112 [aE e] [] (num (xk e)) []:=
 xj (p:=fun e=>Ok12 e->ACall Tryz.prog 112 [aE e] [] (num (xk e)) []) fun e ih ho=>by
 refine zm mixed ttok Tryz.func112 Tryz.ntmps112 Tryz.results112 ?_
 generalize hr:num (xk e)=R
 have hl:=ho.kids
 simp -implicitDefEqProofs only [argT,↓zb,push_cast,simprocAttr,tte]
 refine yl mixed ttok 4 [1] [1] (by simp only [wH,ends,push_cast,simprocAttr];rfl) (by simp only [wI,ym,ends,push_cast,simprocAttr];rfl) e.kids.length (fun n=>depthL (depthL 0 (e.kids.take n)) (e.kids.drop n)=depthL 0 e.kids) (fun n=>[(3,num (depthL 0 (e.kids.take n)))]) (fun _=>[]) rfl ?_ ?_
 ·exact Weak.keepL (by simp [cst,depthL,ends]) (by simp [cst,ends]) (by simp [cst,ends])
 intro I hI n hn hi
 simp -implicitDefEqProofs only [cst,↓zb,push_cast,simprocAttr,tte]
 refine za (fun h=>?_) fun h=>?_
 ·simp only [decide_eq_true_eq] at h
  have h':n<e.kids.length:=by omega
  have hw:=zw h' (by omega)
  have ht:=jk (e.kids.getD n default) (e.kids.take n) 0
  rw [<-yr _ _ h'] at ht
  refine ⟨(by first | omega | trivial | (refine ⟨?_,?_⟩<;>first | omega | trivial | (refine ⟨?_,?_⟩<;>first | omega | trivial | (refine ⟨?_,?_⟩<;>first | omega | trivial | rfl)))),?_⟩
  refine zd [[0,0,0,0,0,6]] [] (ih _ (zx h') (ho.kid (zx h'))) ?_
  simp -implicitDefEqProofs only [↓zb,push_cast,simprocAttr,tte]
  exact yt hI n rfl h' (by rw [yc _ n h',depthL] at hi;rw [ht];exact hi) (by simp [hw,ht,ends]) (by simp [hw,ht,ends]) (by simp [hw,ht,ends]) (by simp [hw,ht,ends])
 ·simp only [decide_eq_false_iff_not] at h
  obtain rfl:n=e.kids.length:=by omega
  exact zk trivial (by rw [<-hr,depthW_eq,List.take_length];rfl) (by simp [ends])
theorem c_isType (k:Int):ACall Tryz.prog 133 [num k] [] (boo ((k==1 || k==2) || k==3)) []:=by
 refine zm mixed ttok Tryz.func133 Tryz.ntmps133 Tryz.results133 ?_
 generalize hr:boo ((k==1 || k==2) || k==3)=R
 simp -implicitDefEqProofs only [argT,↓zb,push_cast,simprocAttr,tte]
 refine za (fun h1=>?_) fun h1=>?_
 ·exact zk trivial (by rw [<-hr,h1,Bool.true_or,Bool.true_or];rfl) (by simp [ends])
 refine za (fun h2=>?_) fun h2=>?_
 ·exact zk trivial (by rw [<-hr,h1,h2,Bool.or_true,Bool.true_or];rfl) (by simp [ends])
 ·exact zk trivial (by rw [<-hr,h1,h2,Bool.or_false,Bool.false_or];rfl) (by simp [ends])
def opAt (op:Int):OpD:=opTab.getD op.toNat default
def isOp (op:Int):Bool:=decide (1<=op)&&decide (op<=28)
def ye (op:Int):OpD:=if isOp op then opAt op else default
def aOp (o:OpD):A:= .agg [.d (.lit (.string o.word)),.d (.lit (.int .i64 o.kids)),.d (.lit (.int .i64 o.types)),.d (.lit (.int .i64 o.own))]
theorem flat4: ∀(l:List OpD) (n j:Nat),j<4->n<l.length->(List.map A.d (l.map rOp).flatten)[n * 4+j]? =((rOp (l.getD n default)).map A.d)[j]?
 | [],n,j,hj,h=>by simp at h
 | o::l,0,j,hj,_=>by
   rw [List.map_cons,List.flatten_cons,List.map_append,Nat.zero_mul,Nat.zero_add,List.getElem?_append_left (by simpa [rOp] using hj)]
   rfl
 | o::l,n+1,j,hj,h=>by
   rw [List.map_cons,List.flatten_cons,List.map_append,List.getElem?_append_right (by simp [rOp];omega)]
   have:(n+1) * 4+j-(List.map A.d (rOp o)).length=n * 4+j:=by simp [rOp];omega
   rw [this,flat4 l n j hj (by simpa using h)]
   simp
theorem flat4_drop: ∀(l:List OpD) (n:Nat),n<l.length->((List.map A.d (l.map rOp).flatten).drop (n * 4)).take 4=(rOp (l.getD n default)).map A.d
 | [],n,h=>by simp at h
 | o::l,0,_=>by
   rw [List.map_cons,List.flatten_cons,List.map_append,Nat.zero_mul,List.drop_zero,List.take_append_of_le_length (by simp [rOp])]
   simp [rOp]
 | o::l,n+1,h=>by
   rw [List.map_cons,List.flatten_cons,List.map_append]
   have:(n+1) * 4=(List.map A.d (rOp o)).length+n * 4:=by simp [rOp];omega
   rw [this,List.drop_append]
   simp only [List.drop_eq_nil_of_le (Nat.le_add_right _ _),Nat.add_sub_cancel_left,List.nil_append]
   rw [flat4_drop l n (by simpa using h)]
   simp
theorem word_some: ∀n:Nat,1<=n->n<29->((opTab.getD n default).word.toList==[])=false:=by
 have h:(List.range 29).all (fun n=>decide (n=0) || !(opTab.getD n default).word.data.toList.isEmpty)=true:=by decide
 intro n h1 h2
 have:=all_range.1 h n h2
 rw [decide_eq_false (by omega),Bool.false_or] at this
 rw [ByteArray.toList_eq]
 cases hw:(opTab.getD n default).word.data.toList with
 | nil=>rw [hw] at this;cases this
 | cons _ _=>rfl
theorem c_ofind (op:Int):ACall Tryz.prog 115 [num op] [] (.tup [aOp (ye op),boo (isOp op)]) []:=by
 refine zm mixed ttok Tryz.func115 Tryz.ntmps115 Tryz.results115 ?_
 generalize hr:A.tup [aOp (ye op),boo (isOp op)]=R
 have he:(ByteArray.mk #[]).toList=[]:=by simp [ByteArray.toList_eq]
 by_cases ho:0<=op/\op<29
 ·obtain ⟨h0,h29⟩:=ho
  have h1:(List.map A.d opRow)[op.toNat * 4]? =some (.d (.lit (.string (opAt op).word))):=by
   have:=flat4 opTab op.toNat 0 (by omega) (by rw [kA];omega)
   rw [Nat.add_zero] at this
   exact this
  have h4:=flat4_drop opTab op.toNat (by rw [kA];omega)
  have h3:((List.map A.d opRow).drop (op.toNat * 4)).take 4=[.d (.lit (.string (opAt op).word)),.d (.lit (.int .i64 (opAt op).kids)),.d (.lit (.int .i64 (opAt op).types)),.d (.lit (.int .i64 (opAt op).own))]:=h4
  simp -implicitDefEqProofs only [argT,tab0,he,h1,h3,↓zb,push_cast,simprocAttr,tte]
  refine za (fun h=>absurd h (by simp;omega)) fun _=>za (fun h=>absurd h (by simp;omega)) fun _=>?_
  refine ⟨⟨h0,by omega⟩,?_⟩
  subst hr
  by_cases hz:op=0
  ·subst hz
   have hw:((opAt 0).word.toList==[])=true:=by rw [ByteArray.toList_eq];rfl
   refine za (fun _=>?_) fun h=>absurd h (by rw [hw];decide)
   refine zO [[0,0,0,0],[0]] rfl (by simp) (by simp [zc]<;>omega) ?_ (by first | rfl | simp [ends] | (subst_vars;simp [ends])) (by simp [ends]) (by simp [ends])
   rfl
  ·have hw:((opAt op).word.toList==[])=false:=word_some op.toNat (by omega) (by omega)
   refine za (fun h=>absurd h (by rw [hw];decide)) fun _=>?_
   have hy:isOp op=true:=by rw [isOp,decide_eq_true (by omega),decide_eq_true (by omega)];rfl
   have hlen:(List.map A.d opRow).length=116:=rfl
   refine ⟨⟨h0,by omega⟩,by rw [hlen];omega,?_⟩
   rw [ye,hy]
   refine zO [[0,0,0,0],[0]] rfl (by simp) (by simp [zc]<;>omega) ?_ (by first | rfl | simp [ends] | (subst_vars;simp [ends])) (by simp [ends]) (by simp [ends])
   rfl
 ·have hn:isOp op=false:=by
   rw [isOp,Bool.and_eq_false_iff,decide_eq_false_iff_not,decide_eq_false_iff_not];omega
  simp -implicitDefEqProofs only [argT,tab0,he,↓zb,push_cast,simprocAttr,tte]
  have hf:A.tup [aOp default,boo false]=R:=by rw [<-hr,ye,hn];rfl
  subst hf
  refine za (fun g=>?_) fun g=>?_
  ·refine zO [[0,0,0,0],[0]] rfl (by simp) (by simp [zc]<;>omega) ?_ (by first | rfl | simp [ends] | (subst_vars;simp [ends])) (by simp [ends]) (by simp [ends])
   rfl
  ·refine za (fun _=>?_) fun h=>absurd h (by simp at g;simp;omega)
   refine zO [[0,0,0,0],[0]] rfl (by simp) (by simp [zc]<;>omega) ?_ (by first | rfl | simp [ends] | (subst_vars;simp [ends])) (by simp [ends]) (by simp [ends])
   rfl
end
section
open Go.Am
attribute [local simp, local push_cast] num boo str ints aV aTab yC aS aT aC
def yf (e:Ex):Bool:=isOp e.op&&(((e.kids.length:Int)==(ye e.op).kids) || ((e.op==28)&&decide ((e.kids.length:Int)>(ye e.op).kids)))
theorem c_known (e:Ex):ACall Tryz.prog 98 [aE e] [] (.tup [aOp (ye e.op),boo (isOp e.op),boo (yf e)]) []:=by
 refine zm mixed ttok Tryz.func98 Tryz.ntmps98 Tryz.results98 ?_
 obtain ⟨c,hc⟩: ∃c,yf e=c:=⟨_,rfl⟩
 rw [hc]
 have hM:=hc
 rw [yf] at hM
 simp -implicitDefEqProofs only [argT,↓zb,push_cast,simprocAttr,tte]
 refine zd [[0]] [] (c_ofind e.op) ?_
 generalize ye e.op=o at hM ⊢
 simp -implicitDefEqProofs only [aOp,↓zb,push_cast,simprocAttr,tte]
 have fin: ∀b:Bool,b=c->A.tup [aOp o,boo (isOp e.op),boo b]=A.tup [aOp o,boo (isOp e.op),boo c]:=fun b h=>by rw [h]
 refine za (fun g=>?_) fun g=>?_
 ·rw [g,Bool.true_and] at hM
  refine za (fun g1=>?_) fun g1=>?_
  ·rw [g1,Bool.true_or] at hM
   refine ⟨zh (by kernel_rfl),?_⟩
   subst hM
   refine zO [[0,0,0,0],[0],[0]] rfl (by simp) (by simp [zc]<;>omega) ?_ (by first | rfl | simp [ends] | (subst_vars;simp [ends])) (by simp [ends]) (by simp [ends])
   simp only [g]
  ·rw [g1,Bool.false_or] at hM
   refine za (fun g2=>?_) fun g2=>?_
   ·rw [g2,Bool.true_and] at hM
    refine ⟨zh (by kernel_rfl),?_⟩
    subst hM
    refine zO [[0,0,0,0],[0],[0]] rfl (by simp) (by simp [zc]<;>omega) ?_ (by first | rfl | simp [ends] | (subst_vars;simp [ends])) (by simp [ends]) (by simp [ends])
    simp only [g]
   ·rw [g2,Bool.false_and] at hM
    refine ⟨zh (by kernel_rfl),?_⟩
    subst hM
    refine zO [[0,0,0,0],[0],[0]] rfl (by simp) (by simp [zc]<;>omega) ?_ (by first | rfl | simp [ends] | (subst_vars;simp [ends])) (by simp [ends]) (by simp [ends])
    simp only [g]
 ·rw [g,Bool.false_and] at hM
  refine ⟨zh (by kernel_rfl),?_⟩
  subst hM
  refine zO [[0,0,0,0],[0],[0]] rfl (by simp) (by simp [zc]<;>omega) ?_ (by first | rfl | simp [ends] | (subst_vars;simp [ends])) (by simp [ends]) (by simp [ends])
  simp only [g]
def okF (e:Ex):Bool:=
 if e.op=1 then ((e.type==1 || e.type==2) || e.type==3) else if e.op=2 then zC ⟨1,e.num,ByteArray.empty⟩ else if e.op=3 then zC ⟨2,e.num,ByteArray.empty⟩
 else if e.op=4 then zC ⟨3,0,e.text⟩ else true
def noT (e:Ex):Bool:=if e.op=1 then true else e.type==0
def noN (e:Ex):Bool:=if e.op=2 then true else if e.op=3 then true else e.num==0
def noX (e:Ex):Bool:=if e.op=4 then true else e.text.toList==[]
def noC (e:Ex):Bool:=if e.op=5 then true else e.col==0
def zQ (e:Ex):Bool:=(((okF e&&noT e)&&noN e)&&noX e)&&noC e
theorem c_clean (e:Ex):ACall Tryz.prog 132 [aE e] [] (boo (zQ e)) []:=by
 refine zm mixed ttok Tryz.func132 Tryz.ntmps132 Tryz.results132 ?_
 generalize hr:boo (zQ e)=R
 have he:(ByteArray.mk #[]).toList=[]:=by simp [ByteArray.toList_eq]
 have he2:ByteArray.empty.toList=[]:=by simp [ByteArray.toList_eq]
 have hh:(([]:List UInt8)==[])=true:=rfl
 have h00:((0:Int)==0)=true:=rfl
 simp -implicitDefEqProofs only [argT,he,hh,h00,↓zb,push_cast,simprocAttr,tte]
 refine za (fun k1=>?_) fun k1=>?_
 ·have hk:e.op=1:=by simpa using k1
  have hM:zQ e=((((((e.type==1 || e.type==2) || e.type==3)&&true)&&(e.num==0))&&(e.text.toList==[]))&&(e.col==0)):=by simp [zQ,okF,noT,noN,noX,noC,hk]
  refine zd [[0]] [] (c_isType e.type) ?_
  simp -implicitDefEqProofs only [he,hh,h00,↓zb,push_cast,simprocAttr,tte]
  repeat' first | (refine za (fun _=>?_) fun _=>?_) | exact zk trivial (by rw [<-hr,hM];simp only [*,Bool.true_and,Bool.and_true,Bool.false_and,boo]) (by simp [ends])
 refine za (fun k2=>?_) fun k2=>?_
 ·have hk:e.op=2:=by simpa using k2
  have hM:zQ e=((((zC ⟨1,e.num,ByteArray.empty⟩&&(e.type==0))&&true)&&(e.text.toList==[]))&&(e.col==0)):=by simp [zQ,okF,noT,noN,noX,noC,hk]
  refine zd [[0,0,0]] [] (vh ⟨1,e.num,ByteArray.empty⟩) ?_
  simp -implicitDefEqProofs only [he,he2,hh,h00,↓zb,push_cast,simprocAttr,tte]
  repeat' first | (refine za (fun _=>?_) fun _=>?_) | exact zk trivial (by rw [<-hr,hM];simp only [*,Bool.true_and,Bool.and_true,Bool.false_and,boo]) (by simp [ends])
 refine za (fun k3=>?_) fun k3=>?_
 ·have hk:e.op=3:=by simpa using k3
  have hM:zQ e=((((zC ⟨2,e.num,ByteArray.empty⟩&&(e.type==0))&&true)&&(e.text.toList==[]))&&(e.col==0)):=by simp [zQ,okF,noT,noN,noX,noC,hk]
  refine zd [[0,0,0]] [] (vh ⟨2,e.num,ByteArray.empty⟩) ?_
  simp -implicitDefEqProofs only [he,he2,hh,h00,↓zb,push_cast,simprocAttr,tte]
  repeat' first | (refine za (fun _=>?_) fun _=>?_) | exact zk trivial (by rw [<-hr,hM];simp only [*,Bool.true_and,Bool.and_true,Bool.false_and,boo]) (by simp [ends])
 refine za (fun k4=>?_) fun k4=>?_
 ·have hk:e.op=4:=by simpa using k4
  have hM:zQ e=((((zC ⟨3,0,e.text⟩&&(e.type==0))&&(e.num==0))&&true)&&(e.col==0)):=by simp [zQ,okF,noT,noN,noX,noC,hk]
  refine zd [[0,0,0]] [] (vh ⟨3,0,e.text⟩) ?_
  simp -implicitDefEqProofs only [he,he2,hh,h00,↓zb,push_cast,simprocAttr,tte]
  repeat' first | (refine za (fun _=>?_) fun _=>?_) | exact zk trivial (by rw [<-hr,hM];simp only [*,Bool.true_and,Bool.and_true,Bool.false_and,boo]) (by simp [ends])
 refine za (fun k5=>?_) fun k5=>?_
 ·have hk:e.op=5:=by simpa using k5
  have hM:zQ e=((((true&&(e.type==0))&&(e.num==0))&&(e.text.toList==[]))&&true):=by simp [zQ,okF,noT,noN,noX,noC,hk]
  repeat' first | (refine za (fun _=>?_) fun _=>?_) | exact zk trivial (by rw [<-hr,hM];simp only [*,Bool.true_and,Bool.and_true,Bool.false_and,boo]) (by simp [ends])
 have hk1: ¬e.op=1:=by simpa using k1
 have hk2: ¬e.op=2:=by simpa using k2
 have hk3: ¬e.op=3:=by simpa using k3
 have hk4: ¬e.op=4:=by simpa using k4
 have hk5: ¬e.op=5:=by simpa using k5
 have hM:zQ e=((((true&&(e.type==0))&&(e.num==0))&&(e.text.toList==[]))&&(e.col==0)):=by simp [zQ,okF,noT,noN,noX,noC,hk1,hk2,hk3,hk4,hk5]
 repeat' first | (refine za (fun _=>?_) fun _=>?_) | exact zk trivial (by rw [<-hr,hM];simp only [*,Bool.true_and,Bool.and_true,Bool.false_and,boo]) (by simp [ends])
end
end Go.Proofs.YtiagabnddihchaaGreatDoor
