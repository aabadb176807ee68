/- Made queries answer as specified (part Wm) -/
import Derived.Test.YtnmibokjpedkiaaGreatDoorWc
set_option maxRecDepth 100000
set_option maxHeartbeats 4000000
set_option linter.all false
namespace Go.Proofs.YtnmibokjpedkiaaGreatDoor
open Go.Am
section
attribute [local simp, local push_cast] Ta
def ww (xs:List Int):Prop:= ∀x∈xs,i64 x
def pos (p:Nat):Int:=p
def zR (xs:List Int) (p:Nat):Ob:= .var [.d (.sl 1 (zd rI xs)),.d (.lit (.int .i64 (pos p)))]
attribute [local simp, local push_cast] zR
def drawn (xs:List Int) (p:Nat) (n:Int):Int:=xs.getD p 0 % n
theorem zu (xs:List Int) (p:Nat) {n:Int} (hn:0<n):0<=drawn xs p n/\drawn xs p n<n:=
 ⟨Int.emod_nonneg _ Za,Int.emod_lt_of_pos _ hn⟩
theorem tmod_fix (a n:Int) (hn:0<n):(if a.tmod n<0 then a.tmod n+n else a.tmod n)=a % n:=by
 have h1:=Int.emod_nonneg a (show n≠0 from Za);have h2:=Int.emod_lt_of_pos a hn;have h3:=Int.tmod_eq_emod (a:=a) (b:=n);by_cases h:0<=a\/n ∣ a
 ·rw [if_pos h] at h3;rw [if_neg Za];omega
 ·rw [if_neg h] at h3;have h4:a % n≠0:=fun h5=>h (.inr (Int.dvd_of_emod_eq_zero h5));rw [if_pos Za];omega
theorem zS {xs:List Int} {n:Int} {p:Nat} (hx:ww xs) (hn:0<n) (hn2:n<=1000000) (hp:p<=4000000000000000000):
 ACall Tryz.prog 21 [.ptr 1000 0,num n] [(1000,zR xs p)] (num (drawn xs p n)) [(1000,zR xs (p+1))]:=by
 refine zn mixed ttok Tryz.func21 Tryz.ntmps21 Tryz.results21 ?_;generalize hr:num (drawn xs p n)=R;simp -implicitDefEqProofs only [argT,zR,rI,↓zb,push_cast,simprocAttr,tt];have hd:(default:Int)=0:=rfl;have e1:IntKind.i64.wrap (pos p+1)=pos (p+1):=by rw [pos,zt (by omega) (by omega)];rfl
 have e0:pos p=p:=rfl
 refine za (fun h0=>?_) fun h0=>?_
 ·exact absurd (Yd h0) Za
 refine ⟨ze Zg,?_⟩;refine za (fun h1=>?_) fun h1=>?_
 ·have h1':p<xs.length:=Zq h1;have e3:(pos p).toNat=p:=ZP e0;have hfix:=tmod_fix (xs.getD p 0) n hn;have hb1:=Int.emod_nonneg (xs.getD p 0) (show n≠0 from Za);have hb2:=Int.emod_lt_of_pos (xs.getD p 0) hn;refine ⟨⟨Za,Za⟩,Za,ze Zg,?_⟩;rw [hd,e3];refine za (fun h2=>?_) fun h2=>?_
  ·rw [if_pos (Yd h2)] at hfix;rw [zt (n:=(xs.getD p 0).tmod n+n) Za Za,hfix];rw [e1];refine zv [0] rfl Zd Zj ?_ Zk Zb Zb;rw [<-hr];rfl
  ·rw [if_neg (Yc h2)] at hfix;rw [hfix];rw [e1];refine zv [0] rfl Zd Zj ?_ Zk Zb Zb;rw [<-hr];rfl
 ·have h1':xs.length≤p:=Zp h1;rw [e1];refine zv [0] rfl Zd Zj ?_ Zk Zb Zb;rw [<-hr];simp [drawn,List.getElem?_eq_none h1']<;>rfl
end
section
attribute [local simp, local push_cast] Ta zR rS
def xu (l:ByteArray) (n:Int):ByteArray:=l++⟨#[UInt8.ofNat (IntKind.u8.wrap (IntKind.i64.wrap (48+n.tmod 10))).toNat]⟩
theorem c_mname (l:ByteArray) (n:Int) (hl:l.size<=1000):ACall Tryz.prog 28 [str l,num n] [] (str (xu l n)) []:=by
 refine zn mixed ttok Tryz.func28 Tryz.ntmps28 Tryz.results28 ?_;generalize hr:str (xu l n)=R;refine Zn ?_;have hb:(⟨#[UInt8.ofNat (IntKind.u8.wrap (IntKind.i64.wrap (48+n.tmod 10))).toNat]⟩:ByteArray).size=1:=rfl;refine ⟨Za,?_⟩;exact NA
def intsL:List Int:=[0,1,2, -1,5,7, -7,100,1000000000000, -1000000000000,999999999999,1000000]
def textsL:List ByteArray:=[⟨#[]⟩,⟨#[97]⟩,⟨#[98]⟩,⟨#[97,98]⟩,⟨#[48]⟩,⟨#[32]⟩,⟨#[97,98,99,100,101,102,103,104,105,106,107,108,109,110,111,112,113,114,115,116,117,118,119,120]⟩]
def mkI (n:Int):Val:=⟨1,n,ByteArray.empty⟩
def mkT (s:ByteArray):Val:=⟨3,0,s⟩
def yK (k:Int):List Val:=
 default::if k=1 then intsL.map mkI else if k=2 then [yg 0,yg 1] else if k=3 then textsL.map mkT else []
theorem mvalsM_len {k:Int} (hk:k=1\/k=2\/k=3):3<=(yK k).length/\(yK k).length<=13:=by
 rcases hk with rfl | rfl | rfl<;>decide
theorem NP{p:Prop}(h:p:=by
 refine ⟨⟨by omega,h⟩,h',⟨hl3.symm,by rw [hl3];omega⟩,?_⟩;exact zp hI n rfl h' trivial (ZF hw ht hl3 (Yt hn)) (ZF hw ht hl3 (Yt hn)) (ZF hw ht hl3 (Yt hn)) (ZF hw ht hl3 (Yt hn))):p:=h
theorem c_mvalues (k:Int):ACall Tryz.prog 54 [num k] [] (.d (.sl 3 (zd rV (yK k)))) []:=by
 refine zn mixed ttok Tryz.func54 Tryz.ntmps54 Tryz.results54 ?_;generalize hr:A.d (.sl 3 (zd rV (yK k)))=R;refine Zn ?_;refine za (fun h1=>?_) fun h1=>?_
 ·have h1':k=1:=Zc h1;refine zq mixed ttok 5 [] [] Zv Zw intsL.length (fun _=>True) (fun n=>[(3,.vec 9 (n+1)),(4,.vec 13 intsL.length)]) (fun n=>[(9,.vec 71 3 (zd rV (default::(intsL.take n).map mkI)) 0),(13,.vec 2 1 (zd rI intsL) 0)]) trivial ?_ ?_
  ·exact Ya (by simp [cst,intsL,ends]) (by simp [cst,intsL,zd,rI,rV,default,ends]) Zh
  intro I hI n hn hi;have hl0:intsL.length<=12:=Zi;have hl2:(default::(intsL.take n).map mkI).length=n+1:=Zt;have hl3:((intsL.take n).map mkI).length=n:=Zt;refine Zx ?_;refine za (fun h=>?_) fun h=>?_
  ·simp only [Yg] at h;have h':n<intsL.length:=Za;have hw:=zh h' Za;have ht:(intsL.take (n+1)).map mkI=(intsL.take n).map mkI++[⟨1,intsL.getD n default,ByteArray.empty⟩]:=by rw [zy _ _ h',YE];rfl
   refine ⟨⟨by omega,h⟩,h',⟨hl3.symm,by rw [hl3];omega⟩,?_⟩
   exact zp hI n rfl h' trivial (by simp [hw,ht,hl3,Nat.min_eq_left hn,zf,ends]) (by simp [hw,ht,hl3,Nat.min_eq_left hn,zf,ends]) (by simp [hw,ht,hl3,Nat.min_eq_left hn,zf,ends]) (by simp [hw,ht,hl3,Nat.min_eq_left hn,zf,ends])
  ·simp only [Ye] at h;obtain rfl:n=intsL.length:=Za;refine zv [3] rfl Zd Zj ?_ Zk Zb Zb;rw [<-hr,yK,if_pos h1',Yk]
 have h1': ¬k=1:=Zc h1;refine za (fun h2=>?_) fun h2=>?_
 ·have h2':k=2:=Zc h2;refine zg [[]] [] (vR 0) ?_;refine Zf ?_;refine zg [[]] [] (vR 1) ?_;refine Zf ?_;refine zv [3] rfl Zd Zj ?_ Zk Zb Zb;rw [<-hr,yK,if_neg h1',if_pos h2'];rfl
 have h2': ¬k=2:=Zc h2;refine za (fun h3=>?_) fun h3=>?_
 ·have h3':k=3:=Zc h3;refine zq mixed ttok 7 [] [] Zv Zw textsL.length (fun _=>True) (fun n=>[(3,.vec 9 (n+1)),(6,.vec 37 textsL.length)]) (fun n=>[(9,.vec 71 3 (zd rV (default::(textsL.take n).map mkT)) 0),(37,.vec 9 1 (zd rS textsL) 0)]) trivial ?_ ?_
  ·exact Ya (by simp [cst,textsL,ends]) (by simp [cst,textsL,zd,rS,rV,default,ends]) Zh
  intro I hI n hn hi;have hl0:textsL.length<=12:=Zi;have hl2:(default::(textsL.take n).map mkT).length=n+1:=Zt;have hl3:((textsL.take n).map mkT).length=n:=Zt;refine Zx ?_;refine za (fun h=>?_) fun h=>?_
  ·simp only [Yg] at h;have h':n<textsL.length:=Za;have hw:=zh h' Za;have ht:(textsL.take (n+1)).map mkT=(textsL.take n).map mkT++[⟨3,0,textsL.getD n default⟩]:=by rw [zy _ _ h',YE];rfl
   refine ⟨⟨by omega,h⟩,h',⟨hl3.symm,by rw [hl3];omega⟩,?_⟩
   exact zp hI n rfl h' trivial (by simp [hw,ht,hl3,Nat.min_eq_left hn,zf,ends]) (by simp [hw,ht,hl3,Nat.min_eq_left hn,zf,ends]) (by simp [hw,ht,hl3,Nat.min_eq_left hn,zf,ends]) (by simp [hw,ht,hl3,Nat.min_eq_left hn,zf,ends])
  ·simp only [Ye] at h;obtain rfl:n=textsL.length:=Za;refine zv [3] rfl Zd Zj ?_ Zk Zb Zb;rw [<-hr,yK,if_neg h1',if_neg h2',if_pos h3',Yk]
 have h3': ¬k=3:=Zc h3;refine zv [3] rfl Zd Zj ?_ Zk Zb Zb;rw [<-hr,yK,if_neg h1',if_neg h2',if_neg h3'];rfl
end
section
attribute [local simp, local push_cast] Ta zR
def u9 (xs:List Int) (k:Int) (nl:Bool) (p:Nat):Val:=
 if nl=true then (yK k).getD (drawn xs p (yK k).length).toNat default else (yK k).getD (1+drawn xs p ((yK k).length-1)).toNat default
theorem c_mvalue {xs:List Int} {k:Int} {nl:Bool} {p:Nat} (hx:ww xs) (hk:k=1\/k=2\/k=3) (hp:p<=4000000000000000000):
 ACall Tryz.prog 55 [.ptr 1000 0,num k,boo nl] [(1000,zR xs p)] (aV (u9 xs k nl p)) [(1000,zR xs (p+1))]:=by
 refine zn mixed ttok Tryz.func55 Tryz.ntmps55 Tryz.results55 ?_;generalize hr:aV (u9 xs k nl p)=R;refine Zn ?_;refine zg [[]] [] (c_mvalues k) ?_;have hl:=mvalsM_len hk;refine Zf ?_;refine za (fun h=>?_) fun h=>?_
 ·refine zg [[],[]] [(1000,1000)] (zS (n:=((yK k).length:Int)) (p:=p) hx Za Za hp) ?_;have hd:=zu xs p (n:=((yK k).length:Int)) Za;refine Zf ?_;refine ⟨Za,?_⟩;refine zv [0,0,0] rfl Zd Zj ?_ Zk Zb Zb;rw [<-hr,u9,if_pos h];rfl
 ·have e1:IntKind.i64.wrap (((yK k).length:Int)-1)=((yK k).length:Int)-1:=zt Za Za;simp only [e1];refine zg [[],[]] [(1000,1000)] (zS (n:=((yK k).length:Int)-1) (p:=p) hx Za Za hp) ?_;have hd:=zu xs p (n:=((yK k).length:Int)-1) Za;have e2:IntKind.i64.wrap (1+drawn xs p (((yK k).length:Int)-1))=1+drawn xs p (((yK k).length:Int)-1):=zt Za Za;simp -implicitDefEqProofs only [↓zb,push_cast,simprocAttr,tt,e2];refine ⟨Za,?_⟩;refine zv [0,0,0] rfl Zd Zj ?_ Zk Zb Zb;rw [<-hr,u9,if_neg (Z8 h)];rfl
def kj (v:Val) (t:Int):Ex:=
 if v.kind=1 then .mk 2 0 v.num ByteArray.empty 0 [] else if v.kind=2 then .mk 3 0 v.num ByteArray.empty 0 [] else if v.kind=3 then .mk 4 0 0 v.text 0 [] else .mk 1 t 0 ByteArray.empty 0 []
theorem c_rconst (v:Val) (t:Int):ACall Tryz.prog 92 [aV v,num t] [] (aE (kj v t)) []:=by
 refine zn mixed ttok Tryz.func92 Tryz.ntmps92 Tryz.results92 ?_;generalize hr:aE (kj v t)=R;refine Zn ?_;refine za (fun h=>?_) (fun h=>za (fun h2=>?_) (fun h2=>za (fun h3=>?_) (fun h3=>?_)))
 all_goals
  refine zv [0,0,0,0,0,6] rfl Zd Zj ?_ Zk Zb Zb;rw [<-hr];simp only [beq_iff_eq,YO] at *;simp [kj, *,yt,Ex.op,Ex.type,Ex.num,Ex.text,Ex.col,Ex.kids,zd]
def ql (types:List Int) (typ:Int) (n:Nat):List Int:=((List.range n).filter fun c=>types.getD c 0=typ).map fun (c:Nat)=>(c:Int)
def cols (types:List Int) (typ:Int):List Int:=ql types typ types.length
theorem colsU_succ (types:List Int) (typ:Int) (n:Nat):ql types typ (n+1)=if types.getD n 0=typ then ql types typ n++[(n:Int)] else ql types typ n:=by
 simp only [ql,U8,Uy,YE]
 split<;>rename_i h
 ·rw [UE (Zc h)];simp
 ·rw [Ur (Zc h)];simp
theorem colsU_length (types:List Int) (typ:Int) (n:Nat):(ql types typ n).length<=n:=by
 induction n with
 | zero=>simp [ql]
 | succ n ih=>rw [colsU_succ];split<;>(try simp only [Yb,Y5,Ui])<;>omega
def xg (xs types:List Int) (k:Int) (p:Nat):Ex×Nat:=
 if drawn xs p ((cols types k).length+2)<(cols types k).length then (.mk 5 0 0 ByteArray.empty ((cols types k).getD (drawn xs p ((cols types k).length+2)).toNat default) [],p+1)
 else (kj (u9 xs k true (p+1)) k,p+2)
theorem c_mpick {xs types:List Int} {k:Int} {p:Nat} (hx:ww xs) (ht:types.length<=1000) (hk:k=1\/k=2\/k=3) (hp:p<=3000000000000000000):
 ACall Tryz.prog 48 [.ptr 1000 0,ints types,num k] [(1000,zR xs p)] (aE (xg xs types k p).1) [(1000,zR xs (xg xs types k p).2)]:=by
 refine zn mixed ttok Tryz.func48 Tryz.ntmps48 Tryz.results48 ?_;generalize hr:aE (xg xs types k p).1=R;generalize hr2:zR xs (xg xs types k p).2=R2;refine Zn ?_;refine zq mixed ttok 8 [0,1,2,6] [6,1000] Zv Zw types.length (fun _=>True) (fun n=>[(7,.vec 500 (ql types k n).length)]) (fun n=>[(500,.vec 3 1 (zd rI (ql types k n)) 0)]) trivial ?_ ?_
 ·exact (YU 7 500 3 1 rfl rfl).trans (Ya (by simp [cst,ql,ends]) (by simp [cst,ql,zd,ends]) Zh)
 intro I hI n hn hi;have hl:=colsU_length types k n;have hs:=colsU_succ types k n;have hd0:(default:Int)=0:=rfl;refine Zx ?_;refine za (fun h=>?_) fun h=>?_
 ·simp only [Yg] at h;have h':n<types.length:=Za;have hw:=zh h' Za;refine ⟨Zs,?_⟩;refine za (fun g=>?_) fun g=>?_
  ·rw [hd0] at g;rw [if_pos (Zc g)] at hs;refine ⟨Za,?_⟩;exact zp hI n rfl h' trivial (by simp [hw,hs,zf,ends]) (by simp [hw,hs,zf,ends]) (by simp [hw,hs,zf,ends]) (by simp [hw,hs,zf,ends])
  ·rw [hd0] at g;rw [if_neg (Zc g)] at hs;exact zp hI n rfl h' trivial (Z0 hw hs) (Z0 hw hs) (Z0 hw hs) (Z0 hw hs)
 ·simp only [Ye] at h;obtain rfl:n=types.length:=Za;clear hI;rw [show ql types k types.length=cols types k from rfl] at hl ⊢;have e1:IntKind.i64.wrap (((cols types k).length:Int)+2)=((cols types k).length:Int)+2:=zt Za Za;simp only [e1];refine zg [[],[]] [(1000,1000)] (zS (n:=((cols types k).length:Int)+2) (p:=p) hx Za Za Za) ?_;have hd:=zu xs p (n:=((cols types k).length:Int)+2) Za;refine Zf ?_;refine za (fun g=>?_) fun g=>?_
  ·have g':=Yd g;refine ⟨⟨Za,Za⟩,Za,?_⟩
   refine zv [0,0,0,0,0,6] rfl (by simp) (by simp) ?_ (by first | simp [ends] | (subst_vars;simp [ends])) ?_ (by simp [ends])
   ·rw [<-hr,xg,if_pos g'];simp [yt,Ex.op,Ex.type,Ex.num,Ex.text,Ex.col,Ex.kids,zd]
   ·rw [<-hr2,xg,if_pos g'];simp [ends]
  ·have g':=Yc g;refine zg [[],[],[]] [(1000,1000)] (c_mvalue (k:=k) (nl:=true) (p:=p+1) hx hk Za) ?_
   simp -implicitDefEqProofs only [↓zb,push_cast,simprocAttr,tt]
   refine zg [[],[]] [] (c_rconst (u9 xs k true (p+1)) k) ?_
   simp -implicitDefEqProofs only [↓zb,push_cast,simprocAttr,tt]
   refine zv [0,0,0,0,0,6] rfl (by simp) (by simp) ?_ (by first | simp [ends] | (subst_vars;simp [ends])) ?_ (by simp [ends])
   ·rw [<-hr,xg,if_neg g'];simp [yt]
   ·rw [<-hr2,xg,if_neg g'];simp [ends]
theorem bq31:((3:Int)==1)=false:=rfl
theorem bq21:((2:Int)==1)=false:=rfl
theorem bq23:((2:Int)==3)=false:=rfl
attribute [local simp, local push_cast] bq31 bq21 bq23
theorem ret_ren {p:Prop} {a:A} {t:UL} {o os':UM} {R:A} (x y:Nat) (hp:p) (hxy:x≠y) (hx:x<1000) (hy:lookO o y=none) (hr:a.ren (zT x y)=R)
 (hc:R.closed (inO os')=true) (ho:keepO (lookO (renO x y o)) (inO os') os') (hin:keepIn (inO os') (renO x y o)):retx (some (p,a)) ⟨t,o⟩ R os':=by
 refine ⟨hp,?_⟩;have h1:=Weak.ren (t:=[(0,a)]) (o:=o) x y hxy hx hy;have h2:Weak (SL.mk (renT x y [(0,a)]) (renO x y o)).st (SL.mk [(0,R)] os').st:=Ya ⟨⟨by simp only [renT,lookT,if_true];exact hr,hc⟩,trivial⟩ ho hin;exact h1.trans h2
abbrev Kn (k:Int):Prop:=k=1\/k=2\/k=3
def bin (op:Int) (l:List Ex):Ex:= .mk op 0 0 ByteArray.empty 0 l
theorem uc (op:Int) (l:List Ex):aE (bin op l)= .agg [.d (.lit (.int .i64 op)),.d (.lit (.int .i64 0)),.d (.lit (.int .i64 0)),.d (.lit (.string ByteArray.empty)),.d (.lit (.int .i64 0)),.d (.sl 6 (zd rE l))]:=by
 simp [bin,yt,Ex.op,Ex.type,Ex.num,Ex.text,Ex.col,Ex.kids]
def twoM (f:Int->Nat->Ex×Nat) (x:Int) (p:Nat):List Ex×Nat:=([(f x p).1,(f x (f x p).2).1],(f x (f x p).2).2)
def yD (f:Int->Nat->Ex×Nat) (x:Int) (p:Nat):Nat->List Ex×Nat
 | 0=>([],p)
 | m+1=>((yD f x p m).1++[(f x (yD f x p m).2).1],(f x (yD f x p m).2).2)
def mkE (op:Int) (r:List Ex×Nat):Ex×Nat:=(bin op r.1,r.2)
def oneM (f:Int->Nat->Ex×Nat) (x:Int) (p:Nat):List Ex×Nat:=([(f x p).1],(f x p).2)
def yl (f:Int->Nat->Ex×Nat) (k:Int) (p:Nat):List Ex×Nat:=
 ([(f 2 p).1,(f k (f 2 p).2).1,(f k (f k (f 2 p).2).2).1],(f k (f k (f 2 p).2).2).2)
def inE (xs:List Int) (f:Int->Nat->Ex×Nat) (x:Int) (p:Nat):List Ex×Nat:=
 ((twoM f x p).1++(yD f x ((twoM f x p).2+1) (drawn xs (twoM f x p).2 3).toNat).1,(yD f x ((twoM f x p).2+1) (drawn xs (twoM f x p).2 3).toNat).2)
def qo (xs:List Int) (f:Int->Nat->Ex×Nat) (x:Int) (p:Nat):Ex×Nat:=
 if drawn xs p 6=0 then mkE (22+drawn xs (p+1) 2) (twoM f 2 (p+2))
 else if drawn xs p 6=1 then mkE (24+drawn xs (p+1) 2) (oneM f 2 (p+2))
 else if drawn xs p 6=2 then mkE 21 (oneM f x (p+1))
 else if drawn xs p 6=3 then mkE 28 (inE xs f x (p+1))
 else mkE (14+drawn xs (p+1) 7) (twoM f x (p+2))
def yn (xs types:List Int) (f:Int→Nat→Ex×Nat) (k:Int) (p:Nat):Ex×Nat:=
 if drawn xs p 4=0 then xg xs types k (p+1)
 else if drawn xs (p+1) 4=0 then mkE 26 (yl f k (p+2))
 else if drawn xs (p+1) 4=1 then mkE 27 (twoM f k (p+2))
 else if k=1 then
  if drawn xs (p+1) 4=2 then mkE (6+drawn xs (p+2) 5) (twoM f 1 (p+3))
  else if drawn xs (p+2) 2=0 then mkE 11 (oneM f 1 (p+3)) else mkE 13 (oneM f 3 (p+3))
 else if k=3 then mkE 12 (twoM f 3 (p+2))
 else qo xs f (1+drawn xs (p+2) 3) (p+3)
def ye (xs types:List Int):Nat->Int->Nat->Ex×Nat
 | 0,k,p=>xg xs types k p
 | 1,k,p=>xg xs types k p
 | d+2,k,p=>yn xs types (ye xs types (d+1)) k p
def CE (xs types:List Int) (D:Int) (f:Int->Nat->Ex×Nat) (w:Nat):Prop:=
 ∀(k:Int) (p:Nat),Kn k->p+w<=1000000000000000000->ACall Tryz.prog 19 [.ptr 1000 0,ints types,num k,num D] [(1000,zR xs p)] (aE (f k p).1) [(1000,zR xs (f k p).2)]
theorem c_two {xs types:List Int} {D:Int} {f:Int->Nat->Ex×Nat} {w p:Nat} {op x:Int} (hx:Kn x) (hD:2<=D) (hD2:D<=100) (H:CE xs types (D-1) f w) (hf: ∀k q,(f k q).2<=q+w) (hp:p+2 * w<=1000000000000000000):
 ACall Tryz.prog 49 [num op,num x,.ptr 1000 0,.ptr 1001 0,.ptr 1002 0] [(1000,.var [.ptr 1003 0]),(1001,.var [ints types]),(1002,.var [num D]),(1003,zR xs p)]
  (.agg [.d (.lit (.int .i64 op)),.d (.lit (.int .i64 0)),.d (.lit (.int .i64 0)),.d (.lit (.string ByteArray.empty)),.d (.lit (.int .i64 0)),.vec 1004 2])
  [(1000,.var [.ptr 1003 0]),(1001,.var [ints types]),(1002,.var [num D]),(1003,zR xs (twoM f x p).2),(1004,.vec 36 6 (zd rE (twoM f x p).1) 0)]:=by
 refine zn mixed ttok Tryz.func49 Tryz.ntmps49 Tryz.results49 ?_
 have hDw:IntKind.i64.wrap (D-1)=D-1:=zt (by omega) (by omega)
 have b1:=hf x p;have b2:=hf x (f x p).2;refine ZQ hDw ?_;refine zg [[],[1],[],[]] [(1000,1003)] (H x p hx Za) ?_;refine Zy hDw ?_;refine zg [[],[1],[],[]] [(1000,1003)] (H x (f x p).2 hx Za) ?_;refine Zf ?_;refine ⟨ze Zg,?_⟩;refine ret_ren 23 1004 trivial Zi Zi rfl (by simp [A.ren,renL,zT]) (by simp [A.closed,closedL,inO,lookO]) ?_ ?_
 ·simp [twoM,renO,Ob.ren,A.ren,renL,zT,y7,ends]
 ·simp [renO,zT,ends]
theorem ZN {p:Prop} (h:p:=by trivial):p:=h
theorem ZO {p:Prop} (h:p:=by first | simp [ends] | (subst_vars;simp [ends])):p:=h
theorem ZT {p:Prop} (h:p:=by simp [zc,twoM,yD]):p:=h
theorem Mi{p:Prop}(h:p:=by
 refine zv [0,0,0,0,0,6] rfl ZN ZT ?_ ZO ?_ Zb
 ·rw [<-hr,hM];simp [mkE,uc,oneM,twoM,yl,inE,y7,z6,zC]
 ·rw [<-hr2,hM];simp [mkE,oneM,twoM,yl,inE,ends]):p:=h
theorem NB{p:Prop}(h:p:=by
 refine Zf ?_;refine zv [0,0,0,0,0,6] rfl ZN ZT ?_ ZO ?_ Zb
 ·rw [<-hr,hM];simp [yt]
 ·rw [<-hr2,hM];simp [ends]):p:=h
theorem GY{p:Prop}(h:p:=by
 refine Zf ?_;refine ⟨ze Zg,?_⟩;exact Mi):p:=h
theorem c_mexpr3 {xs types:List Int} {D:Int} {f:Int->Nat->Ex×Nat} {w p:Nat} (hx:ww xs) (ht:types.length<=1000) (hD:2<=D) (hD2:D<=100) (H:CE xs types (D-1) f w) (hf: ∀k q,(f k q).2<=q+w)
 (hp:p+(10+5 * w)<=1000000000000000000):
 ACall Tryz.prog 19 [.ptr 1000 0,ints types,num 3,num D] [(1000,zR xs p)] (aE (yn xs types f 3 p).1) [(1000,zR xs (yn xs types f 3 p).2)]:=by
 refine zn mixed ttok Tryz.func19 Tryz.ntmps19 Tryz.results19 ?_
 generalize hr:aE (yn xs types f 3 p).1=R;generalize hr2:zR xs (yn xs types f 3 p).2=R2
 have hD1:decide (D<=1)=false:=decide_eq_false (by omega)
 have hDw:IntKind.i64.wrap (D-1)=D-1:=zt (by omega) (by omega)
 simp -implicitDefEqProofs only [argT,hD1,hDw,↓zb,push_cast,simprocAttr,tt]
 refine zg [[],[]] [(1000,1000)] (zS (n:=4) (p:=p) hx Za Za Za) ?_
 simp -implicitDefEqProofs only [hD1,hDw,↓zb,push_cast,simprocAttr,tt]
 refine za (fun h0=>?_) fun h0=>?_
 ·have h0':drawn xs p 4=0:=Zc h0;have hM:yn xs types f 3 p=xg xs types 3 (p+1):=by rw [yn,if_pos h0']
  refine zg [[],[1],[]] [(1000,1000)] (c_mpick (types:=types) (k:=3) (p:=p+1) hx ht Zi Za) ?_;exact NB
 have h0': ¬drawn xs p 4=0:=Zc h0;refine zg [[],[]] [(1000,1000)] (zS (n:=4) (p:=p+1) hx Za Za Za) ?_;refine Zy hDw ?_;have hn:=zu xs (p+1) (n:=4) Za;refine za (fun h1=>?_) fun h1=>?_
 ·have h1':drawn xs (p+1) 4=0:=Zc h1;have hM:yn xs types f 3 p=mkE 26 (yl f 3 (p+2)):=by rw [yn,if_neg h0',if_pos h1']
  have b1:=hf 2 (p+2);have b2:=hf 3 (f 2 (p+2)).2;have b3:=hf 3 (f 3 (f 2 (p+2)).2).2;refine zg [[],[1],[],[]] [(1000,1000)] (H 2 (p+2) Zi Za) ?_;refine Zy hDw ?_;refine zg [[],[1],[],[]] [(1000,1000)] (H 3 (f 2 (p+2)).2 Zi Za) ?_;refine Zy hDw ?_;refine zg [[],[1],[],[]] [(1000,1000)] (H 3 (f 3 (f 2 (p+2)).2).2 Zi Za) ?_;exact GY
 have h1': ¬drawn xs (p+1) 4=0:=Zc h1;refine za (fun h2=>?_) fun h2=>?_
 ·have h2':drawn xs (p+1) 4=1:=Zc h2;have hM:yn xs types f 3 p=mkE 27 (twoM f 3 (p+2)):=by rw [yn,if_neg h0',if_neg h1',if_pos h2']
  refine zg [[],[],[],[],[]] [(1000,4),(1001,5),(1002,7),(1003,1000),(1004,600)] (c_two (op:=27) (x:=3) (p:=p+2) Zi hD hD2 H hf Za) ?_;refine Zf ?_;exact Mi
 have h2': ¬drawn xs (p+1) 4=1:=Zc h2;have hM:yn xs types f 3 p=mkE 12 (twoM f 3 (p+2)):=by rw [yn,if_neg h0',if_neg h1',if_neg h2',if_neg (by decide),if_pos rfl]
 refine zg [[],[],[],[],[]] [(1000,4),(1001,5),(1002,7),(1003,1000),(1004,600)] (c_two (op:=12) (x:=3) (p:=p+2) Zi hD hD2 H hf Za) ?_;refine Zf ?_;exact Mi
end
section
attribute [local simp, local push_cast] Ta zR bq31 bq21 bq23
theorem c_mexpr1 {xs types:List Int} {D:Int} {f:Int->Nat->Ex×Nat} {w p:Nat} (hx:ww xs) (ht:types.length<=1000) (hD:2<=D) (hD2:D<=100) (H:CE xs types (D-1) f w) (hf: ∀k q,(f k q).2<=q+w)
 (hp:p+(10+5 * w)<=1000000000000000000):
 ACall Tryz.prog 19 [.ptr 1000 0,ints types,num 1,num D] [(1000,zR xs p)] (aE (yn xs types f 1 p).1) [(1000,zR xs (yn xs types f 1 p).2)]:=by
 refine zn mixed ttok Tryz.func19 Tryz.ntmps19 Tryz.results19 ?_
 generalize hr:aE (yn xs types f 1 p).1=R;generalize hr2:zR xs (yn xs types f 1 p).2=R2
 have hD1:decide (D<=1)=false:=decide_eq_false (by omega)
 have hDw:IntKind.i64.wrap (D-1)=D-1:=zt (by omega) (by omega)
 simp -implicitDefEqProofs only [argT,hD1,hDw,↓zb,push_cast,simprocAttr,tt]
 refine zg [[],[]] [(1000,1000)] (zS (n:=4) (p:=p) hx Za Za Za) ?_
 simp -implicitDefEqProofs only [hD1,hDw,↓zb,push_cast,simprocAttr,tt]
 refine za (fun h0=>?_) fun h0=>?_
 ·have h0':drawn xs p 4=0:=Zc h0;have hM:yn xs types f 1 p=xg xs types 1 (p+1):=by rw [yn,if_pos h0']
  refine zg [[],[1],[]] [(1000,1000)] (c_mpick (types:=types) (k:=1) (p:=p+1) hx ht Zi Za) ?_;exact NB
 have h0': ¬drawn xs p 4=0:=Zc h0;refine zg [[],[]] [(1000,1000)] (zS (n:=4) (p:=p+1) hx Za Za Za) ?_;refine Zy hDw ?_;have hn:=zu xs (p+1) (n:=4) Za;refine za (fun h1=>?_) fun h1=>?_
 ·have h1':drawn xs (p+1) 4=0:=Zc h1;have hM:yn xs types f 1 p=mkE 26 (yl f 1 (p+2)):=by rw [yn,if_neg h0',if_pos h1']
  have b1:=hf 2 (p+2);have b2:=hf 1 (f 2 (p+2)).2;have b3:=hf 1 (f 1 (f 2 (p+2)).2).2;refine zg [[],[1],[],[]] [(1000,1000)] (H 2 (p+2) Zi Za) ?_;refine Zy hDw ?_;refine zg [[],[1],[],[]] [(1000,1000)] (H 1 (f 2 (p+2)).2 Zi Za) ?_;refine Zy hDw ?_;refine zg [[],[1],[],[]] [(1000,1000)] (H 1 (f 1 (f 2 (p+2)).2).2 Zi Za) ?_;exact GY
 have h1': ¬drawn xs (p+1) 4=0:=Zc h1;refine za (fun h2=>?_) fun h2=>?_
 ·have h2':drawn xs (p+1) 4=1:=Zc h2;have hM:yn xs types f 1 p=mkE 27 (twoM f 1 (p+2)):=by rw [yn,if_neg h0',if_neg h1',if_pos h2']
  refine zg [[],[],[],[],[]] [(1000,4),(1001,5),(1002,7),(1003,1000),(1004,600)] (c_two (op:=27) (x:=1) (p:=p+2) Zi hD hD2 H hf Za) ?_;refine Zf ?_;exact Mi
 have h2': ¬drawn xs (p+1) 4=1:=Zc h2;have hS:yn xs types f 1 p=if drawn xs (p+1) 4=2 then mkE (6+drawn xs (p+2) 5) (twoM f 1 (p+3))
  else if drawn xs (p+2) 2=0 then mkE 11 (oneM f 1 (p+3)) else mkE 13 (oneM f 3 (p+3)):=by rw [yn,if_neg h0',if_neg h1',if_neg h2',if_pos rfl]
 refine za (fun h3=>?_) fun h3=>?_
 ·have h3':drawn xs (p+1) 4=2:=Zc h3;have hM:yn xs types f 1 p=mkE (6+drawn xs (p+2) 5) (twoM f 1 (p+3)):=by rw [hS,if_pos h3']
  refine zg [[],[]] [(1000,1000)] (zS (n:=5) (p:=p+2) hx Za Za Za) ?_;have h5:=zu xs (p+2) (n:=5) Za;have w6:IntKind.i64.wrap (6+drawn xs (p+2) 5)=6+drawn xs (p+2) 5:=zt Za Za;refine Zy w6 ?_;refine zg [[],[],[],[],[]] [(1000,4),(1001,5),(1002,7),(1003,1000),(1004,600)] (c_two (op:=6+drawn xs (p+2) 5) (x:=1) (p:=p+3) Zi hD hD2 H hf Za) ?_;refine Zf ?_;exact Mi
 have h3': ¬drawn xs (p+1) 4=2:=Zc h3;refine zg [[],[]] [(1000,1000)] (zS (n:=2) (p:=p+2) hx Za Za Za) ?_;refine Zy hDw ?_;refine za (fun h4=>?_) fun h4=>?_
 ·have h4':drawn xs (p+2) 2=0:=Zc h4;have hM:yn xs types f 1 p=mkE 11 (oneM f 1 (p+3)):=by rw [hS,if_neg h3',if_pos h4']
  refine zg [[],[1],[],[]] [(1000,1000)] (H 1 (p+3) Zi Za) ?_;refine Zf ?_;exact Mi
 have h4': ¬drawn xs (p+2) 2=0:=Zc h4;have hM:yn xs types f 1 p=mkE 13 (oneM f 3 (p+3)):=by rw [hS,if_neg h3',if_neg h4']
 refine zg [[],[1],[],[]] [(1000,1000)] (H 3 (p+3) Zi Za) ?_;refine Zf ?_;exact Mi
theorem gQ (f:Int->Nat->Ex×Nat) (x:Int) (p:Nat): ∀m,(yD f x p m).1.length=m
 | 0=>rfl
 | m+1=>by simp [yD,gQ f x p m]
theorem moreM_le {f:Int->Nat->Ex×Nat} {w:Nat} (hf: ∀k q,(f k q).2<=q+w) (x:Int) (p:Nat): ∀m,(yD f x p m).2<=p+m * w
 | 0=>by simp [yD]
 | m+1=>by
   have h1:=moreM_le hf x p m;have h2:=hf x (yD f x p m).2;simp only [yD,YY];omega
theorem c_mexpr2 {xs types:List Int} {D:Int} {f:Int->Nat->Ex×Nat} {w p:Nat} (hx:ww xs) (ht:types.length<=1000) (hD:2<=D) (hD2:D<=100) (H:CE xs types (D-1) f w) (hf: ∀k q,(f k q).2<=q+w)
 (hp:p+(10+5 * w)<=1000000000000000000):
 ACall Tryz.prog 19 [.ptr 1000 0,ints types,num 2,num D] [(1000,zR xs p)] (aE (yn xs types f 2 p).1) [(1000,zR xs (yn xs types f 2 p).2)]:=by
 refine zn mixed ttok Tryz.func19 Tryz.ntmps19 Tryz.results19 ?_
 generalize hr:aE (yn xs types f 2 p).1=R;generalize hr2:zR xs (yn xs types f 2 p).2=R2
 have hD1:decide (D<=1)=false:=decide_eq_false (by omega)
 have hDw:IntKind.i64.wrap (D-1)=D-1:=zt (by omega) (by omega)
 simp -implicitDefEqProofs only [argT,hD1,hDw,↓zb,push_cast,simprocAttr,tt]
 refine zg [[],[]] [(1000,1000)] (zS (n:=4) (p:=p) hx Za Za Za) ?_
 simp -implicitDefEqProofs only [hD1,hDw,↓zb,push_cast,simprocAttr,tt]
 refine za (fun h0=>?_) fun h0=>?_
 ·have h0':drawn xs p 4=0:=Zc h0;have hM:yn xs types f 2 p=xg xs types 2 (p+1):=by rw [yn,if_pos h0']
  refine zg [[],[1],[]] [(1000,1000)] (c_mpick (types:=types) (k:=2) (p:=p+1) hx ht Zi Za) ?_;exact NB
 have h0': ¬drawn xs p 4=0:=Zc h0;refine zg [[],[]] [(1000,1000)] (zS (n:=4) (p:=p+1) hx Za Za Za) ?_;refine Zy hDw ?_;have hn:=zu xs (p+1) (n:=4) Za;refine za (fun h1=>?_) fun h1=>?_
 ·have h1':drawn xs (p+1) 4=0:=Zc h1;have hM:yn xs types f 2 p=mkE 26 (yl f 2 (p+2)):=by rw [yn,if_neg h0',if_pos h1']
  have b1:=hf 2 (p+2);have b2:=hf 2 (f 2 (p+2)).2;have b3:=hf 2 (f 2 (f 2 (p+2)).2).2;refine zg [[],[1],[],[]] [(1000,1000)] (H 2 (p+2) Zi Za) ?_;refine Zy hDw ?_;refine zg [[],[1],[],[]] [(1000,1000)] (H 2 (f 2 (p+2)).2 Zi Za) ?_;refine Zy hDw ?_;refine zg [[],[1],[],[]] [(1000,1000)] (H 2 (f 2 (f 2 (p+2)).2).2 Zi Za) ?_;exact GY
 have h1': ¬drawn xs (p+1) 4=0:=Zc h1;refine za (fun h2=>?_) fun h2=>?_
 ·have h2':drawn xs (p+1) 4=1:=Zc h2;have hM:yn xs types f 2 p=mkE 27 (twoM f 2 (p+2)):=by rw [yn,if_neg h0',if_neg h1',if_pos h2']
  refine zg [[],[],[],[],[]] [(1000,4),(1001,5),(1002,7),(1003,1000),(1004,600)] (c_two (op:=27) (x:=2) (p:=p+2) Zi hD hD2 H hf Za) ?_;refine Zf ?_;exact Mi
 have h2': ¬drawn xs (p+1) 4=1:=Zc h2;have hS:yn xs types f 2 p=qo xs f (1+drawn xs (p+2) 3) (p+3):=by rw [yn,if_neg h0',if_neg h1',if_neg h2',if_neg (by decide),if_neg (by decide)]
 refine zg [[],[]] [(1000,1000)] (zS (n:=3) (p:=p+2) hx Za Za Za) ?_;have h3r:=zu xs (p+2) (n:=3) Za;have w1:IntKind.i64.wrap (1+drawn xs (p+2) 3)=1+drawn xs (p+2) 3:=zt Za Za;refine Zy w1 ?_;generalize hxx:1+drawn xs (p+2) 3=x at hS;have hKx:Kn x:=by unfold Kn;omega
 refine zg [[],[]] [(1000,1000)] (zS (n:=6) (p:=p+3) hx Za Za Za) ?_;refine Zy hDw ?_;refine za (fun h3=>?_) fun h3=>?_
 ·have h3':drawn xs (p+3) 6=0:=Zc h3;have hM:yn xs types f 2 p=mkE (22+drawn xs (p+4) 2) (twoM f 2 (p+5)):=by rw [hS,qo,if_pos h3']
  refine zg [[],[]] [(1000,1000)] (zS (n:=2) (p:=p+4) hx Za Za Za) ?_;have h5:=zu xs (p+4) (n:=2) Za;have w6:IntKind.i64.wrap (22+drawn xs (p+4) 2)=22+drawn xs (p+4) 2:=zt Za Za;refine Zy w6 ?_;refine zg [[],[],[],[],[]] [(1000,4),(1001,5),(1002,7),(1003,1000),(1004,600)] (c_two (op:=22+drawn xs (p+4) 2) (x:=2) (p:=p+5) Zi hD hD2 H hf Za) ?_;refine Zf ?_;exact Mi
 have h3': ¬drawn xs (p+3) 6=0:=Zc h3;refine za (fun h4=>?_) fun h4=>?_
 ·have h4':drawn xs (p+3) 6=1:=Zc h4;have hM:yn xs types f 2 p=mkE (24+drawn xs (p+4) 2) (oneM f 2 (p+5)):=by rw [hS,qo,if_neg h3',if_pos h4']
  refine zg [[],[]] [(1000,1000)] (zS (n:=2) (p:=p+4) hx Za Za Za) ?_;have h5:=zu xs (p+4) (n:=2) Za;obtain h6 | h6:drawn xs (p+4) 2=0\/drawn xs (p+4) 2=1:=Za
  all_goals
   simp -implicitDefEqProofs only [hDw,h6,↓zb,push_cast,simprocAttr,tt]
   refine zg [[],[1],[],[]] [(1000,1000)] (H 2 (p+5) Zi Za) ?_
   simp -implicitDefEqProofs only [↓zb,push_cast,simprocAttr,tt]
   refine ⟨ze (by kernel_rfl),?_⟩
   rw [h6] at hM
   exact Mi
 have h4': ¬drawn xs (p+3) 6=1:=Zc h4;refine za (fun h5=>?_) fun h5=>?_
 ·have h5':drawn xs (p+3) 6=2:=Zc h5;have hM:yn xs types f 2 p=mkE 21 (oneM f x (p+4)):=by rw [hS,qo,if_neg h3',if_neg h4',if_pos h5']
  refine zg [[],[1],[],[]] [(1000,1000)] (H x (p+4) hKx Za) ?_;refine Zf ?_;exact Mi
 have h5': ¬drawn xs (p+3) 6=2:=Zc h5;refine za (fun h6=>?_) fun h6=>?_
 ·have h6':drawn xs (p+3) 6=3:=Zc h6;have hM:yn xs types f 2 p=mkE 28 (inE xs f x (p+4)):=by rw [hS,qo,if_neg h3',if_neg h4',if_neg h5',if_pos h6']
  refine zg [[],[],[],[],[]] [(1000,4),(1001,5),(1002,7),(1003,1000),(1004,600)] (c_two (op:=28) (x:=x) (p:=p+4) hKx hD hD2 H hf Za) ?_;have b0:(twoM f x (p+4)).2<=p+4+2 * w:=by have:=hf x (p+4);have:=hf x (f x (p+4)).2;simp only [twoM];omega
  refine Zf ?_;have hI0:inE xs f x (p+4)=((twoM f x (p+4)).1++(yD f x ((twoM f x (p+4)).2+1) (drawn xs (twoM f x (p+4)).2 3).toNat).1,(yD f x ((twoM f x (p+4)).2+1) (drawn xs (twoM f x (p+4)).2 3).toNat).2):=rfl;have hl2:(twoM f x (p+4)).1.length=2:=rfl;generalize (twoM f x (p+4)).2=q at b0 hI0 ⊢;generalize (twoM f x (p+4)).1=l2 at hl2 hI0 ⊢;refine zg [[],[]] [(1000,1000)] (zS (n:=3) (p:=q) hx Za Za Za) ?_;have h9:=zu xs q (n:=3) Za;obtain ⟨N,hN⟩: ∃N:Nat,drawn xs q 3=N:=⟨(drawn xs q 3).toNat,Za⟩
  have hN2:N<=2:=Za;refine Zy hN ?_;rw [hN,YA] at hI0;refine zx mixed ttok (fun m:Nat=>(⟨[(16,.d (.lit (.int .i64 ((N:Int)-(m:Int))))),(13,.d (.lit (.int .i64 x))),(15,.ptr 15 0),(4,.ptr 4 0),(5,.ptr 5 0),(7,.ptr 7 0),(8,.ptr 8 0)],
   [(4,.var [.ptr 1000 0]),(5,.var [ints types]),(7,.var [num D]),(8,.var [.d (.lit (.int .i64 0)),.d (.lit (.int .i64 0)),.d (.lit (.int .i64 0)),.d (.lit (.string ByteArray.empty)),.d (.lit (.int .i64 0)),.snil]),
    (15,.var [.d (.lit (.int .i64 28)),.d (.lit (.int .i64 0)),.d (.lit (.int .i64 0)),.d (.lit (.string ByteArray.empty)),.d (.lit (.int .i64 0)),.vec 600 (2+m)]),
    (600,.vec 36 6 (zd rE (l2++(yD f x (q+1) m).1)) 0),(1000,zR xs (yD f x (q+1) m).2)]⟩:SL)) (fun m=>N-m) (fun m=>m<=N) 0 (Yj _) ?_ ?_
  ·exact Ya Zb (by simp [yD,ends]) Zb
  intro I hI m hm;have bm:=moreM_le hf x (q+1) m;have hml:=gQ f x (q+1) m;have hmw:m * w<=2 * w:=YJ _ Za;have hlen:(l2++(yD f x (q+1) m).1).length=2+m:=by simp [hl2,hml]
  refine Zy hDw ?_;refine za (fun k1=>?_) fun k1=>?_
  ·have k1':m<N:=Zq k1;refine zg [[],[1],[],[]] [(1000,1000)] (H x (yD f x (q+1) m).2 hKx Za) ?_
   simp -implicitDefEqProofs only [↓zb,push_cast,simprocAttr,tt]
   have hw:IntKind.i64.wrap ((N:Int)-(m:Int)-1)=(N:Int)-((m+1:Nat):Int):=Z9;refine ⟨⟨Za,Za⟩,ze Zg,?_⟩;refine zi hI (m+1) k1' Zl (Ya (Ze hw) ?_ Zb);simp [yD,hml,hl2,y7,zf,z6,zC,Y6,ends]
  ·have k1':m=N:=Zp k1;subst k1';refine zv [0,0,0,0,0,6] rfl ZN (by simp [zc,hml,hl2]) ?_ ZO ?_ Zb
   ·rw [<-hr,hM,hI0];simp [mkE,uc]
   ·rw [<-hr2,hM,hI0];simp [mkE,ends]
 have h6': ¬drawn xs (p+3) 6=3:=Zc h6;have hM:yn xs types f 2 p=mkE (14+drawn xs (p+4) 7) (twoM f x (p+5)):=by rw [hS,qo,if_neg h3',if_neg h4',if_neg h5',if_neg h6']
 refine zg [[],[]] [(1000,1000)] (zS (n:=7) (p:=p+4) hx Za Za Za) ?_;have h7:=zu xs (p+4) (n:=7) Za;have w6:IntKind.i64.wrap (14+drawn xs (p+4) 7)=14+drawn xs (p+4) 7:=zt Za Za;refine Zy w6 ?_;refine zg [[],[],[],[],[]] [(1000,4),(1001,5),(1002,7),(1003,1000),(1004,600)] (c_two (op:=14+drawn xs (p+4) 7) (x:=x) (p:=p+5) hKx hD hD2 H hf Za) ?_;refine Zf ?_;exact Mi
def wE:Nat->Nat
 | 0=>2
 | 1=>2
 | d+2=>10+5 * wE (d+1)
theorem pickE_le (xs types:List Int) (k:Int) (p:Nat):(xg xs types k p).2<=p+2:=by unfold xg;split<;>simp
theorem stepM_le {xs types:List Int} {f:Int->Nat->Ex×Nat} {w:Nat} (hw:2<=w) (hf: ∀k q,(f k q).2<=q+w) (k:Int) (p:Nat):(yn xs types f k p).2<=p+(10+5 * w):=by
 have h1: ∀x q,(twoM f x q).2<=q+2 * w:=fun x q=>by have:=hf x q;have:=hf x (f x q).2;simp only [twoM];omega
 have h2: ∀x q,(oneM f x q).2<=q+w:=fun x q=>by have:=hf x q;simp only [oneM];omega
 have h3: ∀x q,(yl f x q).2<=q+3 * w:=fun x q=>by have:=hf 2 q;have:=hf x (f 2 q).2;have:=hf x (f x (f 2 q).2).2;simp only [yl];omega
 have h4: ∀x q,(inE xs f x q).2<=q+1+4 * w:=fun x q=>by
  have a1:=h1 x q;have a2:=moreM_le hf x ((twoM f x q).2+1) (drawn xs (twoM f x q).2 3).toNat;have a3:=zu xs (twoM f x q).2 (n:=3) Za;have a4:(drawn xs (twoM f x q).2 3).toNat * w<=2 * w:=YJ _ Za;simp only [inE];omega
 have h5: ∀x q,(qo xs f x q).2<=q+2+4 * w:=fun x q=>by
  have b1:=h1 2 (q+2);have b2:=h2 2 (q+2);have b3:=h2 x (q+1);have b4:=h4 x (q+1);have b5:=h1 x (q+2);unfold qo;repeat' split
  all_goals simp only [mkE];omega
 have c1:=pickE_le xs types k (p+1);have c2:=h3 k (p+2);have c3:=h1 k (p+2);have c4:=h1 1 (p+3);have c5:=h2 1 (p+3);have c6:=h2 3 (p+3);have c7:=h1 3 (p+2);have c8:=h5 (1+drawn xs (p+2) 3) (p+3);unfold yn;repeat' split
 all_goals (try simp only [mkE]);omega
theorem wE_two: ∀d,2<=wE d
 | 0=>by simp [wE]
 | 1=>by simp [wE]
 | d+2=>by simp only [wE];omega
theorem jX (xs types:List Int): ∀(d:Nat) (k:Int) (p:Nat),(ye xs types d k p).2<=p+wE d
 | 0,k,p=>pickE_le xs types k p
 | 1,k,p=>pickE_le xs types k p
 | d+2,k,p=>stepM_le (wE_two _) (jX xs types (d+1)) k p
theorem qJ {xs types:List Int} (hx:ww xs) (ht:types.length<=1000): ∀d:Nat,d<=90->CE xs types (d+1:Nat) (ye xs types (d+1)) (wE (d+1))
 | 0,_=>by
   intro k p hk hp
   have hp:p+2<=1000000000000000000:=hp
   refine zn mixed ttok Tryz.func19 Tryz.ntmps19 Tryz.results19 ?_
   generalize hr:aE (ye xs types 1 k p).1=R;generalize hr2:zR xs (ye xs types 1 k p).2=R2
   have hD1:decide (((0+1:Nat):Int)<=1)=true:=rfl
   have hD1':decide ((0+1:Int)<=1)=true:=rfl
   simp -implicitDefEqProofs only [argT,hD1,hD1',↓zb,push_cast,simprocAttr,tt]
   refine zg [[],[1],[]] [(1000,1000)] (c_mpick (types:=types) (k:=k) (p:=p) hx ht hk Za) ?_
   simp -implicitDefEqProofs only [↓zb,push_cast,simprocAttr,tt]
   have hM:ye xs types 1 k p=xg xs types k p:=rfl
   refine zv [0,0,0,0,0,6] rfl (by simp) (by simp) ?_ (by first | simp [ends] | (subst_vars;simp [ends])) ?_ (by simp [ends])
   ·rw [<-hr,hM];simp [yt]
   ·rw [<-hr2,hM];simp [ends]
 | d+1,hd=>by
   intro k p hk hp
   have ih:=qJ hx ht d Za;rw [show ((d+1:Nat):Int)=((d+1+1:Nat):Int)-1 from Za] at ih;have hp:p+(10+5 * wE (d+1))<=1000000000000000000:=hp;rcases hk with rfl | rfl | rfl
   ·exact c_mexpr1 hx ht Za Za ih (jX xs types (d+1)) hp
   ·exact c_mexpr2 hx ht Za Za ih (jX xs types (d+1)) hp
   ·exact c_mexpr3 hx ht Za Za ih (jX xs types (d+1)) hp
end
section
attribute [local simp, local push_cast] Ta zR bq31 bq21 bq23 rIs yd
abbrev nT:ByteArray:=⟨#[116]⟩
abbrev nC:ByteArray:=⟨#[99]⟩
abbrev nF:ByteArray:=⟨#[102]⟩
abbrev nId:ByteArray:=⟨#[105,100]⟩
def mcol (xs:List Int) (p c:Nat):Col:=⟨xu nC c,1+drawn xs (p+2 * c) 3,drawn xs (p+2 * c+1) 2==0⟩
def uT (xs:List Int) (p c:Nat):List Col:=⟨nId,1,false⟩::(List.range c).map (mcol xs p)
theorem mcols_succ (xs:List Int) (p c:Nat):uT xs p (c+1)=uT xs p c++[mcol xs p c]:=by simp [uT,U8]
theorem gT (xs:List Int) (p c:Nat):(uT xs p c).length=c+1:=by simp [uT]
def fcol (xs:List Int) (k q:Nat):Col:=⟨xu nF k,1,drawn xs (q+1) 4==0⟩
def ffk (xs:List Int) (i:Nat) (cols:List Col) (q:Nat):Fk:=⟨[(cols.length:Int)],xu nT (drawn xs (q+2) i)⟩
def forM (xs:List Int) (i:Nat):Nat→Nat→List Col→List Fk→Nat→List Col×List Fk×Nat
 | 0,_,cols,fs,q=>(cols,fs,q)
 | m+1,k,cols,fs,q=>
   if i=0 then (cols,fs,q) else if drawn xs q 3>0 then forM xs i m (k+1) (cols++[fcol xs k q]) (fs++[ffk xs i cols q]) (q+3) else (cols,fs,q+1)
def uniM (xs:List Int) (m:Int) (q:Nat):List (List Int)×Nat:=if drawn xs q 4=0 then ([[1+drawn xs (q+1) m]],q+2) else ([],q+1)
def chkM (xs:List Int) (cols:List Col) (q:Nat):List Ex×Nat:=
 if drawn xs q 4=0 then ([(ye xs (cols.map (·.type)) 3 2 (q+1)).1],(ye xs (cols.map (·.type)) 3 2 (q+1)).2) else ([],q+1)
def x9 (xs:List Int) (i:Nat) (m:Int) (f:List Col×List Fk×Nat):Tbl×Nat:=
 (⟨xu nT i,f.1,[0],(uniM xs m f.2.2).1,f.2.1,(chkM xs f.1 (uniM xs m f.2.2).2).1⟩,(chkM xs f.1 (uniM xs m f.2.2).2).2)
def tblM (xs:List Int) (i p:Nat):Tbl×Nat:=
 x9 xs i (1+drawn xs p 3) (forM xs i 2 0 (uT xs (p+1) (1+drawn xs p 3).toNat) [] (p+1+2 * (1+drawn xs p 3).toNat))
def xM (xs:List Int) (p:Nat):Nat->List Tbl×Nat
 | 0=>([],p+1)
 | n+1=>((xM xs p n).1++[(tblM xs n (xM xs p n).2).1],(tblM xs n (xM xs p n).2).2)
def xe (xs:List Int) (p:Nat):List Tbl×Nat:=xM xs p (1+drawn xs p 3).toNat
theorem mtabs_len (xs:List Int) (p:Nat): ∀n,(xM xs p n).1.length=n
 | 0=>rfl
 | n+1=>by simp [xM,mtabs_len xs p n]
structure ForOk (m k:Nat) (cols:List Col) (fs:List Fk):Prop where
 c:cols.length<=m+1+k
 f:fs.length=k
theorem forM_q (xs:List Int) (i:Nat): ∀(n k:Nat) (cols:List Col) (fs:List Fk) (q:Nat),(forM xs i n k cols fs q).2.2<=q+3 * n
 | 0,_,_,_,q=>by simp [forM]
 | n+1,k,cols,fs,q=>by
   simp only [forM]
   split
   ·simp
   ·split
    ·have:=forM_q xs i n (k+1) (cols++[fcol xs k q]) (fs++[ffk xs i cols q]) (q+3);omega
    ·simp only;omega
theorem uniM_q (xs:List Int) (m:Int) (q:Nat):(uniM xs m q).2<=q+2:=by unfold uniM;split<;>simp
theorem chkM_q (xs:List Int) (cols:List Col) (q:Nat):(chkM xs cols q).2<=q+200:=by
 unfold chkM;split
 ·have:=jX xs (cols.map (·.type)) 3 2 (q+1);simp only [wE] at this;simp only;omega
 ·simp
theorem tblM_q (xs:List Int) (i p:Nat):(tblM xs i p).2<=p+300:=by
 have h3:=zu xs p (n:=3) Za;have h1:=forM_q xs i 2 0 (uT xs (p+1) (1+drawn xs p 3).toNat) [] (p+1+2 * (1+drawn xs p 3).toNat);unfold tblM;generalize forM xs i 2 0 (uT xs (p+1) (1+drawn xs p 3).toNat) [] (p+1+2 * (1+drawn xs p 3).toNat)=f at h1 ⊢;simp only [x9];have h2:=uniM_q xs (1+drawn xs p 3) f.2.2;have h4:=chkM_q xs f.1 (uniM xs (1+drawn xs p 3) f.2.2).2;omega
theorem mtabs_q (xs:List Int) (p:Nat): ∀n,(xM xs p n).2<=p+1+300 * n
 | 0=>by simp [xM]
 | n+1=>by have h1:=mtabs_q xs p n;have h2:=tblM_q xs n (xM xs p n).2;simp only [xM];omega
def S8 (tabs:List Tbl) (n i q:Nat) (xs:List Int):SL:=
 ⟨[(5,.d (.lit (.int .i64 i))),(4,.d (.lit (.int .i64 n))),(3,.ptr 3 0),(2,.ptr 2 0),(0,.ptr 1000 0)],
  [(3,.var [.vec 600 i]),(600,.vec 59 6 (zd rT tabs) 0),(1000,zR xs q),(2,.var [.snil])]⟩
def S8c (tabs:List Tbl) (n i q m c:Nat) (cols:List Col) (xs:List Int):SL:=
 ⟨[(8,.d (.lit (.int .i64 c))),(7,.d (.lit (.int .i64 m))),(6,.ptr 6 0),(5,.d (.lit (.int .i64 i))),(4,.d (.lit (.int .i64 n))),(3,.ptr 3 0),(2,.ptr 2 0),(0,.ptr 1000 0)],
  [(6,.var [.d (.lit (.string (xu nT i))),.vec 21 (c+1),.vec 22 1,.snil,.snil,.snil]),(21,.vec 74 3 (zd rC cols) 0),(22,.vec 3 1 (zd rI [0]) 0),
   (3,.var [.vec 600 i]),(600,.vec 59 6 (zd rT tabs) 0),(1000,zR xs q),(2,.var [.snil])]⟩
def S8f (tabs:List Tbl) (n i m:Nat) (x:Nat×List Col×List Fk×Nat) (xs:List Int):SL:=
 ⟨[(9,.d (.lit (.int .i64 x.1))),(7,.d (.lit (.int .i64 m))),(6,.ptr 6 0),(5,.d (.lit (.int .i64 i))),(4,.d (.lit (.int .i64 n))),(3,.ptr 3 0),(2,.ptr 2 0),(0,.ptr 1000 0)],
  [(6,.var [.d (.lit (.string (xu nT i))),.vec 21 x.2.1.length,.vec 22 1,.snil,.vec 700 x.2.2.1.length,.snil]),(21,.vec 74 3 (zd rC x.2.1) 0),(22,.vec 3 1 (zd rI [0]) 0),
   (700,.vec 76 2 (zd rF x.2.2.1) 0),(3,.var [.vec 600 i]),(600,.vec 59 6 (zd rT tabs) 0),(1000,zR xs x.2.2.2),(2,.var [.snil])]⟩
theorem Xd {p:Prop} (h:p:=by simp [S8,ends]):p:=h
theorem Xi {p P0 P1:Prop} (zf_:P0) (zg_:P1) (h:P0->P1->p:=by intro zf_ zg_;simp [S8,zf_,zg_,ends]):p:=h zf_ zg_
theorem Xn {p:Prop} (h:p:=by simp only;omega):p:=h
theorem Gz{p:Prop}(h:p:=by
 refine ⟨⟨htl.symm,Za⟩,?_⟩;refine zi hI (i+1) k0' Zl (Ya (Xi hwi htl) ?_ Xd);simp [S8,hsn,hX,htl,zd,rT,rIs,rI,y7,ends]):p:=h
theorem GN{p:Prop}(h:p:=by
 rw [hT',x9,hU];simp only [chkM,if_pos v1']):p:=h
theorem GO{p:Prop}(h:p:=by
 rw [hT',x9,hU];simp only [chkM,if_neg v1']):p:=h
theorem Mh{p:Prop}(h:p:=by
 refine za (fun u1=>?_) fun u1=>?_
 ·have u1':drawn xs q' 4=0:=Zc u1;have hU:uniM xs c q'=([[1+drawn xs (q'+1) c]],q'+2):=by rw [uniM,if_pos u1']
  refine zg [[],[]] [(1000,1000)] (zS (n:=(c:Int)) (p:=q'+1) hx Za Za Za) ?_;have h7:=zu xs (q'+1) (n:=(c:Int)) Za;have w7:IntKind.i64.wrap (1+drawn xs (q'+1) c)=1+drawn xs (q'+1) c:=zt Za Za;refine Zy w7 ?_;refine ⟨ze Zg,?_⟩;refine zg [[],[]] [(1000,1000)] (zS (n:=4) (p:=q'+2) hx Za Za Za) ?_;refine Zf ?_;refine za (fun v1=>?_) fun v1=>?_
  ·have v1':drawn xs (q'+2) 4=0:=Zc v1;have hX:tblM xs i q0=(⟨xu nT i,cols,[0],[[1+drawn xs (q'+1) c]],fs,[(ye xs (cols.map (·.type)) 3 2 (q'+2+1)).1]⟩,(ye xs (cols.map (·.type)) 3 2 (q'+2+1)).2):=GN;refine zg [[0,3,1,1,2,6]] [] (vr ⟨xu nT i,cols,[0],[[1+drawn xs (q'+1) c]],fs,[]⟩ Zl) ?_;refine Zf ?_;refine zg [[],[1],[],[]] [(1000,1000)] (HE 2 (q'+2+1) Zi Za) ?_;refine Zf ?_;refine ⟨ze Zg,?_⟩;exact Gz
  ·have v1': ¬drawn xs (q'+2) 4=0:=Zc v1;have hX:tblM xs i q0=(⟨xu nT i,cols,[0],[[1+drawn xs (q'+1) c]],fs,[]⟩,q'+2+1):=GO;exact Gz
 ·have u1': ¬drawn xs q' 4=0:=Zc u1;have hU:uniM xs c q'=([],q'+1):=by rw [uniM,if_neg u1']
  refine zg [[],[]] [(1000,1000)] (zS (n:=4) (p:=q'+1) hx Za Za Za) ?_;refine Zf ?_;refine za (fun v1=>?_) fun v1=>?_
  ·have v1':drawn xs (q'+1) 4=0:=Zc v1;have hX:tblM xs i q0=(⟨xu nT i,cols,[0],[],fs,[(ye xs (cols.map (·.type)) 3 2 (q'+1+1)).1]⟩,(ye xs (cols.map (·.type)) 3 2 (q'+1+1)).2):=GN;refine zg [[0,3,1,1,2,6]] [] (vr ⟨xu nT i,cols,[0],[],fs,[]⟩ Zl) ?_;refine Zf ?_;refine zg [[],[1],[],[]] [(1000,1000)] (HE 2 (q'+1+1) Zi Za) ?_;refine Zf ?_;refine ⟨ze Zg,?_⟩;exact Gz
  ·have v1': ¬drawn xs (q'+1) 4=0:=Zc v1;have hX:tblM xs i q0=(⟨xu nT i,cols,[0],[],fs,[]⟩,q'+1+1):=GO;refine ⟨⟨htl.symm,Za⟩,?_⟩;refine zi hI (i+1) k0' Zl (Ya (Xi hwi htl) ?_ Xd);simp [S8,hsn,hX,htl,zd,rT,rIs,rI,y7,ends]):p:=h
theorem Ml{p:Prop}(h:p:=by
 refine ⟨⟨htl.symm,Za⟩,?_⟩;refine zi hI (i+1) k0' Zl (Ya (Xi hwi htl) ?_ Xd);simp [S8,hsn,hX,htl,zd,rT,rIs,rI,y7,ends]):p:=h
theorem c_mschema {xs:List Int} {p:Nat} (hx:ww xs) (hp:p≤100000000000000000):
 ACall Tryz.prog 9 [.ptr 1000 0] [(1000,zR xs p)] (aS (xe xs p).1) [(1000,zR xs (xe xs p).2)]:=by
 refine zn mixed ttok Tryz.func9 Tryz.ntmps9 Tryz.results9 ?_;generalize hr:aS (xe xs p).1=R;generalize hr2:zR xs (xe xs p).2=R2;refine Zn ?_;refine zg [[],[]] [(1000,1000)] (zS (n:=3) (p:=p) hx Za Za Za) ?_;have h3:=zu xs p (n:=3) Za;have w1:IntKind.i64.wrap (1+drawn xs p 3)=1+drawn xs p 3:=zt Za Za;refine Zy w1 ?_;obtain ⟨N,hN⟩: ∃N:Nat,1+drawn xs p 3=N:=⟨(1+drawn xs p 3).toNat,Za⟩
 have hN3:N<=3:=Za;have hsch:xe xs p=xM xs p N:=by rw [xe,hN,YA]
 rw [hN];clear w1;refine zx mixed ttok (fun i:Nat=>S8 (xM xs p i).1 N i (xM xs p i).2 xs) (fun i=>N-i) (fun i=>i<=N) 0 (Yj _) ?_ ?_
 ·exact (Us 3 0 600 59 6 rfl rfl rfl).trans (Ya (by simp [S8,xM,ends]) (by simp [S8,xM,zd,ends]) Xd)
 intro I hI i hi;have hq:=mtabs_q xs p i;have htl:=mtabs_len xs p i;have hsn:xM xs p (i+1)=((xM xs p i).1++[(tblM xs i (xM xs p i).2).1],(tblM xs i (xM xs p i).2).2):=rfl;simp -implicitDefEqProofs only [S8,↓zb,push_cast,simprocAttr,tt];refine za (fun k0=>?_) fun k0=>?_
 rotate_left
 ·have k0':i=N:=Zp k0;subst k0';refine zv [6] rfl ZN (by simp [zc,htl]) ?_ ZO ?_ Zb
  ·rw [<-hr,hsch];rfl
  ·rw [<-hr2,hsch];simp [ends]
 have k0':i<N:=Zq k0;have hwi:=zh k0' Za;generalize hq0:(xM xs p i).2=q0 at hq hsn ⊢;generalize (xM xs p i).1=tabs at htl hsn ⊢;refine zg [[],[]] [] (c_mname nT (i:Int) Zi) ?_;refine Zf ?_;refine zg [[],[]] [(1000,1000)] (zS (n:=3) (p:=q0) hx Za Za Za) ?_;have h4:=zu xs q0 (n:=3) Za;have w1:IntKind.i64.wrap (1+drawn xs q0 3)=1+drawn xs q0 3:=zt Za Za;refine Zy w1 ?_;obtain ⟨M,hM⟩: ∃M:Nat,1+drawn xs q0 3=M:=⟨(1+drawn xs q0 3).toNat,Za⟩
 have hM3:M<=3:=Za;have hM1:1<=M:=Za;have hT:tblM xs i q0=x9 xs i M (forM xs i 2 0 (uT xs (q0+1) M) [] (q0+1+2 * M)):=by rw [tblM,hM,YA]
 rw [hM];clear w1;refine zx mixed ttok (fun c:Nat=>S8c tabs N i (q0+1+2 * c) M c (uT xs (q0+1) c) xs) (fun c=>M-c) (fun c=>c<=M) 0 (Yj _) ?_ ?_
 ·exact Ya (by simp [S8c,ends]) (by simp [S8c,uT,zd,rI,rC,nT,nId,ends]) (by simp [S8c,ends])
 intro J hJ c hc;have hcl:=gT xs (q0+1) c;have hcs:=mcols_succ xs (q0+1) c;simp -implicitDefEqProofs only [S8c,↓zb,push_cast,simprocAttr,tt];refine za (fun k1=>?_) fun k1=>?_
 ·have k1':c<M:=Zq k1;have hwc:=zh k1' Za;refine zg [[],[]] [] (c_mname nC (c:Int) Zi) ?_;refine Zf ?_;refine zg [[],[]] [(1000,1000)] (zS (n:=3) (p:=q0+1+2 * c) hx Za Za Za) ?_;have h5:=zu xs (q0+1+2 * c) (n:=3) Za;have w1:IntKind.i64.wrap (1+drawn xs (q0+1+2 * c) 3)=1+drawn xs (q0+1+2 * c) 3:=zt Za Za;refine Zy w1 ?_;refine zg [[],[]] [(1000,1000)] (zS (n:=2) (p:=q0+1+2 * c+1) hx Za Za Za) ?_;refine Zf ?_;refine ⟨⟨Za,Za⟩,ze Zg,?_⟩;refine zi hJ (c+1) k1' Zl (Ya (by simp [S8c,hwc,ends]) ?_ (by simp [S8c,ends]));simp [S8c,hcs,hcl,mcol,zf,z6,zC,rC,show q0+1+2 * (c+1)=q0+1+2 * c+1+1 from Za,ends]
 have k1':c=M:=Zp k1;subst k1';clear hJ J;refine zx mixed ttok (fun x:Nat×List Col×List Fk×Nat=>S8f tabs N i c x xs) (fun x=>2-x.1)
  (fun x=>x.1<=2/\forM xs i (2-x.1) x.1 x.2.1 x.2.2.1 x.2.2.2=forM xs i 2 0 (uT xs (q0+1) c) [] (q0+1+2 * c)/\x.2.1.length<=c+1+x.1/\x.2.2.1.length<=x.1/\x.2.2.2<=q0+1+2 * c+3 * x.1)
  (0,uT xs (q0+1) c,[],q0+1+2 * c) ⟨Zd,rfl,Zu hcl,Zd,Zd⟩ ?_ ?_
 ·exact (Us 6 4 700 76 2 rfl rfl rfl).trans (Ya (by simp [S8f,hcl,ends]) (by simp [S8f,hcl,zd,ends]) (by simp [S8f,ends]))
 intro J hJ ⟨k,cols,fs,q⟩ ⟨hk2,hres,hcl2,hfl,hq2⟩;simp only at hk2 hres hcl2 hfl hq2;have hT2:=hT;rw [<-hres] at hT2;have hE: ∀q',forM xs i (2-k) k cols fs q=(cols,fs,q')->tblM xs i q0=x9 xs i c (cols,fs,q'):=fun q' h=>by rw [hT2,h]
 by_cases e1:k<2
 ·have d1:decide ((k:Int)<2)=true:=YV Za;have h2k:2-k=(2-(k+1))+1:=Za;by_cases e2:0<i
  ·have d2:decide ((i:Int)>0)=true:=YV Za;simp -implicitDefEqProofs only [S8f,d1,d2,↓zb,push_cast,simprocAttr,tt];refine zg [[],[]] [(1000,1000)] (zS (n:=3) (p:=q) hx Za Za Za) ?_
   simp -implicitDefEqProofs only [↓zb,push_cast,simprocAttr,tt]
   refine za (fun g=>?_) fun g=>?_
   ·have g':drawn xs q 3>0:=Yd g;have hstep:forM xs i (2-k) k cols fs q=forM xs i (2-(k+1)) (k+1) (cols++[fcol xs k q]) (fs++[ffk xs i cols q]) (q+3):=by rw [h2k,forM,if_neg (by omega),if_pos g']
    have hwk:=zh e1 Za;refine zg [[],[]] [] (c_mname nF (k:Int) Zi) ?_;refine Zf ?_;refine zg [[],[]] [(1000,1000)] (zS (n:=4) (p:=q+1) hx Za Za Za) ?_;refine Zf ?_;refine ⟨Za,ze Zg,?_⟩;refine ⟨Zd,?_⟩;have w1:IntKind.i64.wrap (((cols.length:Int)+1)-1)=cols.length:=Z9;refine zg [[],[]] [(1000,1000)] (zS (n:=(i:Int)) (p:=q+2) hx Za Za Za) ?_;have h6:=zu xs (q+2) (n:=(i:Int)) Za;refine Zy w1 ?_;refine zg [[],[]] [] (c_mname nT (drawn xs (q+2) i) Zi) ?_;refine Zf ?_;refine ⟨Za,ze Zg,?_⟩;refine zi hJ (k+1,cols++[fcol xs k q],fs++[ffk xs i cols q],q+3) ⟨Xn,by rw [<-hres];exact hstep.symm,Zt,Zt,Xn⟩ Zl
     (Ya (by simp [S8f,hwk,ends]) ?_ (by simp [S8f,ends]))
    simp [S8f,fcol,ffk,zd,rC,rF,rI,w1,ends]
   ·have hT':=hE (q+1) (by rw [h2k,forM,if_neg (by omega),if_neg (Yc g)]);have hq':q+1<=q0+20:=Za;obtain ⟨q',hqq⟩: ∃q',q'=q+1:=⟨_,rfl⟩
    rw [<-hqq] at hT' hq' ⊢;have HE:CE xs (cols.map (·.type)) 3 (ye xs (cols.map (·.type)) 3) (wE 3):=qJ hx Zt 2 Za;have hwE:wE 3=110:=rfl;refine zg [[],[]] [(1000,1000)] (zS (n:=4) (p:=q') hx Za Za Za) ?_;refine Zf ?_;exact Mh
  ·have d2:decide ((i:Int)>0)=false:=YS Za;simp -implicitDefEqProofs only [S8f,d1,d2,↓zb,push_cast,simprocAttr,tt];have hT':=hE q (by rw [h2k,forM,if_pos (by omega)]);have hq':q<=q0+20:=Za;obtain ⟨q',hqq⟩: ∃q',q'=q:=⟨_,rfl⟩
   rw [<-hqq] at hT' hq' ⊢;have HE:CE xs (cols.map (·.type)) 3 (ye xs (cols.map (·.type)) 3) (wE 3):=qJ hx Zt 2 Za;have hwE:wE 3=110:=rfl;refine zg [[],[]] [(1000,1000)] (zS (n:=4) (p:=q') hx Za Za Za) ?_
   simp -implicitDefEqProofs only [↓zb,push_cast,simprocAttr,tt]
   exact Mh
 ·have d1:decide ((k:Int)<2)=false:=YS Za;simp -implicitDefEqProofs only [S8f,d1,↓zb,push_cast,simprocAttr,tt];have hT':=hE q (by rw [show 2-k=0 from by omega,forM]);have hq':q<=q0+20:=Za;obtain ⟨q',hqq⟩: ∃q',q'=q:=⟨_,rfl⟩
  rw [<-hqq] at hT' hq' ⊢;have HE:CE xs (cols.map (·.type)) 3 (ye xs (cols.map (·.type)) 3) (wE 3):=qJ hx Zt 2 Za;have hwE:wE 3=110:=rfl;refine zg [[],[]] [(1000,1000)] (zS (n:=4) (p:=q') hx Za Za Za) ?_;refine Zf ?_;refine za (fun u1=>?_) fun u1=>?_
  ·have u1':drawn xs q' 4=0:=Zc u1;have hU:uniM xs c q'=([[1+drawn xs (q'+1) c]],q'+2):=by rw [uniM,if_pos u1']
   refine zg [[],[]] [(1000,1000)] (zS (n:=(c:Int)) (p:=q'+1) hx Za Za Za) ?_;have h7:=zu xs (q'+1) (n:=(c:Int)) Za;have w7:IntKind.i64.wrap (1+drawn xs (q'+1) c)=1+drawn xs (q'+1) c:=zt Za Za;refine Zy w7 ?_
   refine ⟨ze (by kernel_rfl),?_⟩
   refine zg [[],[]] [(1000,1000)] (zS (n:=4) (p:=q'+2) hx Za Za Za) ?_
   simp -implicitDefEqProofs only [↓zb,push_cast,simprocAttr,tt]
   refine za (fun v1=>?_) fun v1=>?_
   ·have v1':drawn xs (q'+2) 4=0:=Zc v1;have hX:tblM xs i q0=(⟨xu nT i,cols,[0],[[1+drawn xs (q'+1) c]],fs,[(ye xs (cols.map (·.type)) 3 2 (q'+2+1)).1]⟩,(ye xs (cols.map (·.type)) 3 2 (q'+2+1)).2):=GN;refine zg [[0,3,1,1,2,6]] [] (vr ⟨xu nT i,cols,[0],[[1+drawn xs (q'+1) c]],fs,[]⟩ Zl) ?_;refine Zf ?_;refine zg [[],[1],[],[]] [(1000,1000)] (HE 2 (q'+2+1) Zi Za) ?_;refine Zf ?_;refine ⟨ze Zg,?_⟩;exact Ml
   ·have v1': ¬drawn xs (q'+2) 4=0:=Zc v1;have hX:tblM xs i q0=(⟨xu nT i,cols,[0],[[1+drawn xs (q'+1) c]],fs,[]⟩,q'+2+1):=GO;exact Ml
  ·have u1': ¬drawn xs q' 4=0:=Zc u1;have hU:uniM xs c q'=([],q'+1):=by rw [uniM,if_neg u1']
   refine zg [[],[]] [(1000,1000)] (zS (n:=4) (p:=q'+1) hx Za Za Za) ?_
   simp -implicitDefEqProofs only [↓zb,push_cast,simprocAttr,tt]
   refine za (fun v1=>?_) fun v1=>?_
   ·have v1':drawn xs (q'+1) 4=0:=Zc v1;have hX:tblM xs i q0=(⟨xu nT i,cols,[0],[],fs,[(ye xs (cols.map (·.type)) 3 2 (q'+1+1)).1]⟩,(ye xs (cols.map (·.type)) 3 2 (q'+1+1)).2):=GN;refine zg [[0,3,1,1,2,6]] [] (vr ⟨xu nT i,cols,[0],[],fs,[]⟩ Zl) ?_;refine Zf ?_;refine zg [[],[1],[],[]] [(1000,1000)] (HE 2 (q'+1+1) Zi Za) ?_;refine Zf ?_;refine ⟨ze Zg,?_⟩;exact Ml
   ·have v1': ¬drawn xs (q'+1) 4=0:=Zc v1;have hX:tblM xs i q0=(⟨xu nT i,cols,[0],[],fs,[]⟩,q'+1+1):=GO;exact Ml
end
end Go.Proofs.YtnmibokjpedkiaaGreatDoor
