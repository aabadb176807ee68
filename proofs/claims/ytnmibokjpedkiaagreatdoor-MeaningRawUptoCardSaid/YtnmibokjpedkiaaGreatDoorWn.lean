/- Queries over made schemas answer as specified (part Wn) -/
import Derived.Test.YtnmibokjpedkiaaGreatDoorWm
import Derived.Test.YtnmibokjpedkiaaGreatDoorWl
set_option maxRecDepth 100000
set_option maxHeartbeats 4000000
set_option linter.all false
namespace Go.Proofs.YtnmibokjpedkiaaGreatDoor
open Go.Am
section
attribute [local simp, local push_cast] Wq yG
end
section
attribute [local simp, local push_cast] Wq aRow rRow rTab rC vT yG
end
section
attribute [local simp, local push_cast] Wq
structure Made (ts:List Int) (d:Nat) (t:Int) (e:Ex):Prop where
 typ:typG (ownM ts) e=(t,0)
 dep:0<=wn e/\wn e<=d
 size:0<=w8 e/\3 * w8 e+1<=((4 ^ d:Nat):Int)
 okx:OkX e
 ok12:Ok12 e
structure MadeL (ts:List Int) (d:Nat) (l:List Int) (ks:List Ex):Prop where
 typ:ks.map (typG (ownM ts))=l.map fun u=>(u,(0:Int))
 dep: ∀k∈ks,(0<=wn k/\wn k<=d)/\0<=w8 k/\3 * w8 k+1<=((4 ^ d:Nat):Int)
 okx: ∀k∈ks,OkX k/\Ok12 k
theorem MadeL.len {ts:List Int} {d:Nat} {l:List Int} {ks:List Ex} (h:MadeL ts d l ks):ks.length=l.length:=by have:=congrArg List.length h.typ;simpa using this
theorem MadeL.nil {ts:List Int} {d:Nat}:MadeL ts d [] []:=⟨rfl,fun k h=>absurd h Zd,fun k h=>absurd h Zd⟩
theorem MadeL.cons {ts:List Int} {d:Nat} {t:Int} {l:List Int} {e:Ex} {ks:List Ex} (h:Made ts d t e) (h2:MadeL ts d l ks):MadeL ts d (t::l) (e::ks):=
 ⟨by rw [Yw,Yw,h.typ,h2.typ],fun k hk=>by
  rcases YJ.1 hk with rfl | hk
  ·exact ⟨h.dep,h.size⟩
  ·exact h2.dep k hk,fun k hk=>by
  rcases YJ.1 hk with rfl | hk
  ·exact ⟨h.okx,h.ok12⟩
  ·exact h2.okx k hk⟩
theorem Made.mono {ts:List Int} {d d':Nat} {t:Int} {e:Ex} (h:Made ts d t e) (hd:d<=d'):Made ts d' t e:=by
 have hP:4 ^ d<=4 ^ d':=Nat.pow_le_pow_right Za hd;obtain ⟨h1,h2,h3,h4,h5⟩:=h;exact ⟨h1,Za,Za,h4,h5⟩
section
variable {xs ts:List Int} {d:Nat} {f:Int->Nat->Ex×Nat} (hf: ∀t p,Kn t->Made ts d t (f t p).1)
include hf
end
end
section
attribute [local simp, local push_cast] Wq
def zE:Ex:= .mk 0 0 0 ByteArray.empty 0 []
def scanQ (name:ByteArray):Qr:= .mk 1 name 0 false zE [] [] [] [] []
end
section
attribute [local simp, local push_cast] Wq aRow rRow rTab vT yd yG
theorem constM_kids (v:Val) (t:Int):(constM v t).kids=[]:=by
 unfold constM
 repeat' split
 all_goals rfl
theorem ok_nil {e:Ex} (h:e.kids=[]):Ok12 e:=⟨_,ZM h,fun k hk=>by rw [h] at hk;cases hk⟩
theorem pickE_ok (xs types:List Int) (k:Int) (p:Nat):Ok12 (vY xs types k p).1:=by
 unfold vY
 split
 ·exact ok_nil rfl
 ·exact ok_nil (constM_kids _ _)
theorem bin_ok {op:Int} {l:List Ex} (h:l.length<=12) (hk: ∀k∈l,Ok12 k):Ok12 (bin op l):=⟨_,h,hk⟩
theorem moreM_ok {f:Int->Nat->Ex×Nat} (hf: ∀k q,Ok12 (f k q).1) (x:Int) (p:Nat): ∀m,∀e∈(yM f x p m).1,Ok12 e
 | 0=>by simp [yM]
 | m+1=>by
   intro e he;simp only [yM,Yz,Uf] at he;rcases he with he | rfl
   ·exact moreM_ok hf x p m e he
   ·exact hf _ _
theorem stepM_ok {xs types:List Int} {f:Int->Nat->Ex×Nat} (hf: ∀k q,Ok12 (f k q).1) (k:Int) (p:Nat):Ok12 (yn xs types f k p).1:=by
 have h1: ∀op x q,Ok12 (mkE op (oneM f x q)).1:=fun op x q=>bin_ok (by simp [oneM]) (by simp [oneM,hf]);have h2: ∀op x q,Ok12 (mkE op (twoM f x q)).1:=fun op x q=>bin_ok (by simp [twoM]) (by simp [twoM,hf]);have h3: ∀op x q,Ok12 (mkE op (ym f x q)).1:=fun op x q=>bin_ok (by simp [ym]) (by simp [ym,hf]);have h4: ∀op x q,Ok12 (mkE op (inE xs f x q)).1:=fun op x q=>by
  have a3:=zP xs (twoM f x q).2 (n:=3) Za;refine bin_ok ?_ ?_
  ·simp only [inE,Yd,moreM_len];have:(twoM f x q).1.length=2:=rfl;omega
  ·intro e he;simp only [inE,Yz] at he;rcases he with he | he
   ·simp [twoM] at he;rcases he with rfl | rfl<;>exact hf _ _
   ·exact moreM_ok hf _ _ _ e he
 unfold yn gB
 repeat' split
 all_goals first | exact pickE_ok _ _ _ _ | exact h1 _ _ _ | exact h2 _ _ _ | exact h3 _ _ _ | exact h4 _ _ _
theorem exprM_ok (xs types:List Int): ∀(d:Nat) (k:Int) (p:Nat),Ok12 (wF xs types d k p).1
 | 0,k,p=>pickE_ok ..
 | 1,k,p=>pickE_ok ..
 | d+2,k,p=>stepM_ok (exprM_ok xs types (d+1)) k p
theorem forM_ok (xs:List Int) (i:Nat): ∀(n k:Nat) (cols:List Col) (fs:List Fk) (q:Nat),(∀f∈fs,f.columns.length=1)→
 (forM xs i n k cols fs q).1.length<=cols.length+n/\(forM xs i n k cols fs q).2.1.length<=fs.length+n/\ ∀f∈(forM xs i n k cols fs q).2.1,f.columns.length=1
 | 0,_,cols,fs,q,h=>⟨by simp [forM],by simp [forM],by simpa [forM] using h⟩
 | n+1,k,cols,fs,q,h=>by
   simp only [forM]
   split
   ·exact ⟨Zd,Zd,h⟩
   ·split
    ·obtain ⟨a,b,c⟩:=forM_ok xs i n (k+1) (cols++[fcol xs k q]) (fs++[ffk xs i cols q]) (q+3) (by
      intro f hf;rcases Yz.1 hf with hf | hf
      ·exact h f hf
      ·rw [Uf.1 hf];rfl)
     simp only [Yd,List.length_singleton] at a b;exact ⟨Za,Za,c⟩
    ·exact ⟨Zd,Zd,h⟩
theorem tblM_ok (xs:List Int) (i p:Nat):SmallT (tblM xs i p).1:=by
 have h3:=zP xs p (n:=3) Za;obtain ⟨a,b,c⟩:=forM_ok xs i 2 0 (j4 xs (p+1) (1+drawn xs p 3).toNat) [] (p+1+2 * (1+drawn xs p 3).toNat) Zd;rw [mcols_len] at a;simp only [Uy] at b;unfold tblM;generalize forM xs i 2 0 (j4 xs (p+1) (1+drawn xs p 3).toNat) [] (p+1+2 * (1+drawn xs p 3).toNat)=f at a b c ⊢;simp only [xG];refine ⟨by simp only;omega,Zd,?_,?_,by simp only;omega,fun f hf=>Z4 (c f hf),?_,?_⟩
 ·simp only [uniM];split<;>simp
 ·simp only [uniM];split<;>simp
 ·simp only [chkM];split<;>simp
 ·simp only [chkM];split
  ·intro e he;rw [Uf.1 he];exact exprM_ok ..
  ·simp
theorem schemaM_ok (xs:List Int) (p:Nat):SmallS (vd xs p).1/\1<=(vd xs p).1.length:=by
 have h3:=zP xs p (n:=3) Za;have hl:(vd xs p).1.length=(1+drawn xs p 3).toNat:=mtabs_len ..;refine ⟨⟨Za,?_⟩,Za⟩;have key: ∀n,∀t∈(wA xs p n).1,SmallT t:=by
  intro n
  induction n with
  | zero=>simp [wA]
  | succ n ih=>
    intro t ht;simp only [wA,Yz,Uf] at ht;rcases ht with ht | rfl
    ·exact ih t ht
    ·exact tblM_ok ..
 exact key _
end
section
attribute [local simp, local push_cast] Wq
def jQ (k:Int) (c:Ex) (x y:ByteArray):Qr:= .mk 5 ByteArray.empty k false c [] [] [] [] [scanQ x,scanQ y]
section
variable {c:Ex} {x y:ByteArray} {wx wy:Nat} {R S:List Row}
def okC2 (c:Ex) (r t:Row):Bool:=zV (zR (r++t) c)==1
def innM (c:Ex) (S:List Row) (r:Row):List Row:=(S.filter (okC2 c r)).map (r++ ·)
def missM (c:Ex) (S:List Row) (r:Row):List Row:=if S.any (okC2 c r)=false then [r] else []
def hitM (c:Ex) (S:List Row) (r:Row):List Row:=if S.any (okC2 c r)=true then [r] else []
def restM (c:Ex) (wx:Nat) (R S:List Row):List Row:=(S.filter fun t=> !(R.any fun r=>okC2 c r t)).map (zW wx++ ·)
theorem jL (k:Int) (hk:1<=k/\k<=6) (r:Row):wD (jQ k c x y) wy S r=
 (if k<5 then innM c S r else [])++(if k=2\/k=4 then (missM c S r).map (· ++zW wy) else if k=5 then hitM c S r else if k=6 then missM c S r else []):=by
 have hkd:(jQ k c x y).kind=k:=rfl;have ho:okJ (jQ k c x y)=okC2 c:=rfl;have h6:k=1\/k=2\/k=3\/k=4\/k=5\/k=6:=Za;unfold wD tailJ missM hitM innM;rw [hkd,ho];cases hf:S.any (okC2 c r)<;>rcases h6 with rfl | rfl | rfl | rfl | rfl | rfl<;>simp
theorem jF (k:Int) (hk:1<=k/\k<=6):jnM (jQ k c x y) wx wy R S=
 (R.flatMap fun r=>(if k<5 then innM c S r else [])++(if k=2\/k=4 then (missM c S r).map (· ++zW wy) else if k=5 then hitM c S r else if k=6 then missM c S r else []))++(if k=3\/k=4 then restM c wx R S else []):=by
 have e:wD (jQ k c x y) wy S=fun r=>(if k<5 then innM c S r else [])++(if k=2\/k=4 then (missM c S r).map (· ++zW wy) else if k=5 then hitM c S r else if k=6 then missM c S r else []):=funext fun r=>jL k hk r;unfold jnM;rw [e];rfl
theorem j1:jnM (jQ 1 c x y) wx wy R S=R.flatMap (innM c S):=by rw [jF 1 (by decide)];simp
theorem j2:jnM (jQ 2 c x y) wx wy R S=R.flatMap fun r=>innM c S r++(missM c S r).map (· ++zW wy):=by rw [jF 2 (by decide)];simp
theorem j3:jnM (jQ 3 c x y) wx wy R S=R.flatMap (innM c S)++restM c wx R S:=by rw [jF 3 (by decide)];simp
end
end
end Go.Proofs.YtnmibokjpedkiaaGreatDoor
