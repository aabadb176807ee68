/- Made queries answer as specified (part Wj) -/
import Derived.Test.YtnmibokjpedkiaaGreatDoorWh
set_option maxRecDepth 100000
set_option maxHeartbeats 4000000
set_option linter.all false
namespace Go.Proofs.YtnmibokjpedkiaaGreatDoor
open Go.Am
section
attribute [local simp, local push_cast] Ta aRow rRow
abbrev KRow:=Row×Row
def rKk (k:KRow):List D:=[.sl 3 (zd rV k.1),.sl 3 (zd rV k.2)]
def aKR (k:KRow):A:= .agg [.d (.sl 3 (zd rV k.1)),.d (.sl 3 (zd rV k.2))]
namespace Ka
abbrev KE:=KRow
abbrev rK:KE->List D:=rKk
def vecK (l:List KE):Ob:= .vec 160 2 (zd rK l) 0
attribute [local simp, local push_cast] vecK rKk aKR
theorem yy {p:Prop} {t:UL} {o os':UM} (hp:p) (ho:keepO (lookO o) (inO os') os') (hin:keepIn (inO os') o):retx (some (p,A.tup [])) ⟨t,o⟩ (.tup []) os':=
 ⟨hp,Weak.keep (σ:=⟨[(0,.tup [])],os'⟩) ⟨⟨rfl,by simp [A.closed,closedL]⟩,trivial⟩ ho hin⟩
def swK (l:List KE) (i j:Nat):List KE:=(l.set i (l.getD j default)).set j (l.getD i default)
theorem swK_len (l:List KE) (i j:Nat):(swK l i j).length=l.length:=by simp [swK]
theorem swK_mid (p m s:List KE) (x y:KE):swK (p++x::m++y::s) p.length (p.length+m.length+1)=p++y::m++x::s:=MQ
theorem swK_nb (p s:List KE) (x y:KE):swK (p++x::y::s) p.length (p.length+1)=p++y::x::s:=by
 have:=swK_mid p [] s x y;simpa using this
theorem qS (l:List KE) (i j:Nat) (hi:i<l.length) (hj:j<l.length) (hne:i≠j):swK l i j=swK l j i:=by
 unfold swK;rw [List.set_comm _ _ hne]
theorem set_rK (l:List KE) (i:Nat) (x:KE) (hi:i<l.length):(zd rK l).set i (rK x)=zd rK (l.set i x):=jM rK l i x
def swsK (l:List KE) (a b:Nat):Nat->List KE
 | 0=>l
 | n+1=>swK (swsK l a b n) (a+n) (b+n)
theorem swsK_len (l:List KE) (a b n:Nat):(swsK l a b n).length=l.length:=by
 induction n with
 | zero=>rfl
 | succ n ih=>rw [swsK,swK_len,ih]
theorem qR (p A m B s:List KE) (n:Nat) (hA:A.length=n) (hB:B.length=n): ∀k,k<=n->swsK (p++A++m++B++s) p.length (p.length+n+m.length) k=p++B.take k++A.drop k++m++A.take k++B.drop k++s
 | 0,_=>by simp [swsK]
 | k+1,h=>by
   exact M4
theorem jH (p A m B s:List KE) (h:A.length=B.length):swsK (p++A++m++B++s) p.length (p.length+A.length+m.length) A.length=p++B++m++A++s:=by
 rw [qR p A m B s A.length rfl h.symm _ (Ys _),Yk,Um,h,Yk,Um];simp
theorem st1_rK (d:List KE) (i:Nat) (x:KE) (hi:i<d.length):(zd rK d).set i (D.sl 3 (zd rV (x).1)::D.sl 3 (zd rV (x).2)::(List.drop 2 ((zd rK d).getD i [])))=zd rK (d.set i x):=by
 rw [xR _ _ _ hi];exact set_rK d i x hi
theorem qr (d:List KE) (i j:Nat) (hi:i<d.length) (hj:j<d.length):((zd rK d).set i (D.sl 3 (zd rV (d.getD j default).1)::D.sl 3 (zd rV (d.getD j default).2)::(List.drop 2 ((zd rK d).getD i [])))).set j (D.sl 3 (zd rV (d.getD i default).1)::D.sl 3 (zd rV (d.getD i default).2)::(List.drop 2 (((zd rK d).set i (D.sl 3 (zd rV (d.getD j default).1)::D.sl 3 (zd rV (d.getD j default).2)::(List.drop 2 ((zd rK d).getD i [])))).getD j [])))=zd rK (swK d i j):=by
 rw [st1_rK d i _ hi,st1_rK _ j _ (Zc hj)];rfl
theorem c_swap (l:List KE) (a b n:Nat) (hl:l.length<=1000000) (ha:a+n<=l.length) (hb:b+n<=l.length) (f:FuncId):
 ACall Tryz.prog 238 [.sub 1000 l.length 0 l.length,num a,num b,num n,.clo f []] [(1000,vecK l)] (.tup []) [(1000,vecK (swsK l a b n))]:=by
 refine zn mixed ttok Tryz.func238 Tryz.ntmps238 Tryz.results238 ?_;exact Mr
theorem c_rot (P X Y S:List KE) (a m b:Nat) (ha:a=P.length) (hm:m=P.length+X.length) (hb:b=P.length+X.length+Y.length) (hl:(P++X++Y++S).length<=1000000) (hX:0<X.length) (hY:0<Y.length) (f:FuncId):
 ACall Tryz.prog 221 [.sub 1000 (P++X++Y++S).length 0 (P++X++Y++S).length,num a,num m,num b,.clo f []] [(1000,vecK (P++X++Y++S))] (.tup []) [(1000,vecK (P++Y++X++S))]:=by
 refine zn mixed ttok Tryz.func221 Tryz.ntmps221 Tryz.results221 ?_
 exact Me
end Ka
end
section
attribute [local simp, local push_cast] Ta aRow rRow Ka.vecK rKk aKR
def leKk (x y:KRow):Bool:=leR x.1 y.1
theorem ordKk:Ord leKk:=⟨fun a b c=>ordR.trans a.1 b.1 c.1,fun a b=>ordR.total a.1 b.1⟩
theorem c_cmpKk (a b:KRow) (ha:a.1.length<=1000000):ACall Tryz.prog 117 [aKR a,aKR b] [] (num (cmpR a.1 b.1)) []:=by
 refine zn mixed ttok Tryz.func117 Tryz.ntmps117 Tryz.results117 ?_;generalize hr:num (cmpR a.1 b.1)=R;refine Zn ?_;refine zg [[3],[3]] [] (c_cmpKr a.1 b.1 ha) ?_
 simp -implicitDefEqProofs only [↓zb,push_cast,simprocAttr,tt]
 exact N7
namespace Ka
abbrev cK:Nat:=117
abbrev cwK:List Nat:=[3,3]
abbrev leK:KE->KE->Bool:=leKk
theorem ordK:Ord leK:=ordKk
abbrev cmK (x y:KE):Int:=cmpR x.1 y.1
abbrev wokK (x:KE):Prop:=x.1.length<=1000
theorem qa (x y:KE):leK x y=false ↔ cmK y x<0:=leR_false x.1 y.1
def qK:= @c_cmpKk
theorem qA (x y:KE):decide (cmK (x) (y)<0)= !(leK y x):=Jj
theorem mid_getK (p s:List KE) (x:KE):(p++x::s).getD p.length default=x:=by simp [Yf]
theorem yN {l p s:List KE} {x:KE} {n:Nat} (hl:l=p++x::s) (hn:n=p.length):l.getD n default=x:=by rw [hl,hn,mid_getK]
theorem wv {V:List KE} (hV:Asc leK V) {v:Nat} (hv:v<V.length) {x:KE} (h:leK (V.getD v default) x=true): ∀y∈V.take (v+1),leK y x=true:=N2
theorem wI {V:List KE} (hV:Asc leK V) {v:Nat} (hv:v<V.length) {x:KE} (h:leK x (V.getD v default)=true): ∀y∈V.drop v,leK x y=true:=NZ
theorem c_ins (P U S:List KE) (a b:Nat) (ha:a=P.length) (hb:b=P.length+U.length) (hl:(P++U++S).length≤1000000) (hU: ∀x∈U,wokK (x)):
 ACall Tryz.prog 201 [.sub 1000 (P++U++S).length 0 (P++U++S).length,num a,num b,.clo cK []] [(1000,vecK (P++U++S))] (.tup []) [(1000,vecK (P++zL leK U++S))]:=by
 refine zn mixed ttok Tryz.func201 Tryz.ntmps201 Tryz.results201 ?_;exact Md
end Ka
namespace Ka
theorem wB (n:Nat) (h:n<=4000000):IntKind.i64.wrap (IntKind.u64.wrap (n:Int) / 2)=((n / 2:Nat):Int):=JO
theorem gF {V:List KE} (hV:Asc leK V) {v:Nat} (hv:v<V.length) {x:KE} (h:leK x (V.getD v default)=false): ∀y∈V.take (v+1),leK x y=false:=Jo
theorem gE {V:List KE} (hV:Asc leK V) {v:Nat} (hv:v<V.length) {x:KE} (h:leK (V.getD v default) x=false): ∀y∈V.drop v,leK y x=false:=Jn
theorem c_sym1 (P V S:List KE) (x:KE) (a m b:Nat) (ha:a=P.length) (hm:m=P.length+1) (hb:b=P.length+1+V.length) (hl:(P++x::V++S).length≤1000000) (hV:Asc leK V) (hx:wokK (x)) (hVw: ∀y∈V,wokK (y)):
 ACall Tryz.prog 202 [.sub 1000 (P++x::V++S).length 0 (P++x::V++S).length,num a,num m,num b,.clo cK []] [(1000,vecK (P++x::V++S))] (.tup []) [(1000,vecK (P++List.merge [x] V leK++S))]:=by
 refine enterX ttok Tryz.func202 Tryz.ntmps202 Tryz.results202 ?_
 exact Mf
theorem c_sym2 (P U S:List KE) (y:KE) (a m b:Nat) (ha:a=P.length) (hm:m=P.length+U.length) (hb:b=P.length+U.length+1) (hl:(P++U++y::S).length≤1000000) (hU1:U.length≠1) (hU:Asc leK U) (hy:wokK (y)) (hUw: ∀z∈U,wokK (z)):
 ACall Tryz.prog 202 [.sub 1000 (P++U++y::S).length 0 (P++U++y::S).length,num a,num m,num b,.clo cK []] [(1000,vecK (P++U++y::S))] (.tup []) [(1000,vecK (P++List.merge U [y] leK++S))]:=by
 refine enterX ttok Tryz.func202 Tryz.ntmps202 Tryz.results202 ?_
 exact Mc
end Ka
namespace Ka
def SymOK (U V:List KE):Prop:= ∀(P S:List KE) (a m b:Nat),a=P.length→m=P.length+U.length→b=P.length+U.length+V.length→(P++U++V++S).length≤1000000→
    ACall Tryz.prog 202 [.sub 1000 (P++U++V++S).length 0 (P++U++V++S).length,num a,num m,num b,.clo cK []] [(1000,vecK (P++U++V++S))] (.tup []) [(1000,vecK (P++List.merge U V leK++S))]
structure HidK (p:Prop):Prop where
 it:p
theorem symAK (U V d:List KE) (a m b n s e s0 p1:Nat) (hU:Asc leK U) (hV:Asc leK V) (hm:m=a+U.length) (hb:b=m+V.length)
 (hgu: ∀t,t<U.length->d.getD (a+t) default=U.getD t default) (hgv: ∀t,t<V.length->d.getD (m+t) default=V.getD t default)
 (h1:a<=s) (h2:s<=m) (h3:m<=e) (h4:e<=b) (h5:s+e=n) (h6:p1+1=n) (h7:a<=s0) (q6:s0=a\/s0+b=n) (q5:n<=s0+b)
 (i4:s=s0\/(s0<s/\leK (d.getD (s-1) default) (d.getD (p1-(s-1)) default)=true)): ∀x∈U.take (s-a),∀y∈V.drop (e-m),leK x y=true:=by
 exact ME
theorem symBK (U V d:List KE) (a m b n mid s e r0 p1:Nat) (hU:Asc leK U) (hV:Asc leK V) (hm:m=a+U.length) (hb:b=m+V.length)
 (hgu: ∀t,t<U.length->d.getD (a+t) default=U.getD t default) (hgv: ∀t,t<V.length->d.getD (m+t) default=V.getD t default)
 (h1:a<=s) (h2:s<=m) (h3:m<=e) (h4:e<=b) (h5:s+e=n) (h6:p1+1=n) (hn:n=mid+m) (q7:r0=mid\/r0=m)
 (i5:s=r0\/leK (d.getD s default) (d.getD (p1-s) default)=false): ∀x∈U.drop (s-a),∀y∈V.take (e-m),leK x y=false:=by
 exact Mw
theorem symPlanK (u1 u2 v1 v2 P S:List KE) (a m b N mid s e L:Nat) (au1:Asc leK u1) (au2:Asc leK u2) (av1:Asc leK v1) (av2:Asc leK v2) (wu1: ∀z∈u1,wokK (z)) (wu2: ∀z∈u2,wokK (z)) (wv1: ∀z∈v1,wokK (z)) (wv2: ∀z∈v2,wokK (z))
 (ih: ∀U' V':List KE,U'.length+V'.length<L->0<U'.length->0<V'.length->Asc leK U'->Asc leK V'->(∀z∈U',wokK (z))->(∀z∈V',wokK (z))->SymOK U' V')
 (ha:a=P.length) (lu1:s=a+u1.length) (lu2:m=s+u2.length) (lv1:e=m+v1.length) (lv2:b=e+v2.length) (hmid:mid=s+v1.length) (hL:L+a=b) (h1:a<mid) (h2:mid<b) (hl:N<=1000000) (hN:(P++u1++u2++v1++(v2++S)).length=N):
 ∃d1 d2 d3:List KE,d3=P++(List.merge u1 v1 leK++List.merge u2 v2 leK)++S∧
  (s<m->m<e->ACall Tryz.prog 221 [.sub 1000 N 0 N,num s,num m,num e,.clo cK []] [(1000,vecK (P++u1++u2++v1++(v2++S)))] (.tup []) [(1000,vecK d1)])/\(¬(s<m/\m<e)->P++u1++u2++v1++(v2++S)=d1)/\
  (a<s->s<mid->ACall Tryz.prog 202 [.sub 1000 N 0 N,num a,num s,num mid,.clo cK []] [(1000,vecK d1)] (.tup []) [(1000,vecK d2)])/\(¬(a<s/\s<mid)->d1=d2)/\
  (mid<e->e<b->ACall Tryz.prog 202 [.sub 1000 N 0 N,num mid,num e,num b,.clo cK []] [(1000,vecK d2)] (.tup []) [(1000,vecK d3)])/\(¬(mid<e/\e<b)->d2=d3):=by
 exact Mn
theorem c_symN (U V:List KE) (hU:Asc leK U) (hV:Asc leK V) (hUw: ∀z∈U,wokK (z)) (hVw: ∀z∈V,wokK (z)) (hU2:2≤U.length) (hV2:2≤V.length)
 (ih: ∀U' V':List KE,U'.length+V'.length<U.length+V.length->0<U'.length->0<V'.length->Asc leK U'->Asc leK V'->(∀z∈U',wokK (z))->(∀z∈V',wokK (z))->SymOK U' V'):SymOK U V:=by
 intro P S a m b ha hm hb hl
 refine enterX ttok Tryz.func202 Tryz.ntmps202 Tryz.results202 ?_
 exact Ma
end Ka
namespace Ka
theorem c_symK: ∀(n:Nat) (U V:List KE),U.length+V.length≤n→0<U.length→0<V.length→Asc leK U→Asc leK V→(∀z∈U,wokK (z))→(∀z∈V,wokK (z))→SymOK U V
 | 0,U,V,h,hU,hV,_,_,_,_=>Za
 | n+1,U,V,h,hU,hV,aU,aV,wU,wV=>by
   exact MB
theorem stepAK (l:List KE) (a s:Nat) (hs:0<s) (k:Nat) (ha:a=k * s) (h:a+s<=l.length):
 chk leK s (l.take a)++zL leK ((l.drop a).take s)++l.drop (a+s)=chk leK s (l.take (a+s))++l.drop (a+s):=by
 exact JP
theorem splitAK (l:List KE) (a s:Nat):chk leK s (l.take a)++l.drop a=chk leK s (l.take a)++(l.drop a).take s++l.drop (a+s):=by
 rw [Yn,<-Uo,Yp]
theorem splitBK (l:List KE) (a s:Nat) (hs:0<s) (h:a+2 * s<=l.length):
 chk leK s (l.drop a)=zL leK ((l.drop a).take s)++zL leK ((l.drop (a+s)).take s)++chk leK s (l.drop (a+2 * s)):=by
 exact NL
theorem stepBK (l:List KE) (a s:Nat) (hs:0<s) (k:Nat) (ha:a=k * (2 * s)) (h:a+2 * s<=l.length):
 chk leK (2 * s) (l.take a)++List.merge (zL leK ((l.drop a).take s)) (zL leK ((l.drop (a+s)).take s)) leK=chk leK (2 * s) (l.take (a+2 * s)):=by
 exact N4
theorem c_stab (l:List KE) (hl:l.length≤100000) (hw: ∀z∈l,wokK (z)):
 ACall Tryz.prog 176 [.sub 1000 l.length 0 l.length,num l.length,.clo cK []] [(1000,vecK l)] (.tup []) [(1000,vecK (zL leK l))]:=by
 refine enterX ttok Tryz.func176 Tryz.ntmps176 Tryz.results176 ?_;exact Mb
theorem c_sort (l:List KE) (hl:l.length<=100000) (hw: ∀z∈l,wokK (z)):
 ACall Tryz.prog 116 [.sub 1000 l.length 0 l.length,.clo cK []] [(1000,vecK l)] (.tup []) [(1000,vecK (zL leK l))]:=by
 refine zn mixed ttok Tryz.func116 Tryz.ntmps116 Tryz.results116 ?_;exact He
end Ka
end
end Go.Proofs.YtnmibokjpedkiaaGreatDoor
