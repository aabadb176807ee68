/- Made queries answer as specified (part Wj) -/
import Derived.Test.YtnmibokjpedkiaaGreatDoorWh
set_option maxRecDepth 100000
set_option maxHeartbeats 4000000
set_option linter.all false
namespace Go.Proofs.YtnmibokjpedkiaaGreatDoor
open Go.Am
section
attribute [local simp, local push_cast] Ta aRow rRow
abbrev KRow:=Row×Row
def rKk (k:KRow):List D:=[.sl 3 (zd rV k.1),.sl 3 (zd rV k.2)]
def aKR (k:KRow):A:= .agg [.d (.sl 3 (zd rV k.1)),.d (.sl 3 (zd rV k.2))]
namespace Ka
abbrev KE:=KRow
abbrev rK:KE->List D:=rKk
def vecK (l:List KE):Ob:= .vec 160 2 (zd rK l) 0
attribute [local simp, local push_cast] vecK rKk aKR
theorem yz {p:Prop} {t:UL} {o os':UM} (hp:p) (ho:keepO (lookO o) (inO os') os') (hin:keepIn (inO os') o):retx (some (p,A.tup [])) ⟨t,o⟩ (.tup []) os':=
 ⟨hp,Weak.keep (σ:=⟨[(0,.tup [])],os'⟩) ⟨⟨rfl,by simp [A.closed,closedL]⟩,trivial⟩ ho hin⟩
def swK (l:List KE) (i j:Nat):List KE:=(l.set i (l.getD j default)).set j (l.getD i default)
theorem swK_len (l:List KE) (i j:Nat):(swK l i j).length=l.length:=by simp [swK]
theorem swK_mid (p m s:List KE) (x y:KE):swK (p++x::m++y::s) p.length (p.length+m.length+1)=p++y::m++x::s:=MQ
theorem swK_nb (p s:List KE) (x y:KE):swK (p++x::y::s) p.length (p.length+1)=p++y::x::s:=by
 have:=swK_mid p [] s x y;simpa using this
theorem qX (l:List KE) (i j:Nat) (hi:i<l.length) (hj:j<l.length) (hne:i≠j):swK l i j=swK l j i:=by
 unfold swK;rw [List.set_comm _ _ hne]
theorem set_rK (l:List KE) (i:Nat) (x:KE) (hi:i<l.length):(zd rK l).set i (rK x)=zd rK (l.set i x):=jO rK l i x
def swsK (l:List KE) (a b:Nat):Nat->List KE
 | 0=>l
 | n+1=>swK (swsK l a b n) (a+n) (b+n)
theorem swsK_len (l:List KE) (a b n:Nat):(swsK l a b n).length=l.length:=by
 induction n with
 | zero=>rfl
 | succ n ih=>rw [swsK,swK_len,ih]
theorem qW (p A m B s:List KE) (n:Nat) (hA:A.length=n) (hB:B.length=n): ∀k,k<=n->swsK (p++A++m++B++s) p.length (p.length+n+m.length) k=p++B.take k++A.drop k++m++A.take k++B.drop k++s
 | 0,_=>by simp [swsK]
 | k+1,h=>by
   exact M3
theorem jJ (p A m B s:List KE) (h:A.length=B.length):swsK (p++A++m++B++s) p.length (p.length+A.length+m.length) A.length=p++B++m++A++s:=by
 rw [qW p A m B s A.length rfl h.symm _ (Ys _),Yk,Um,h,Yk,Um];simp
theorem st1_rK (d:List KE) (i:Nat) (x:KE) (hi:i<d.length):(zd rK d).set i (D.sl 3 (zd rV (x).1)::D.sl 3 (zd rV (x).2)::(List.drop 2 ((zd rK d).getD i [])))=zd rK (d.set i x):=by
 rw [xW _ _ _ hi];exact set_rK d i x hi
theorem qv (d:List KE) (i j:Nat) (hi:i<d.length) (hj:j<d.length):((zd rK d).set i (D.sl 3 (zd rV (d.getD j default).1)::D.sl 3 (zd rV (d.getD j default).2)::(List.drop 2 ((zd rK d).getD i [])))).set j (D.sl 3 (zd rV (d.getD i default).1)::D.sl 3 (zd rV (d.getD i default).2)::(List.drop 2 (((zd rK d).set i (D.sl 3 (zd rV (d.getD j default).1)::D.sl 3 (zd rV (d.getD j default).2)::(List.drop 2 ((zd rK d).getD i [])))).getD j [])))=zd rK (swK d i j):=by
 rw [st1_rK d i _ hi,st1_rK _ j _ (Zc hj)];rfl
theorem c_swap (l:List KE) (a b n:Nat) (hl:l.length<=1000000) (ha:a+n<=l.length) (hb:b+n<=l.length) (f:FuncId):
 ACall Tryz.prog 238 [.sub 1000 l.length 0 l.length,num a,num b,num n,.clo f []] [(1000,vecK l)] (.tup []) [(1000,vecK (swsK l a b n))]:=by
 refine zn mixed ttok Tryz.func238 Tryz.ntmps238 Tryz.results238 ?_;exact Mq
theorem c_rot (P X Y S:List KE) (a m b:Nat) (ha:a=P.length) (hm:m=P.length+X.length) (hb:b=P.length+X.length+Y.length) (hl:(P++X++Y++S).length<=1000000) (hX:0<X.length) (hY:0<Y.length) (f:FuncId):
 ACall Tryz.prog 221 [.sub 1000 (P++X++Y++S).length 0 (P++X++Y++S).length,num a,num m,num b,.clo f []] [(1000,vecK (P++X++Y++S))] (.tup []) [(1000,vecK (P++Y++X++S))]:=by
 refine zn mixed ttok Tryz.func221 Tryz.ntmps221 Tryz.results221 ?_
 have hlen:(P++X++Y++S).length=P.length+X.length+Y.length+S.length:=by simp only [List.length_append]
 generalize hN:(P++X++Y++S).length=N at hl hlen ⊢
 have e1:IntKind.i64.wrap ((m:Int)-(a:Int))=((X.length:Nat):Int):=by rw [zt (by omega) (by omega)];omega
 have e2:IntKind.i64.wrap ((b:Int)-(m:Int))=((Y.length:Nat):Int):=by rw [zt (by omega) (by omega)];omega
 simp -implicitDefEqProofs only [argT,e1,e2,↓zb,push_cast,simprocAttr,tt]
 refine zw mixed ttok (fun x:List KE×List KE×List KE×List KE=>(⟨[(10,num x.2.1.length),(11,num x.2.2.1.length),(0,.sub 1000 N 0 N),(2,num m),(4,.clo f [])],[(1000,vecK (x.1++x.2.1++x.2.2.1++x.2.2.2))]⟩:SL)) (fun x=>x.2.1.length+x.2.2.1.length)
  (fun x=>(x.1++x.2.1++x.2.2.1++x.2.2.2).length=N/\x.1.length+x.2.1.length=m/\x.1++x.2.2.1++x.2.1++x.2.2.2=P++Y++X++S/\0<x.2.1.length/\0<x.2.2.1.length) (P,X,Y,S) ⟨hN,hm.symm,rfl,hX,hY⟩ ?_ ?_
 ·exact Weak.keepL (by simp [ends]) (by simp [ends]) (by simp [ends])
 intro I hI ⟨p,x,y,s⟩ ⟨q1,q2,q3,q4,q5⟩
 simp only at q1 q2 q3 q4 q5
 have q1':p.length+x.length+y.length+s.length=N:=by rw [<-q1];simp only [List.length_append]
 simp -implicitDefEqProofs only [↓zb,push_cast,simprocAttr,tt]
 refine za (fun h=>?_) fun h=>?_
 ·have h':x.length≠y.length:=ne_nat h
  have w1:IntKind.i64.wrap ((m:Int)-(x.length:Int))=((p.length:Nat):Int):=by rw [zt (by omega) (by omega)];omega
  refine za (fun g=>?_) fun g=>?_
  ·have g':y.length<x.length:=by have:=of_decide_eq_true g;omega
   have w2:IntKind.i64.wrap ((x.length:Int)-(y.length:Int))=((x.length-y.length:Nat):Int):=by rw [zt (by omega) (by omega)];omega
   have ex:x=x.take y.length++x.drop y.length:=(List.take_append_drop _ _).symm
   have lx:(x.take y.length).length=y.length:=by rw [List.length_take];omega
   have lx2:(x.drop y.length).length=x.length-y.length:=by rw [List.length_drop]
   have hsw:=jJ p (x.take y.length) (x.drop y.length) y s lx
   rw [lx,lx2,show p.length+y.length+(x.length-y.length)=m by omega] at hsw
   have el:p++x.take y.length++x.drop y.length++y++s=p++x++y++s:=by rw [List.append_assoc p,<-ex]
   rw [el] at hsw
   have hc:=c_swap (p++x++y++s) p.length m y.length (by omega) (by omega) (by omega) f
   rw [hsw,q1] at hc
   simp only [w1]
   refine zf [[0],[0],[0],[0],[0]] [(1000,1000)] (hc) ?_
   simp -implicitDefEqProofs only [w2,↓zb,push_cast,simprocAttr,tt]
   exact zi hI (p++y,x.drop y.length,x.take y.length,s) ⟨by simp only [List.length_append,lx,lx2];omega,by simp only [List.length_append,lx2];omega,by simp only;rw [<-q3,List.append_assoc (p++y),<-ex],by show 0<(x.drop y.length).length;omega,by show 0<(x.take y.length).length;omega⟩ (by show (x.drop y.length).length+(x.take y.length).length<x.length+y.length;omega) (Weak.keepL (by simp [lx,lx2,ends]) (by simp [ends]) (by simp [ends]))
  ·have g':x.length<y.length:=by have:=of_decide_eq_false g;omega
   have w2:IntKind.i64.wrap ((y.length:Int)-(x.length:Int))=((y.length-x.length:Nat):Int):=by rw [zt (by omega) (by omega)];omega
   have w3:IntKind.i64.wrap ((m:Int)+(y.length:Int))=((m+y.length:Nat):Int):=by rw [zt (by omega) (by omega)];omega
   have w4:IntKind.i64.wrap (((m+y.length:Nat):Int)-(x.length:Int))=((m+y.length-x.length:Nat):Int):=by rw [zt (by omega) (by omega)];omega
   have ey:y=y.take (y.length-x.length)++y.drop (y.length-x.length):=(List.take_append_drop _ _).symm
   have ly:(y.take (y.length-x.length)).length=y.length-x.length:=by rw [List.length_take];omega
   have ly2:(y.drop (y.length-x.length)).length=x.length:=by rw [List.length_drop];omega
   have hsw:=jJ p x (y.take (y.length-x.length)) (y.drop (y.length-x.length)) s ly2.symm
   rw [ly,show p.length+x.length+(y.length-x.length)=m+y.length-x.length by omega] at hsw
   have el:p++x++y.take (y.length-x.length)++y.drop (y.length-x.length)++s=p++x++y++s:=by rw [List.append_assoc (p++x),<-ey]
   rw [el] at hsw
   have hc:=c_swap (p++x++y++s) p.length (m+y.length-x.length) x.length (by omega) (by omega) (by omega) f
   rw [hsw,q1] at hc
   simp only [w1,w3,w4]
   refine zf [[0],[0],[0],[0],[0]] [(1000,1000)] (hc) ?_
   simp -implicitDefEqProofs only [w2,↓zb,push_cast,simprocAttr,tt]
   exact zi hI (p,y.drop (y.length-x.length),y.take (y.length-x.length),x++s) ⟨by simp only [List.length_append,ly,ly2];omega,by simp only [ly2];omega,by simp only;rw [<-q3,List.append_assoc p,<-ey];simp,by show 0<(y.drop (y.length-x.length)).length;omega,by show 0<(y.take (y.length-x.length)).length;omega⟩ (by show (y.drop (y.length-x.length)).length+(y.take (y.length-x.length)).length<x.length+y.length;omega) (Weak.keepL (by simp [ly,ly2,ends]) (by simp [List.append_assoc,ends]) (by simp [ends]))
 ·have h':x.length=y.length:=kf h
  have w1:IntKind.i64.wrap ((m:Int)-(x.length:Int))=((p.length:Nat):Int):=by rw [zt (by omega) (by omega)];omega
  have hsw:=jJ p x [] y s h'
  rw [List.append_nil,List.append_nil,List.length_nil,Nat.add_zero,q2,q3] at hsw
  have hc:=c_swap (p++x++y++s) p.length m x.length (by omega) (by omega) (by omega) f
  rw [hsw,q1] at hc
  simp only [w1]
  refine zf [[0],[0],[0],[0],[0]] [(1000,1000)] (hc) ?_
  simp -implicitDefEqProofs only [↓zb,push_cast,simprocAttr,tt]
  exact yz trivial (by simp [ends]) (by simp [ends])
end Ka
end
section
attribute [local simp, local push_cast] Ta aRow rRow Ka.vecK rKk aKR
def leKk (x y:KRow):Bool:=leR x.1 y.1
theorem ordKk:Ord leKk:=⟨fun a b c=>ordR.trans a.1 b.1 c.1,fun a b=>ordR.total a.1 b.1⟩
theorem c_cmpKk (a b:KRow) (ha:a.1.length<=1000000):ACall Tryz.prog 117 [aKR a,aKR b] [] (num (cmpR a.1 b.1)) []:=by
 refine zn mixed ttok Tryz.func117 Tryz.ntmps117 Tryz.results117 ?_;generalize hr:num (cmpR a.1 b.1)=R;refine Zn ?_;refine zf [[3],[3]] [] (c_cmpKr a.1 b.1 ha) ?_;exact Nv
namespace Ka
abbrev cK:Nat:=117
abbrev cwK:List Nat:=[3,3]
abbrev leK:KE->KE->Bool:=leKk
theorem ordK:Ord leK:=ordKk
abbrev cmK (x y:KE):Int:=cmpR x.1 y.1
abbrev wokK (x:KE):Prop:=x.1.length<=1000
theorem qd (x y:KE):leK x y=false ↔ cmK y x<0:=leR_false x.1 y.1
def qP:= @c_cmpKk
theorem qE (x y:KE):decide (cmK (x) (y)<0)= !(leK y x):=Jk
theorem mid_getK (p s:List KE) (x:KE):(p++x::s).getD p.length default=x:=by simp [Ye]
theorem yN {l p s:List KE} {x:KE} {n:Nat} (hl:l=p++x::s) (hn:n=p.length):l.getD n default=x:=by rw [hl,hn,mid_getK]
theorem w8 {V:List KE} (hV:Asc leK V) {v:Nat} (hv:v<V.length) {x:KE} (h:leK (V.getD v default) x=true): ∀y∈V.take (v+1),leK y x=true:=N2
theorem wK {V:List KE} (hV:Asc leK V) {v:Nat} (hv:v<V.length) {x:KE} (h:leK x (V.getD v default)=true): ∀y∈V.drop v,leK x y=true:=NY
theorem c_ins (P U S:List KE) (a b:Nat) (ha:a=P.length) (hb:b=P.length+U.length) (hl:(P++U++S).length≤1000000) (hU: ∀x∈U,wokK (x)):
 ACall Tryz.prog 201 [.sub 1000 (P++U++S).length 0 (P++U++S).length,num a,num b,.clo cK []] [(1000,vecK (P++U++S))] (.tup []) [(1000,vecK (P++zL leK U++S))]:=by
 refine zn mixed ttok Tryz.func201 Tryz.ntmps201 Tryz.results201 ?_;exact Md
end Ka
namespace Ka
theorem wD (n:Nat) (h:n<=4000000):IntKind.i64.wrap (IntKind.u64.wrap (n:Int) / 2)=((n / 2:Nat):Int):=JR
theorem gK {V:List KE} (hV:Asc leK V) {v:Nat} (hv:v<V.length) {x:KE} (h:leK x (V.getD v default)=false): ∀y∈V.take (v+1),leK x y=false:=Jq
theorem gJ {V:List KE} (hV:Asc leK V) {v:Nat} (hv:v<V.length) {x:KE} (h:leK (V.getD v default) x=false): ∀y∈V.drop v,leK y x=false:=Jp
theorem c_sym1 (P V S:List KE) (x:KE) (a m b:Nat) (ha:a=P.length) (hm:m=P.length+1) (hb:b=P.length+1+V.length) (hl:(P++x::V++S).length≤1000000) (hV:Asc leK V) (hx:wokK (x)) (hVw: ∀y∈V,wokK (y)):
 ACall Tryz.prog 202 [.sub 1000 (P++x::V++S).length 0 (P++x::V++S).length,num a,num m,num b,.clo cK []] [(1000,vecK (P++x::V++S))] (.tup []) [(1000,vecK (P++List.merge [x] V leK++S))]:=by
 refine enterX ttok Tryz.func202 Tryz.ntmps202 Tryz.results202 ?_;exact Mf
theorem c_sym2 (P U S:List KE) (y:KE) (a m b:Nat) (ha:a=P.length) (hm:m=P.length+U.length) (hb:b=P.length+U.length+1) (hl:(P++U++y::S).length≤1000000) (hU1:U.length≠1) (hU:Asc leK U) (hy:wokK (y)) (hUw: ∀z∈U,wokK (z)):
 ACall Tryz.prog 202 [.sub 1000 (P++U++y::S).length 0 (P++U++y::S).length,num a,num m,num b,.clo cK []] [(1000,vecK (P++U++y::S))] (.tup []) [(1000,vecK (P++List.merge U [y] leK++S))]:=by
 refine enterX ttok Tryz.func202 Tryz.ntmps202 Tryz.results202 ?_
 have hlen:(P++U++y::S).length=P.length+U.length+S.length+1:=by simp only [List.length_append,List.length_cons];omega
 obtain ⟨u,hu⟩: ∃u,u=U.length:=⟨_,rfl⟩
 have e1:IntKind.i64.wrap ((m:Int)-(a:Int))=(u:Int):=by rw [zt (by omega) (by omega)];omega
 have e2:IntKind.i64.wrap ((b:Int)-(m:Int))=1:=by rw [zt (by omega) (by omega)];omega
 have hne:((u:Int)==1)=false:=by simp;omega
 have hgy:(P++U++y::S).getD m default=y:=yN (p:=P++U) (s:=S) rfl (by rw [hm,List.length_append])
 have hgu: ∀t,t<U.length->(P++U++y::S).getD (a+t) default=U.getD t default:=fun t ht=>
  yN (p:=P++U.take t) (s:=U.drop (t+1)++y::S) (by
   have h1:U=U.take t++U.getD t default::U.drop (t+1):=by rw [<-zA U t ht,List.take_append_drop]
   calc P++U++y::S=P++(U.take t++U.getD t default::U.drop (t+1))++y::S:=by rw [<-h1]
    _=_:=by simp) (by simp only [List.length_append,List.length_take];omega)
 generalize hN:(P++U++y::S).length=N at hl hlen ⊢
 refine zO mixed ttok ?_
 simp -implicitDefEqProofs only [argT,e1,hne,↓zb,push_cast,simprocAttr,tt]
 refine zO mixed ttok ?_
 simp -implicitDefEqProofs only [e2,↓zb,push_cast,simprocAttr,tt]
 obtain ⟨d,hd⟩: ∃d,d=P++U++y::S:=⟨_,rfl⟩
 rw [<-hd] at hgy hgu hN ⊢
 refine zw mixed ttok (fun x:Nat×Nat=>(⟨[(14,num (a+x.1:Nat)),(15,num (a+x.2:Nat)),(0,.sub 1000 N 0 N),(1,num a),(2,num m),(3,num b),(4,.clo cK [])],[(1000,vecK d)]⟩:SL)) (fun x=>x.2-x.1)
  (fun x=>x.1<=x.2/\x.2<=U.length/\(∀z∈U.take x.1,leK z y=true)/\ ∀z∈U.drop x.2,leK z y=false) (0,U.length) ⟨Nat.zero_le _,Nat.le_refl _,by simp,by simp⟩ ?_ ?_
 ·have hbm:m=a+U.length:=by omega
  exact Weak.keepL (by simp [hbm,ends]) (by simp [ends]) (by simp [ends])
 intro I hI ⟨p,q⟩ ⟨hpq,hq,h1,h2⟩
 simp only at hpq hq h1 h2
 generalize hi:a+p=i
 generalize hj:a+q=j
 simp -implicitDefEqProofs only [↓zb,push_cast,simprocAttr,tt]
 refine za (fun g=>?_) fun g=>?_
 ·have g':p<q:=by have:=of_decide_eq_true g;omega
  obtain ⟨h,hh⟩: ∃h,h=a+(p+q) / 2:=⟨_,rfl⟩
  have ehalf:IntKind.i64.wrap (IntKind.u64.wrap (IntKind.i64.wrap ((i:Int)+(j:Int))) / 2)=(h:Int):=by
   have h1:IntKind.i64.wrap ((i:Int)+(j:Int))=((i+j:Nat):Int):=by rw [zt (by omega) (by omega)];omega
   rw [h1,wD _ (by omega)]
   omega
  have hgt:d.getD h default=U.getD ((p+q) / 2) default:=by rw [hh];exact hgu _ (by omega)
  simp only [ehalf,Int.toNat_natCast]
  repeat' first | refine And.intro ?_ ?_ | omega | (exact ze (by kernel_rfl)) | (simp only [zc,List.length_set];done) | (simp only [List.length_set,zc];omega) | decide
  rw [hgt,hgy]
  refine zf [cwK,cwK] [] (qP y (U.getD ((p+q) / 2) default) (Nat.le_trans hy (by decide))) ?_
  simp -implicitDefEqProofs only [ehalf,↓zb,push_cast,simprocAttr,tt]
  rw [qE]
  refine ⟨ze (by kernel_rfl),?_⟩
  have ew:IntKind.i64.wrap ((h:Int)+1)=((a+((p+q) / 2+1):Nat):Int):=by rw [zt (by omega) (by omega)];omega
  refine za (fun q1=>?_) fun q1=>?_
  ·have q1':leK (U.getD ((p+q) / 2) default) y=true:=by simpa using q1
   exact zi hI ((p+q) / 2+1,q) ⟨by show (p+q) / 2+1<=q;omega,hq,w8 hU (by omega) q1',h2⟩ (by show q-((p+q) / 2+1)<q-p;omega) (Weak.keepL (by simp [ew,<-hj,ends]) (by simp [ends]) (by simp [ends]))
  ·have q1':leK (U.getD ((p+q) / 2) default) y=false:=by simpa using q1
   exact zi hI (p,(p+q) / 2) ⟨by show p<=(p+q) / 2;omega,by show (p+q) / 2<=U.length;omega,h1,gJ hU (by omega) q1'⟩ (by show (p+q) / 2-p<q-p;omega) (Weak.keepL (by simp [hh,<-hi,ends]) (by simp [ends]) (by simp [ends]))
 have g':p=q:=by have:=of_decide_eq_false g;omega
 subst g'
 have hmg:=mg_in_r (le:=leK) h1 h2
 rw [List.take_append_drop] at hmg
 have hend:P++List.merge U [y] leK++S=P++U.take p++y::U.drop p++S:=by rw [hmg];simp
 rw [hend,hd]
 clear hmg hend hgy hgu hI
 have hd0:P++U++y::S=P++U.take U.length++y::U.drop U.length++S:=by simp
 rw [hd0]
 refine zw mixed ttok (fun t:Nat=>(⟨[(17,num (a+t:Nat)),(14,num i),(0,.sub 1000 N 0 N),(1,num a)],[(1000,vecK (P++U.take t++y::U.drop t++S))]⟩:SL)) (fun t=>t) (fun t=>p<=t/\t<=U.length) U.length ⟨by omega,Nat.le_refl _⟩ ?_ ?_
 ·have hbm:m=a+U.length:=by omega
  exact Weak.keepL (by simp [hbm,ends]) (by simp [ends]) (by simp [ends])
 intro I hI t ⟨ht,htl⟩
 have hdl:(P++U.take t++y::U.drop t++S).length=N:=by
  rw [<-hN,hd];simp only [List.length_append,List.length_cons,List.length_take,List.length_drop];omega
 have hsw:0<t->swK (P++U.take t++y::U.drop t++S) (a+t) (a+t-1)=P++U.take (t-1)++y::U.drop (t-1)++S:=fun h0=>by
  have ht2:=zy U (t-1) (by omega)
  rw [show t-1+1=t by omega] at ht2
  have hd2:=zA U (t-1) (by omega)
  rw [show t-1+1=t by omega] at hd2
  have hn:=swK_nb (P++U.take (t-1)) (U.drop t++S) (U.getD (t-1) default) y
  have hl1:(P++U.take (t-1)).length=a+t-1:=by rw [List.length_append,List.length_take];omega
  rw [hl1,show a+t-1+1=a+t by omega] at hn
  rw [qX _ _ _ (by omega) (by omega) (by omega),ht2,hd2]
  have e1:P++(U.take (t-1)++[U.getD (t-1) default])++y::U.drop t++S=(P++U.take (t-1))++U.getD (t-1) default::y::(U.drop t++S):=by simp
  rw [e1,hn]
  simp
 generalize hdt:P++U.take t++y::U.drop t++S=dt at *
 generalize hk:a+t=k at *
 simp -implicitDefEqProofs only [↓zb,push_cast,simprocAttr,tt]
 refine za (fun g=>?_) fun g=>?_
 ·have g':p<t:=by have:=of_decide_eq_true g;omega
  have w1:IntKind.i64.wrap ((k:Int)-1)=((k-1:Nat):Int):=by rw [zt (by omega) (by omega)];omega
  have hst:=qv dt k (k-1) (by omega) (by omega)
  simp only [w1,Int.toNat_natCast]
  repeat' first | refine And.intro ?_ ?_ | omega | (exact ze (by kernel_rfl)) | (simp only [zc,List.length_set];done) | (simp only [List.length_set,zc];omega) | decide
  rw [hst,hsw (by omega)]
  have hk2:k-1=a+(t-1):=by omega
  exact zi hI (t-1) ⟨by omega,by omega⟩ (by show t-1<t;omega) (Weak.keepL (by simp [hk2,ends]) (by simp [ends]) (by simp [ends]))
 ·have g':t=p:=by have:=of_decide_eq_false g;omega
  subst g'
  rw [hdt]
  exact yz trivial (by simp [ends]) (by simp [ends])
end Ka
namespace Ka
def SymOK (U V:List KE):Prop:= ∀(P S:List KE) (a m b:Nat),a=P.length→m=P.length+U.length→b=P.length+U.length+V.length→(P++U++V++S).length≤1000000→
    ACall Tryz.prog 202 [.sub 1000 (P++U++V++S).length 0 (P++U++V++S).length,num a,num m,num b,.clo cK []] [(1000,vecK (P++U++V++S))] (.tup []) [(1000,vecK (P++List.merge U V leK++S))]
structure HidK (p:Prop):Prop where
 it:p
theorem symAK (U V d:List KE) (a m b n s e s0 p1:Nat) (hU:Asc leK U) (hV:Asc leK V) (hm:m=a+U.length) (hb:b=m+V.length)
 (hgu: ∀t,t<U.length->d.getD (a+t) default=U.getD t default) (hgv: ∀t,t<V.length->d.getD (m+t) default=V.getD t default)
 (h1:a<=s) (h2:s<=m) (h3:m<=e) (h4:e<=b) (h5:s+e=n) (h6:p1+1=n) (h7:a<=s0) (q6:s0=a\/s0+b=n) (q5:n<=s0+b)
 (i4:s=s0\/(s0<s/\leK (d.getD (s-1) default) (d.getD (p1-(s-1)) default)=true)): ∀x∈U.take (s-a),∀y∈V.drop (e-m),leK x y=true:=by
 exact ME
theorem symBK (U V d:List KE) (a m b n mid s e r0 p1:Nat) (hU:Asc leK U) (hV:Asc leK V) (hm:m=a+U.length) (hb:b=m+V.length)
 (hgu: ∀t,t<U.length->d.getD (a+t) default=U.getD t default) (hgv: ∀t,t<V.length->d.getD (m+t) default=V.getD t default)
 (h1:a<=s) (h2:s<=m) (h3:m<=e) (h4:e<=b) (h5:s+e=n) (h6:p1+1=n) (hn:n=mid+m) (q7:r0=mid\/r0=m)
 (i5:s=r0\/leK (d.getD s default) (d.getD (p1-s) default)=false): ∀x∈U.drop (s-a),∀y∈V.take (e-m),leK x y=false:=by
 exact Mv
theorem symPlanK (u1 u2 v1 v2 P S:List KE) (a m b N mid s e L:Nat) (au1:Asc leK u1) (au2:Asc leK u2) (av1:Asc leK v1) (av2:Asc leK v2) (wu1: ∀z∈u1,wokK (z)) (wu2: ∀z∈u2,wokK (z)) (wv1: ∀z∈v1,wokK (z)) (wv2: ∀z∈v2,wokK (z))
 (ih: ∀U' V':List KE,U'.length+V'.length<L->0<U'.length->0<V'.length->Asc leK U'->Asc leK V'->(∀z∈U',wokK (z))->(∀z∈V',wokK (z))->SymOK U' V')
 (ha:a=P.length) (lu1:s=a+u1.length) (lu2:m=s+u2.length) (lv1:e=m+v1.length) (lv2:b=e+v2.length) (hmid:mid=s+v1.length) (hL:L+a=b) (h1:a<mid) (h2:mid<b) (hl:N<=1000000) (hN:(P++u1++u2++v1++(v2++S)).length=N):
 ∃d1 d2 d3:List KE,d3=P++(List.merge u1 v1 leK++List.merge u2 v2 leK)++S∧
  (s<m->m<e->ACall Tryz.prog 221 [.sub 1000 N 0 N,num s,num m,num e,.clo cK []] [(1000,vecK (P++u1++u2++v1++(v2++S)))] (.tup []) [(1000,vecK d1)])/\(¬(s<m/\m<e)->P++u1++u2++v1++(v2++S)=d1)/\
  (a<s->s<mid->ACall Tryz.prog 202 [.sub 1000 N 0 N,num a,num s,num mid,.clo cK []] [(1000,vecK d1)] (.tup []) [(1000,vecK d2)])/\(¬(a<s/\s<mid)->d1=d2)/\
  (mid<e->e<b->ACall Tryz.prog 202 [.sub 1000 N 0 N,num mid,num e,num b,.clo cK []] [(1000,vecK d2)] (.tup []) [(1000,vecK d3)])/\(¬(mid<e/\e<b)->d2=d3):=by
 exact Mm
theorem c_symN (U V:List KE) (hU:Asc leK U) (hV:Asc leK V) (hUw: ∀z∈U,wokK (z)) (hVw: ∀z∈V,wokK (z)) (hU2:2≤U.length) (hV2:2≤V.length)
 (ih: ∀U' V':List KE,U'.length+V'.length<U.length+V.length->0<U'.length->0<V'.length->Asc leK U'->Asc leK V'->(∀z∈U',wokK (z))->(∀z∈V',wokK (z))->SymOK U' V'):SymOK U V:=by
 intro P S a m b ha hm hb hl
 refine enterX ttok Tryz.func202 Tryz.ntmps202 Tryz.results202 ?_
 have hlen:(P++U++V++S).length=P.length+U.length+V.length+S.length:=by simp only [List.length_append]
 obtain ⟨u,hu⟩: ∃u,u=U.length:=⟨_,rfl⟩
 obtain ⟨v,hv⟩: ∃v,v=V.length:=⟨_,rfl⟩
 rw [<-hu] at hm hb hU2 hlen
 rw [<-hv] at hb hV2 hlen
 have e1:IntKind.i64.wrap ((m:Int)-(a:Int))=(u:Int):=by rw [zt (by omega) (by omega)];omega
 have e2:IntKind.i64.wrap ((b:Int)-(m:Int))=(v:Int):=by rw [zt (by omega) (by omega)];omega
 have hne:((u:Int)==1)=false:=by simp;omega
 have hne2:((v:Int)==1)=false:=by simp;omega
 have hgv: ∀t,t<V.length->(P++U++V++S).getD (m+t) default=V.getD t default:=fun t ht=>
  yN (p:=P++U++V.take t) (s:=V.drop (t+1)++S) (by
   have h1:V=V.take t++V.getD t default::V.drop (t+1):=by rw [<-zA V t ht,List.take_append_drop]
   calc P++U++V++S=P++U++(V.take t++V.getD t default::V.drop (t+1))++S:=by rw [<-h1]
    _=_:=by simp) (by simp only [List.length_append,List.length_take];omega)
 have hgu: ∀t,t<U.length->(P++U++V++S).getD (a+t) default=U.getD t default:=fun t ht=>
  yN (p:=P++U.take t) (s:=U.drop (t+1)++V++S) (by
   have h1:U=U.take t++U.getD t default::U.drop (t+1):=by rw [<-zA U t ht,List.take_append_drop]
   calc P++U++V++S=P++(U.take t++U.getD t default::U.drop (t+1))++V++S:=by rw [<-h1]
    _=_:=by simp) (by simp only [List.length_append,List.length_take];omega)
 generalize hN:(P++U++V++S).length=N at hl hlen ⊢
 obtain ⟨d,hd⟩: ∃d,d=P++U++V++S:=⟨_,rfl⟩
 rw [<-hd] at hgv hgu hN ⊢
 refine zO mixed ttok ?_
 simp -implicitDefEqProofs only [argT,e1,hne,↓zb,push_cast,simprocAttr,tt]
 refine zO mixed ttok ?_
 simp -implicitDefEqProofs only [e2,hne2,↓zb,push_cast,simprocAttr,tt]
 obtain ⟨mid,hmid⟩: ∃mid,mid=(a+b) / 2:=⟨_,rfl⟩
 have ehalf:IntKind.i64.wrap (IntKind.u64.wrap (IntKind.i64.wrap ((a:Int)+(b:Int))) / 2)=(mid:Int):=by
  have h1:IntKind.i64.wrap ((a:Int)+(b:Int))=((a+b:Nat):Int):=by rw [zt (by omega) (by omega)];omega
  rw [h1,wD _ (by omega),hmid]
 obtain ⟨n,hn⟩: ∃n,n=mid+m:=⟨_,rfl⟩
 have en:IntKind.i64.wrap ((mid:Int)+(m:Int))=(n:Int):=by rw [zt (by omega) (by omega)];omega
 have en1:IntKind.i64.wrap ((n:Int)-1)=((n-1:Nat):Int):=by rw [zt (by omega) (by omega)];omega
 have enb:m>mid->IntKind.i64.wrap ((n:Int)-(b:Int))=((n-b:Nat):Int):=fun h=>by rw [zt (by omega) (by omega)];omega
 refine zO mixed ttok ?_
 simp -implicitDefEqProofs only [ehalf,en,↓zb,push_cast,simprocAttr,tt]
 refine ⟨by decide,?_⟩
 refine zO mixed ttok ?_
 simp -implicitDefEqProofs only [en,↓zb,push_cast,simprocAttr,tt]
 refine zO mixed ttok ?_
 simp -implicitDefEqProofs only [↓zb,push_cast,simprocAttr,tt]
 obtain ⟨s0,hs0⟩: ∃s0,s0=if m>mid then n-b else a:=⟨_,rfl⟩
 obtain ⟨r0,hr0⟩: ∃r0,r0=if m>mid then mid else m:=⟨_,rfl⟩
 refine vV mixed ttok (⟨[(18,num mid),(19,num n),(20,num s0),(21,num r0),(0,.sub 1000 N 0 N),(1,num a),(2,num m),(3,num b),(4,.clo cK [])],[(1000,vecK d)]⟩:SL) ?_ ?_
 ·simp -implicitDefEqProofs only [↓zb,push_cast,simprocAttr,tt]
  refine za (fun g=>?_) fun g=>?_
  ·have g':m>mid:=by have:=of_decide_eq_true g;omega
   rw [enb g']
   rw [if_pos g'] at hs0 hr0
   exact Weak.keepL (by simp [<-hs0,hr0,ends]) (by simp [ends]) (by simp [ends])
  ·have g': ¬m>mid:=by have:=of_decide_eq_false g;omega
   rw [if_neg g'] at hs0 hr0
   exact Weak.keepL (by simp [hs0,hr0,ends]) (by simp [ends]) (by simp [ends])
 refine zO mixed ttok ?_
 simp -implicitDefEqProofs only [en1,↓zb,push_cast,simprocAttr,tt]
 obtain ⟨p1,hp1⟩: ∃p1,p1=n-1:=⟨_,rfl⟩
 rw [<-hp1]
 have hb1:a<=s0/\s0<=r0/\r0<=mid/\r0<=m/\n<=s0+b/\(s0=a\/s0+b=n)/\(r0=mid\/r0=m):=by
  by_cases g':m>mid
  ·rw [if_pos g'] at hs0 hr0;omega
  ·rw [if_neg g'] at hs0 hr0;omega
 obtain ⟨q1,q2,q3,q4,q5,q6',q7'⟩:=hb1
 have q6:HidK _:=⟨q6'⟩
 have q7:HidK _:=⟨q7'⟩
 clear q6' q7'
 clear hs0 hr0 enb e1 e2 hne hne2 ehalf
 refine zO mixed ttok ?_
 simp -implicitDefEqProofs only [↓zb,push_cast,simprocAttr,tt]
 refine zw mixed ttok (fun x:Nat×Nat=>(⟨[(20,num x.1),(21,num x.2),(22,num p1),(18,num mid),(19,num n),(0,.sub 1000 N 0 N),(1,num a),(2,num m),(3,num b),(4,.clo cK [])],[(1000,vecK d)]⟩:SL)) (fun x=>x.2-x.1)
  (fun x=>s0<=x.1/\x.1<=x.2/\x.2<=r0/\HidK (x.1=s0\/(s0<x.1/\leK (d.getD (x.1-1) default) (d.getD (p1-(x.1-1)) default)=true))/\HidK (x.2=r0\/leK (d.getD x.2 default) (d.getD (p1-x.2) default)=false)) (s0,r0) ⟨Nat.le_refl _,q2,Nat.le_refl _,⟨.inl rfl⟩,⟨.inl rfl⟩⟩ ?_ ?_
 ·exact Weak.keepL (by simp [ends]) (by simp [ends]) (by simp [ends])
 intro I hI ⟨s,r⟩ ⟨i1,i2,i3,i4,i5⟩
 simp only at i1 i2 i3 i4 i5
 simp -implicitDefEqProofs only [↓zb,push_cast,simprocAttr,tt]
 refine za (fun g=>?_) fun g=>?_
 ·have g':s<r:=by have:=of_decide_eq_true g;omega
  obtain ⟨c,hc⟩: ∃c,c=(s+r) / 2:=⟨_,rfl⟩
  have ehalf:IntKind.i64.wrap (IntKind.u64.wrap (IntKind.i64.wrap ((s:Int)+(r:Int))) / 2)=(c:Int):=by
   have h1:IntKind.i64.wrap ((s:Int)+(r:Int))=((s+r:Nat):Int):=by rw [zt (by omega) (by omega)];omega
   rw [h1,wD _ (by omega),hc]
  have epc:IntKind.i64.wrap ((p1:Int)-(c:Int))=((p1-c:Nat):Int):=by rw [zt (by omega) (by omega)];omega
  have ew:IntKind.i64.wrap ((c:Int)+1)=((c+1:Nat):Int):=by rw [zt (by omega) (by omega)];omega
  have hdv:=hgv (p1-c-m) (by omega)
  rw [show m+(p1-c-m)=p1-c by omega] at hdv
  have hdw:=hVw _ (zk (l:=V) (n:=p1-c-m) (by omega))
  rw [<-hdv] at hdw
  simp only [ehalf,epc,Int.toNat_natCast]
  repeat' first | refine And.intro ?_ ?_ | omega | (exact ze (by kernel_rfl)) | (simp only [zc,List.length_set];done) | (simp only [List.length_set,zc];omega) | decide
  refine zf [cwK,cwK] [] (qP (d.getD (p1-c) default) (d.getD c default) (Nat.le_trans hdw (by decide))) ?_
  simp -implicitDefEqProofs only [ehalf,↓zb,push_cast,simprocAttr,tt]
  rw [qE]
  refine ⟨ze (by kernel_rfl),?_⟩
  refine za (fun k1=>?_) fun k1=>?_
  ·have k1':leK (d.getD c default) (d.getD (p1-c) default)=true:=by simpa using k1
   exact zi hI (c+1,r) ⟨by show s0<=c+1;omega,by show c+1<=r;omega,i3,⟨.inr ⟨by show s0<c+1;omega,by simpa using k1'⟩⟩,i5⟩ (by show r-(c+1)<r-s;omega) (Weak.keepL (by simp [ew,ends]) (by simp [ends]) (by simp [ends]))
  ·have k1':leK (d.getD c default) (d.getD (p1-c) default)=false:=by simpa using k1
   exact zi hI (s,c) ⟨i1,by show s<=c;omega,by show c<=r0;omega,i4,⟨.inr k1'⟩⟩ (by show c-s<r-s;omega) (Weak.keepL (by simp [ends]) (by simp [ends]) (by simp [ends]))
 have g':s=r:=by have:=of_decide_eq_false g;omega
 subst g'
 clear hI
 obtain ⟨e,he⟩: ∃e,e=n-s:=⟨_,rfl⟩
 have ee:IntKind.i64.wrap ((n:Int)-(s:Int))=(e:Int):=by rw [zt (by omega) (by omega)];omega
 refine zO mixed ttok ?_
 simp -implicitDefEqProofs only [ee,↓zb,push_cast,simprocAttr,tt]
 have f1:a<=s:=by omega
 have f2:s<=m:=by omega
 have f3:s<=mid:=by omega
 have f4:m<=e:=by omega
 have f5:e<=b:=by omega
 have f6:s+e=n:=by omega
 have f7:p1+1=n:=by omega
 have f8:a<mid:=by omega
 have f9:mid<b:=by omega
 have hm2:m=a+U.length:=by omega
 have hb2:b=m+V.length:=by omega
 have cA:=symAK U V d a m b n s e s0 p1 hU hV hm2 hb2 hgu hgv f1 f2 f4 f5 f6 f7 q1 q6.it q5 i4.it
 have cB:=symBK U V d a m b n mid s e r0 p1 hU hV hm2 hb2 hgu hgv f1 f2 f4 f5 f6 f7 hn q7.it i5.it
 clear hgu hgv i4 i5 q6 q7 q5 hmid hp1
 have hmg:=vN (le:=leK) _ (U.take (s-a)) (V.take (e-m)) (U.drop (s-a)) (V.drop (e-m)) (Nat.le_refl _) cA cB
 rw [List.take_append_drop,List.take_append_drop] at hmg
 clear cA cB
 have hd0:d=P++U.take (s-a)++U.drop (s-a)++V.take (e-m)++(V.drop (e-m)++S):=by
  rw [hd,List.append_assoc P (U.take (s-a)),List.take_append_drop,List.append_assoc (P++U) (V.take (e-m)),<-List.append_assoc (V.take (e-m)),List.take_append_drop,<-List.append_assoc]
 obtain ⟨d1,d2,d3,hd3,hrot,hno1,hsym1,hno2,hsym2,hno3⟩:=symPlanK (U.take (s-a)) (U.drop (s-a)) (V.take (e-m)) (V.drop (e-m)) P S a m b N mid s e (U.length+V.length)
  (List.Pairwise.sublist (List.take_sublist _ _) hU) (List.Pairwise.sublist (List.drop_sublist _ _) hU) (List.Pairwise.sublist (List.take_sublist _ _) hV) (List.Pairwise.sublist (List.drop_sublist _ _) hV)
  (fun z hz=>hUw z (List.mem_of_mem_take hz)) (fun z hz=>hUw z (List.mem_of_mem_drop hz)) (fun z hz=>hVw z (List.mem_of_mem_take hz)) (fun z hz=>hVw z (List.mem_of_mem_drop hz)) ih
  ha (by rw [List.length_take];omega) (by rw [List.length_drop];omega) (by rw [List.length_take];omega) (by rw [List.length_drop];omega) (by rw [List.length_take];omega) (by omega) f8 f9 hl (by rw [<-hd0];exact hN)
 rw [<-hmg] at hd3
 rw [<-hd0] at hrot hno1
 rw [<-hd3]
 clear hd hd3 ih hU hV hUw hVw hmg hd0
 refine vV mixed ttok (⟨[(18,num mid),(20,num s),(24,num e),(0,.sub 1000 N 0 N),(1,num a),(2,num m),(3,num b),(4,.clo cK [])],[(1000,vecK d1)]⟩:SL) ?_ ?_
 ·simp -implicitDefEqProofs only [↓zb,push_cast,simprocAttr,tt]
  refine za (fun z1=>?_) fun z1=>?_
  ·have z1':s<m:=by have:=of_decide_eq_true z1;omega
   refine za (fun z2=>?_) fun z2=>?_
   ·have z2':m<e:=by have:=of_decide_eq_true z2;omega
    refine zf [[0],[0],[0],[0],[0]] [(1000,1000)] (hrot z1' z2') ?_
    simp -implicitDefEqProofs only [↓zb,push_cast,simprocAttr,tt]
    exact Weak.keepL (by simp [ends]) (by simp [ends]) (by simp [ends])
   ·have z2': ¬m<e:=by have:=of_decide_eq_false z2;omega
    rw [hno1 (fun h=>z2' h.2)]
    exact Weak.keepL (by simp [ends]) (by simp [ends]) (by simp [ends])
  ·have z1': ¬s<m:=by have:=of_decide_eq_false z1;omega
   rw [hno1 (fun h=>z1' h.1)]
   exact Weak.keepL (by simp [ends]) (by simp [ends]) (by simp [ends])
 refine vV mixed ttok (⟨[(18,num mid),(20,num s),(24,num e),(0,.sub 1000 N 0 N),(1,num a),(2,num m),(3,num b),(4,.clo cK [])],[(1000,vecK d2)]⟩:SL) ?_ ?_
 ·simp -implicitDefEqProofs only [↓zb,push_cast,simprocAttr,tt]
  refine za (fun z1=>?_) fun z1=>?_
  ·have z1':a<s:=by have:=of_decide_eq_true z1;omega
   refine za (fun z2=>?_) fun z2=>?_
   ·have z2':s<mid:=by have:=of_decide_eq_true z2;omega
    refine zf [[0],[0],[0],[0],[0]] [(1000,1000)] (hsym1 z1' z2') ?_
    simp -implicitDefEqProofs only [↓zb,push_cast,simprocAttr,tt]
    exact Weak.keepL (by simp [ends]) (by simp [ends]) (by simp [ends])
   ·have z2': ¬s<mid:=by have:=of_decide_eq_false z2;omega
    rw [hno2 (fun h=>z2' h.2)]
    exact Weak.keepL (by simp [ends]) (by simp [ends]) (by simp [ends])
  ·have z1': ¬a<s:=by have:=of_decide_eq_false z1;omega
   rw [hno2 (fun h=>z1' h.1)]
   exact Weak.keepL (by simp [ends]) (by simp [ends]) (by simp [ends])
 refine u3 mixed ttok ?_
 simp -implicitDefEqProofs only [↓zb,push_cast,simprocAttr,tt]
 refine za (fun z1=>?_) fun z1=>?_
 ·have z1':mid<e:=by have:=of_decide_eq_true z1;omega
  refine za (fun z2=>?_) fun z2=>?_
  ·have z2':e<b:=by have:=of_decide_eq_true z2;omega
   refine zf [[0],[0],[0],[0],[0]] [(1000,1000)] (hsym2 z1' z2') ?_
   simp -implicitDefEqProofs only [↓zb,push_cast,simprocAttr,tt]
   exact yz trivial (by simp [ends]) (by simp [ends])
  ·have z2': ¬e<b:=by have:=of_decide_eq_false z2;omega
   rw [hno3 (fun h=>z2' h.2)]
   exact yz trivial (by simp [ends]) (by simp [ends])
 ·have z1': ¬mid<e:=by have:=of_decide_eq_false z1;omega
  rw [hno3 (fun h=>z1' h.1)]
  exact yz trivial (by simp [ends]) (by simp [ends])
end Ka
namespace Ka
theorem c_symK: ∀(n:Nat) (U V:List KE),U.length+V.length≤n→0<U.length→0<V.length→Asc leK U→Asc leK V→(∀z∈U,wokK (z))→(∀z∈V,wokK (z))→SymOK U V
 | 0,U,V,h,hU,hV,_,_,_,_=>Za
 | n+1,U,V,h,hU,hV,aU,aV,wU,wV=>by
   exact MA
theorem stepAK (l:List KE) (a s:Nat) (hs:0<s) (k:Nat) (ha:a=k * s) (h:a+s<=l.length):
 chk leK s (l.take a)++zL leK ((l.drop a).take s)++l.drop (a+s)=chk leK s (l.take (a+s))++l.drop (a+s):=by
 exact JS
theorem splitAK (l:List KE) (a s:Nat):chk leK s (l.take a)++l.drop a=chk leK s (l.take a)++(l.drop a).take s++l.drop (a+s):=by
 rw [Yn,<-Uo,Yp]
theorem splitBK (l:List KE) (a s:Nat) (hs:0<s) (h:a+2 * s<=l.length):
 chk leK s (l.drop a)=zL leK ((l.drop a).take s)++zL leK ((l.drop (a+s)).take s)++chk leK s (l.drop (a+2 * s)):=by
 exact NL
theorem stepBK (l:List KE) (a s:Nat) (hs:0<s) (k:Nat) (ha:a=k * (2 * s)) (h:a+2 * s<=l.length):
 chk leK (2 * s) (l.take a)++List.merge (zL leK ((l.drop a).take s)) (zL leK ((l.drop (a+s)).take s)) leK=chk leK (2 * s) (l.take (a+2 * s)):=by
 exact N4
theorem c_stab (l:List KE) (hl:l.length≤100000) (hw: ∀z∈l,wokK (z)):
 ACall Tryz.prog 176 [.sub 1000 l.length 0 l.length,num l.length,.clo cK []] [(1000,vecK l)] (.tup []) [(1000,vecK (zL leK l))]:=by
 refine enterX ttok Tryz.func176 Tryz.ntmps176 Tryz.results176 ?_;exact Mb
theorem c_sort (l:List KE) (hl:l.length<=100000) (hw: ∀z∈l,wokK (z)):
 ACall Tryz.prog 116 [.sub 1000 l.length 0 l.length,.clo cK []] [(1000,vecK l)] (.tup []) [(1000,vecK (zL leK l))]:=by
 refine zn mixed ttok Tryz.func116 Tryz.ntmps116 Tryz.results116 ?_;exact Kk
end Ka
end
end Go.Proofs.YtnmibokjpedkiaaGreatDoor
