/- Joins of two tables: a proof over an abstract machine of our own (part Wh) -/
import Derived.Test.YtnmibokjpedkiaaGreatDoorWd
set_option maxRecDepth 100000
set_option maxHeartbeats 4000000
set_option linter.all false
namespace Go.Proofs.YtnmibokjpedkiaaGreatDoor
section
open Go.Am
attribute [local simp, local push_cast] num boo str ints aV aTab zv aS aT aC aRow rRow
theorem c_cmpF (a b:List Val) (ha:a.length≤1000000):ACall Tryz.prog 177 [aRow a,aRow b,.clo 178 []] [] (num (cmpR a b)) []:=by
 refine zn mixed ttok Tryz.func177 Tryz.ntmps177 Tryz.results177 ?_
 generalize hr:num (cmpR a b)=R
 simp -implicitDefEqProofs only [argT,↓zb,push_cast,simprocAttr,tte]
 refine zI mixed ttok (fun n:Nat=>(⟨[(13,num n),(12,num a.length),(11,aRow a),(0,aRow a),(1,aRow b),(2,.clo 178 [])],[]⟩:SL)) (fun n=>a.length-n) (fun n=>n<=a.length/\n<=b.length/\cmpR (a.drop n) (b.drop n)=cmpR a b) 0 ⟨Nat.zero_le _,Nat.zero_le _,rfl⟩ ?_ ?_
 ·exact Weak.keepL (by simp [ends]) (by simp [ends]) (by simp [ends])
 intro I hI n ⟨hn,hn2,hi⟩
 simp -implicitDefEqProofs only [↓zb,push_cast,simprocAttr,tte]
 refine za (fun h1=>?_) fun h1=>?_
 ·have h1':n<a.length:=by have:=of_decide_eq_true h1;omega
  refine ⟨by omega,?_⟩
  refine za (fun h2=>?_) fun h2=>?_
  ·have h2':b.length≤n:=by have:=of_decide_eq_true h2;omega
   rw [go hn hn2 (.inr (by omega)),if_neg (by omega),if_pos (by omega)] at hi
   exact zi trivial (by rw [<-hr,<-hi];rfl) (by simp [ends])
  ·have h2':n<b.length:=by have:=of_decide_eq_false h2;omega
   have hw:=zj h1' (by omega)
   rw [z8 _ _ h1',z8 _ _ h2',cmpR] at hi
   refine ⟨by omega,?_⟩
   refine ze [[0,0,0],[0,0,0]] [] (c_compare (a.getD n default) (b.getD n default)) ?_
   simp -implicitDefEqProofs only [↓zb,push_cast,simprocAttr,tte]
   refine za (fun g=>?_) fun g=>?_
   ·rw [if_pos (by simpa using g)] at hi
    exact zi trivial (by rw [<-hr,<-hi];rfl) (by simp [ends])
   ·rw [if_neg (by simpa using g)] at hi
    exact zm hI (n+1) ⟨h1',h2',hi⟩ (by show a.length-(n+1)<a.length-n;omega) (Weak.keepL (by simp [hw,ends]) (by simp [ends]) (by simp [ends]))
 ·have h1':n=a.length:=by have:=of_decide_eq_false h1;omega
  rw [go hn hn2 (.inl h1')] at hi
  refine za (fun k1=>?_) fun k1=>?_
  ·have k1':a.length<b.length:=by have:=of_decide_eq_true k1;omega
   exact zi trivial (by rw [<-hr,<-hi,if_pos k1'];rfl) (by simp [ends])
  ·have k1': ¬a.length<b.length:=by have:=of_decide_eq_false k1;omega
   exact zi trivial (by rw [<-hr,<-hi,if_neg k1',if_neg (by omega)];rfl) (by simp [ends])
theorem c_cmpKr (a b:List Val) (ha:a.length<=1000000):ACall Tryz.prog 118 [aRow a,aRow b] [] (num (cmpR a b)) []:=by
 refine zn mixed ttok Tryz.func118 Tryz.ntmps118 Tryz.results118 ?_
 generalize hr:num (cmpR a b)=R
 simp -implicitDefEqProofs only [argT,↓zb,push_cast,simprocAttr,tte]
 refine ze [[3],[3],[]] [] (c_cmpF a b ha) ?_
 simp -implicitDefEqProofs only [↓zb,push_cast,simprocAttr,tte]
 exact zi trivial (by rw [<-hr];rfl) (by simp [ends])
theorem c_cloneR' (l:List Val) (R:A) (hr:aRow l=R) (hl:l.length<=1000000):ACall Tryz.prog 122 [aRow l] [] R []:=by
 refine zn mixed ttok Tryz.func122 Tryz.ntmps122 Tryz.results122 ?_
 cases l with
 | nil=>
   simp -implicitDefEqProofs only [argT,zY,List.isEmpty_nil,if_true,↓zb,push_cast,simprocAttr,tte]
   refine ⟨?_,?_⟩
   ·refine zu [3] rfl (by simp) (by simp [zc]<;>omega) ?_ (by first | rfl | simp [ends] | (subst_vars;simp [ends])) (by simp [ends]) (by simp [ends])
    exact hr
   ·refine zu [3] rfl (by simp) (by simp [zc]<;>omega) ?_ (by first | rfl | simp [ends] | (subst_vars;simp [ends])) (by simp [ends]) (by simp [ends])
    exact hr
 | cons x l=>
   simp only [List.length_cons] at hl
   simp -implicitDefEqProofs only [argT,zG,List.isEmpty_cons,↓zb,push_cast,simprocAttr,tte]
   refine ⟨by omega,?_⟩
   refine zu [3] rfl (by simp) (by simp [zc]<;>omega) ?_ (by first | rfl | simp [ends] | (subst_vars;simp [ends])) (by simp [ends]) (by simp [ends])
   exact hr
theorem c_cloneR (l:List Val) (hl:l.length<=1000000):ACall Tryz.prog 122 [aRow l] [] (aRow l) []:=c_cloneR' l _ rfl hl
end
section
open Go.Am
attribute [local simp, local push_cast] num boo str ints aV aTab zv aS aT aC aRow rRow
def yt (l:List Row):Ob:= .vec 53 1 (zd rRow l) 0
attribute [local simp, local push_cast] yt
theorem xt {p:Prop} {t:List (Nat×A)} {o os':List (Nat×Ob)} (hp:p) (ho:keepO (lookO o) (inO os') os') (hin:keepIn (inO os') o):retx (some (p,A.tup [])) ⟨t,o⟩ (.tup []) os':=
 ⟨hp,Weak.keep (σ:=⟨[(0,.tup [])],os'⟩) ⟨⟨rfl,by simp [A.closed,closedL]⟩,trivial⟩ ho hin⟩
def swKr (l:List Row) (i j:Nat):List Row:=(l.set i (l.getD j default)).set j (l.getD i default)
theorem swK_lenr (l:List Row) (i j:Nat):(swKr l i j).length=l.length:=by simp [swKr]
theorem swK_midr (p m s:List Row) (x y:Row):swKr (p++x::m++y::s) p.length (p.length+m.length+1)=p++y::m++x::s:=by
 have h1:(p++x::m++y::s).getD (p.length+m.length+1) default=y:=by
  have:p.length+m.length+1=(p++x::m).length:=by simp;omega
  rw [this,List.getD_eq_getElem?_getD,List.getElem?_append_right (Nat.le_refl _)]
  simp
 have h2:(p++x::m++y::s).getD p.length default=x:=by
  simp [List.getD_eq_getElem?_getD]
 unfold swKr
 rw [h1,h2]
 have h3:(p++x::m++y::s).set p.length y=p++y::m++y::s:=by simp
 rw [h3]
 have:p.length+m.length+1=(p++y::m).length:=by simp;omega
 rw [this,List.set_append_right _ _ (Nat.le_refl _)]
 simp
theorem swK_nbr (p s:List Row) (x y:Row):swKr (p++x::y::s) p.length (p.length+1)=p++y::x::s:=by
 have:=swK_midr p [] s x y
 simpa using this
theorem swK_symmr (l:List Row) (i j:Nat) (hi:i<l.length) (hj:j<l.length) (hne:i≠j):swKr l i j=swKr l j i:=by
 unfold swKr
 rw [List.set_comm _ _ hne]
theorem set_rKr (l:List Row) (i:Nat) (x:Row) (hi:i<l.length):(zd rRow l).set i (rRow x)=zd rRow (l.set i x):=qp rRow l i x
def jc (l:List Row) (a b:Nat):Nat->List Row
 | 0=>l
 | n+1=>swKr (jc l a b n) (a+n) (b+n)
theorem swsK_lenr (l:List Row) (a b n:Nat):(jc l a b n).length=l.length:=by
 induction n with
 | zero=>rfl
 | succ n ih=>rw [jc,swK_lenr,ih]
theorem swsK_midr (p A m B s:List Row) (n:Nat) (hA:A.length=n) (hB:B.length=n): ∀k,k<=n->jc (p++A++m++B++s) p.length (p.length+n+m.length) k=p++B.take k++A.drop k++m++A.take k++B.drop k++s
 | 0,_=>by simp [jc]
 | k+1,h=>by
   have ih:=swsK_midr p A m B s n hA hB k (by omega)
   have hx:=z8 A k (by omega)
   have hy:=z8 B k (by omega)
   have e:p++B.take k++A.drop k++m++A.take k++B.drop k++s=(p++B.take k)++A.getD k default::(A.drop (k+1)++m++A.take k)++B.getD k default::(B.drop (k+1)++s):=by
    rw [hx,hy];simp
   have l1:(p++B.take k).length=p.length+k:=by rw [List.length_append,List.length_take];omega
   have l2:(A.drop (k+1)++m++A.take k).length=n-1+m.length:=by rw [List.length_append,List.length_append,List.length_take,List.length_drop];omega
   have hm:=swK_midr (p++B.take k) (A.drop (k+1)++m++A.take k) (B.drop (k+1)++s) (A.getD k default) (B.getD k default)
   rw [l1,l2] at hm
   rw [jc,ih,e,show p.length+n+m.length+k=p.length+k+(n-1+m.length)+1 by omega,hm,z7 A k (by omega),z7 B k (by omega)]
   simp
theorem swsK_allr (p A m B s:List Row) (h:A.length=B.length):jc (p++A++m++B++s) p.length (p.length+A.length+m.length) A.length=p++B++m++A++s:=by
 rw [swsK_midr p A m B s A.length rfl h.symm _ (Nat.le_refl _),List.take_length,List.drop_length,h,List.take_length,List.drop_length]
 simp
theorem st1_rKr (d:List Row) (i:Nat) (x:Row) (hi:i<d.length):(zd rRow d).set i (D.sl 3 (zd rV (x))::(List.drop 1 ((zd rRow d).getD i [])))=zd rRow (d.set i x):=by
 rw [wF _ _ _ hi]
 exact set_rKr d i x hi
theorem st2_rKr (d:List Row) (i j:Nat) (hi:i<d.length) (hj:j<d.length):((zd rRow d).set i (D.sl 3 (zd rV (d.getD j default))::(List.drop 1 ((zd rRow d).getD i [])))).set j (D.sl 3 (zd rV (d.getD i default))::(List.drop 1 (((zd rRow d).set i (D.sl 3 (zd rV (d.getD j default))::(List.drop 1 ((zd rRow d).getD i [])))).getD j [])))=zd rRow (swKr d i j):=by
 rw [st1_rKr d i _ hi,st1_rKr _ j _ (by simpa using hj)]
 rfl
theorem c_swapr (l:List Row) (a b n:Nat) (hl:l.length<=1000000) (ha:a+n<=l.length) (hb:b+n<=l.length) (f:FuncId):
 ACall Tryz.prog 250 [.sub 1000 l.length 0 l.length,num a,num b,num n,.clo f []] [(1000,yt l)] (.tup []) [(1000,yt (jc l a b n))]:=by
 refine zn mixed ttok Tryz.func250 Tryz.ntmps250 Tryz.results250 ?_
 simp -implicitDefEqProofs only [argT,↓zb,push_cast,simprocAttr,tte]
 refine zI mixed ttok (fun k:Nat=>(⟨[(10,num k),(0,.sub 1000 l.length 0 l.length),(1,num a),(2,num b),(3,num n)],[(1000,yt (jc l a b k))]⟩:SL)) (fun k=>n-k) (fun k=>k<=n) 0 (Nat.zero_le _) ?_ ?_
 ·exact Weak.keepL (by simp [ends]) (by simp [jc,ends]) (by simp [ends])
 intro I hI k hk
 have hlen:=swsK_lenr l a b k
 have hnx:jc l a b (k+1)=swKr (jc l a b k) (a+k) (b+k):=rfl
 simp -implicitDefEqProofs only [yt,↓zb,push_cast,simprocAttr,tte]
 refine za (fun h=>?_) fun h=>?_
 ·have h':k<n:=by have:=of_decide_eq_true h;omega
  have hw:=zj h' (by omega)
  have h1:IntKind.i64.wrap ((a:Int)+(k:Int))=((a+k:Nat):Int):=by rw [zw (by omega) (by omega)];omega
  have h2:IntKind.i64.wrap ((b:Int)+(k:Int))=((b+k:Nat):Int):=by rw [zw (by omega) (by omega)];omega
  simp only [h1,h2,Int.toNat_natCast]
  have hs:=st2_rKr (jc l a b k) (a+k) (b+k) (by omega) (by omega)
  repeat' first | refine And.intro ?_ ?_ | omega | (exact zf (by kernel_rfl)) | (simp only [zc,List.length_set];done) | (simp only [List.length_set,zc];omega) | decide
  rw [hs,<-hnx]
  exact zm hI (k+1) h' (by show n-(k+1)<n-k;omega) (Weak.keepL (by simp [hw,ends]) (by simp [ends]) (by simp [ends]))
 ·obtain rfl:k=n:=by have:=of_decide_eq_false h;omega
  exact xt trivial (by simp [ends]) (by simp [ends])
theorem c_rotr (P X Y S:List Row) (a m b:Nat) (ha:a=P.length) (hm:m=P.length+X.length) (hb:b=P.length+X.length+Y.length) (hl:(P++X++Y++S).length<=1000000) (hX:0<X.length) (hY:0<Y.length) (f:FuncId):
 ACall Tryz.prog 229 [.sub 1000 (P++X++Y++S).length 0 (P++X++Y++S).length,num a,num m,num b,.clo f []] [(1000,yt (P++X++Y++S))] (.tup []) [(1000,yt (P++Y++X++S))]:=by
 refine zn mixed ttok Tryz.func229 Tryz.ntmps229 Tryz.results229 ?_
 have hlen:(P++X++Y++S).length=P.length+X.length+Y.length+S.length:=by simp only [List.length_append]
 generalize hN:(P++X++Y++S).length=N at hl hlen ⊢
 have e1:IntKind.i64.wrap ((m:Int)-(a:Int))=((X.length:Nat):Int):=by rw [zw (by omega) (by omega)];omega
 have e2:IntKind.i64.wrap ((b:Int)-(m:Int))=((Y.length:Nat):Int):=by rw [zw (by omega) (by omega)];omega
 simp -implicitDefEqProofs only [argT,e1,e2,↓zb,push_cast,simprocAttr,tte]
 refine zI mixed ttok (fun x:List Row×List Row×List Row×List Row=>(⟨[(10,num x.2.1.length),(11,num x.2.2.1.length),(0,.sub 1000 N 0 N),(2,num m),(4,.clo f [])],[(1000,yt (x.1++x.2.1++x.2.2.1++x.2.2.2))]⟩:SL)) (fun x=>x.2.1.length+x.2.2.1.length)
  (fun x=>(x.1++x.2.1++x.2.2.1++x.2.2.2).length=N/\x.1.length+x.2.1.length=m/\x.1++x.2.2.1++x.2.1++x.2.2.2=P++Y++X++S/\0<x.2.1.length/\0<x.2.2.1.length) (P,X,Y,S) ⟨hN,hm.symm,rfl,hX,hY⟩ ?_ ?_
 ·exact Weak.keepL (by simp [ends]) (by simp [ends]) (by simp [ends])
 intro I hI ⟨p,x,y,s⟩ ⟨q1,q2,q3,q4,q5⟩
 simp only at q1 q2 q3 q4 q5
 have q1':p.length+x.length+y.length+s.length=N:=by rw [<-q1];simp only [List.length_append]
 simp -implicitDefEqProofs only [↓zb,push_cast,simprocAttr,tte]
 refine za (fun h=>?_) fun h=>?_
 ·have h':x.length≠y.length:=ne_nat h
  have w1:IntKind.i64.wrap ((m:Int)-(x.length:Int))=((p.length:Nat):Int):=by rw [zw (by omega) (by omega)];omega
  refine za (fun g=>?_) fun g=>?_
  ·have g':y.length<x.length:=by have:=of_decide_eq_true g;omega
   have w2:IntKind.i64.wrap ((x.length:Int)-(y.length:Int))=((x.length-y.length:Nat):Int):=by rw [zw (by omega) (by omega)];omega
   have ex:x=x.take y.length++x.drop y.length:=(List.take_append_drop _ _).symm
   have lx:(x.take y.length).length=y.length:=by rw [List.length_take];omega
   have lx2:(x.drop y.length).length=x.length-y.length:=by rw [List.length_drop]
   have hsw:=swsK_allr p (x.take y.length) (x.drop y.length) y s lx
   rw [lx,lx2,show p.length+y.length+(x.length-y.length)=m by omega] at hsw
   have el:p++x.take y.length++x.drop y.length++y++s=p++x++y++s:=by rw [List.append_assoc p,<-ex]
   rw [el] at hsw
   have hc:=c_swapr (p++x++y++s) p.length m y.length (by omega) (by omega) (by omega) f
   rw [hsw,q1] at hc
   simp only [w1]
   refine ze [[0],[0],[0],[0],[0]] [(1000,1000)] (hc) ?_
   simp -implicitDefEqProofs only [w2,↓zb,push_cast,simprocAttr,tte]
   exact zm hI (p++y,x.drop y.length,x.take y.length,s) ⟨by simp only [List.length_append,lx,lx2];omega,by simp only [List.length_append,lx2];omega,by simp only;rw [<-q3,List.append_assoc (p++y),<-ex],by show 0<(x.drop y.length).length;omega,by show 0<(x.take y.length).length;omega⟩ (by show (x.drop y.length).length+(x.take y.length).length<x.length+y.length;omega) (Weak.keepL (by simp [lx,lx2,ends]) (by simp [ends]) (by simp [ends]))
  ·have g':x.length<y.length:=by have:=of_decide_eq_false g;omega
   have w2:IntKind.i64.wrap ((y.length:Int)-(x.length:Int))=((y.length-x.length:Nat):Int):=by rw [zw (by omega) (by omega)];omega
   have w3:IntKind.i64.wrap ((m:Int)+(y.length:Int))=((m+y.length:Nat):Int):=by rw [zw (by omega) (by omega)];omega
   have w4:IntKind.i64.wrap (((m+y.length:Nat):Int)-(x.length:Int))=((m+y.length-x.length:Nat):Int):=by rw [zw (by omega) (by omega)];omega
   have ey:y=y.take (y.length-x.length)++y.drop (y.length-x.length):=(List.take_append_drop _ _).symm
   have ly:(y.take (y.length-x.length)).length=y.length-x.length:=by rw [List.length_take];omega
   have ly2:(y.drop (y.length-x.length)).length=x.length:=by rw [List.length_drop];omega
   have hsw:=swsK_allr p x (y.take (y.length-x.length)) (y.drop (y.length-x.length)) s ly2.symm
   rw [ly,show p.length+x.length+(y.length-x.length)=m+y.length-x.length by omega] at hsw
   have el:p++x++y.take (y.length-x.length)++y.drop (y.length-x.length)++s=p++x++y++s:=by rw [List.append_assoc (p++x),<-ey]
   rw [el] at hsw
   have hc:=c_swapr (p++x++y++s) p.length (m+y.length-x.length) x.length (by omega) (by omega) (by omega) f
   rw [hsw,q1] at hc
   simp only [w1,w3,w4]
   refine ze [[0],[0],[0],[0],[0]] [(1000,1000)] (hc) ?_
   simp -implicitDefEqProofs only [w2,↓zb,push_cast,simprocAttr,tte]
   exact zm hI (p,y.drop (y.length-x.length),y.take (y.length-x.length),x++s) ⟨by simp only [List.length_append,ly,ly2];omega,by simp only [ly2];omega,by simp only;rw [<-q3,List.append_assoc p,<-ey];simp,by show 0<(y.drop (y.length-x.length)).length;omega,by show 0<(y.take (y.length-x.length)).length;omega⟩ (by show (y.drop (y.length-x.length)).length+(y.take (y.length-x.length)).length<x.length+y.length;omega) (Weak.keepL (by simp [ly,ly2,ends]) (by simp [List.append_assoc,ends]) (by simp [ends]))
 ·have h':x.length=y.length:=ky h
  have w1:IntKind.i64.wrap ((m:Int)-(x.length:Int))=((p.length:Nat):Int):=by rw [zw (by omega) (by omega)];omega
  have hsw:=swsK_allr p x [] y s h'
  rw [List.append_nil,List.append_nil,List.length_nil,Nat.add_zero,q2,q3] at hsw
  have hc:=c_swapr (p++x++y++s) p.length m x.length (by omega) (by omega) (by omega) f
  rw [hsw,q1] at hc
  simp only [w1]
  refine ze [[0],[0],[0],[0],[0]] [(1000,1000)] (hc) ?_
  simp -implicitDefEqProofs only [↓zb,push_cast,simprocAttr,tte]
  exact xt trivial (by simp [ends]) (by simp [ends])
end
section
open Go.Am
attribute [local simp, local push_cast] num boo str ints aV aTab zv aS aT aC aRow rRow yt
theorem leK_falser (x y:Row):leR x y=false ↔ cmpR y x<0:=leR_false x y
theorem leK_ltr (x y:Row):decide (cmpR x y<0)= !(leR y x):=by
 cases h:leR y x with
 | false=>have:=(leK_falser y x).1 h;simpa using this
 | true=>
   have h1: ¬cmpR x y<0:=fun h2=>by rw [(leK_falser y x).2 h2] at h;cases h
   simpa using h1
theorem mid_getKr (p s:List Row) (x:Row):(p++x::s).getD p.length default=x:=by simp [List.getD_eq_getElem?_getD]
theorem xQ {l p s:List Row} {x:Row} {n:Nat} (hl:l=p++x::s) (hn:n=p.length):l.getD n default=x:=by rw [hl,hn,mid_getKr]
theorem uJ {V:List Row} (hV:Asc leR V) {v:Nat} (hv:v<V.length) {x:Row} (h:leR (V.getD v default) x=true): ∀y∈V.take (v+1),leR y x=true:=by
 intro y hy
 rw [z7 _ _ hv,List.mem_append] at hy
 rcases hy with hy | hy
 ·have h1:Asc leR (V.take v++V.getD v default::V.drop (v+1)):=by rw [←z8 V v hv,List.take_append_drop];exact hV
  exact ordR.trans _ _ _ ((List.pairwise_append.1 h1).2.2 y hy _ (by simp)) h
 ·simp at hy;rw [hy];exact h
theorem uV {V:List Row} (hV:Asc leR V) {v:Nat} (hv:v<V.length) {x:Row} (h:leR x (V.getD v default)=true): ∀y∈V.drop v,leR x y=true:=by
 intro y hy
 have h1:Asc leR (V.drop v):=List.Pairwise.sublist (List.drop_sublist _ _) hV
 rw [z8 V v hv] at hy h1
 rcases List.mem_cons.1 hy with rfl | hy
 ·exact h
 ·exact ordR.trans _ _ _ h ((List.pairwise_cons.1 h1).1 y hy)
theorem c_insr (P U S:List Row) (a b:Nat) (ha:a=P.length) (hb:b=P.length+U.length) (hl:(P++U++S).length≤1000000) (hU: ∀x∈U,(x).length≤1000):
 ACall Tryz.prog 211 [.sub 1000 (P++U++S).length 0 (P++U++S).length,num a,num b,.clo 118 []] [(1000,yt (P++U++S))] (.tup []) [(1000,yt (P++yg leR U++S))]:=by
 refine zn mixed ttok Tryz.func211 Tryz.ntmps211 Tryz.results211 ?_
 have hlen:(P++U++S).length=P.length+U.length+S.length:=by simp only [List.length_append]
 generalize hN:(P++U++S).length=N at hl hlen ⊢
 have hw0:=zj (n:=a) (N:=1000001) (by omega) (by omega)
 simp -implicitDefEqProofs only [argT,hw0,↓zb,push_cast,simprocAttr,tte]
 have h1k: ∀k,k<=U.length->(P++yg leR (U.take k)++U.drop k++S).length=N:=fun k hk=>by
  simp only [List.length_append,yj,List.length_take,List.length_drop];omega
 have hk1: ∀x:Row,yg leR [x]=[x]:=fun x=>ssort_one x
 refine zI mixed ttok (fun k:Nat=>(⟨[(8,num (a+k:Nat)),(0,.sub 1000 N 0 N),(1,num a),(2,num b),(3,.clo 118 [])],[(1000,yt (P++yg leR (U.take k)++U.drop k++S))]⟩:SL)) (fun k=>U.length+1-k) (fun k=>1<=k/\(k<=U.length\/k=1)) 1 ⟨Nat.le_refl _,.inr rfl⟩ ?_ ?_
 ·have e1:P++yg leR (U.take 1)++U.drop 1++S=P++U++S:=by
   cases U with
   | nil=>simp [yg]
   | cons x U=>simp [hk1]
  rw [<-e1]
  exact Weak.keepL (by simp [hw0,ends]) (by simp [ends]) (by simp [ends])
 intro I hI k ⟨hk0,hk⟩
 have hwk:=zj (n:=a+k) (N:=2000002) (by omega) (by omega)
 have hwk2:IntKind.i64.wrap (((a+k:Nat):Int)+1)=((a+(k+1):Nat):Int):=hwk
 generalize hak:a+k=i at hwk hwk2
 simp -implicitDefEqProofs only [↓zb,push_cast,simprocAttr,tte]
 refine za (fun h=>?_) fun h=>?_
 ·have h':k<U.length:=by have:=of_decide_eq_true h;omega
  have hV:=yR ordR (U.take k)
  have hVl:(yg leR (U.take k)).length=k:=by rw [yj,List.length_take];omega
  have hVm: ∀y∈yg leR (U.take k),(y).length<=1000:=fun y hy=>hU y (List.mem_of_mem_take ((zA _).mem_iff.1 hy))
  have hxm:=hU _ (zk h')
  have hnext:yg leR (U.take (k+1))=List.merge (yg leR (U.take k)) [U.getD k default] leR:=by
   rw [z7 _ _ h',<-wT ordR,hk1]
  have hlk:=h1k k (by omega)
  have hlk1:=h1k (k+1) (by omega)
  rw [hnext] at hlk1
  rw [z8 U k h'] at hlk ⊢
  obtain ⟨V,hVe⟩: ∃V,V=yg leR (U.take k):=⟨_,rfl⟩
  obtain ⟨x,hxe⟩: ∃x,x=U.getD k default:=⟨_,rfl⟩
  rw [<-hVe] at hV hVl hVm hnext hlk hlk1 ⊢
  rw [<-hxe] at hxm hnext hlk hlk1 ⊢
  have e1:P++V++x::U.drop (k+1)++S=P++V.take k++x::V.drop k++U.drop (k+1)++S:=by
   rw [<-hVl,List.take_length,List.drop_length];simp
  rw [e1]
  refine zI mixed ttok (fun v:Nat=>(⟨[(9,num (a+v:Nat)),(8,num i),(0,.sub 1000 N 0 N),(1,num a),(2,num b),(3,.clo 118 [])],[(1000,yt (P++V.take v++x::V.drop v++U.drop (k+1)++S))]⟩:SL)) (fun v=>v) (fun v=>v<=V.length/\ ∀y∈V.drop v,leR y x=false) k ⟨by omega,by rw [<-hVl,List.drop_length];simp⟩ ?_ ?_
  ·exact Weak.keepL (by simp [<-hak,ends]) (by simp [ends]) (by simp [ends])
  intro J hJ v ⟨hv,hgt⟩
  have hdl:(P++V.take v++x::V.drop v++U.drop (k+1)++S).length=N:=by
   rw [<-hlk];simp only [List.length_append,List.length_cons,List.length_take,List.length_drop];omega
  have hgx:(P++V.take v++x::V.drop v++U.drop (k+1)++S).getD (a+v) default=x:=
   xQ (p:=P++V.take v) (s:=V.drop v++U.drop (k+1)++S) (by simp) (by rw [List.length_append,List.length_take];omega)
  have hend:v=0\/(leR (V.getD (v-1) default) x=true)->P++V.take v++x::V.drop v++U.drop (k+1)++S=P++yg leR (U.take (k+1))++U.drop (k+1)++S:=by
   intro hq
   have h1: ∀y∈V.take v,leR y x=true:=by
    rcases hq with rfl | hq
    ·simp
    ·by_cases h0:v=0
     ·subst h0;simp
     ·have:=uJ hV (v:=v-1) (by omega) hq
      rwa [show v-1+1=v by omega] at this
   have hm:=mg_in_r (le:=leR) h1 hgt
   rw [List.take_append_drop] at hm
   rw [hnext,hm]
   simp
  have hidx:(P++V.take v++x::V.drop v++U.drop (k+1)++S).length<=1000000:=by omega
  have hgy:0<v->(P++V.take v++x::V.drop v++U.drop (k+1)++S).getD (a+v-1) default=V.getD (v-1) default:=fun h0=>
   xQ (p:=P++V.take (v-1)) (s:=x::V.drop v++U.drop (k+1)++S) (by
    have:=z7 V (v-1) (by omega)
    rw [show v-1+1=v by omega] at this
    rw [this];simp) (by rw [List.length_append,List.length_take];omega)
  have hsw:0<v->swKr (P++V.take v++x::V.drop v++U.drop (k+1)++S) (a+v) (a+v-1)=P++V.take (v-1)++x::V.drop (v-1)++U.drop (k+1)++S:=fun h0=>by
   have ht:=z7 V (v-1) (by omega)
   rw [show v-1+1=v by omega] at ht
   have hd:=z8 V (v-1) (by omega)
   rw [show v-1+1=v by omega] at hd
   have hn:=swK_nbr (P++V.take (v-1)) (V.drop v++U.drop (k+1)++S) (V.getD (v-1) default) x
   have hl1:(P++V.take (v-1)).length=a+v-1:=by rw [List.length_append,List.length_take];omega
   rw [hl1,show a+v-1+1=a+v by omega] at hn
   rw [swK_symmr _ _ _ (by omega) (by omega) (by omega),ht,hd]
   have e1:P++(V.take (v-1)++[V.getD (v-1) default])++x::V.drop v++U.drop (k+1)++S=(P++V.take (v-1))++V.getD (v-1) default::x::(V.drop v++U.drop (k+1)++S):=by simp
   rw [e1,hn]
   simp
  have hst:=st2_rKr (P++V.take v++x::V.drop v++U.drop (k+1)++S) (a+v) (a+v-1) (by omega) (by omega)
  generalize hd:P++V.take v++x::V.drop v++U.drop (k+1)++S=d at *
  generalize hj:a+v=j at *
  simp -implicitDefEqProofs only [↓zb,push_cast,simprocAttr,tte]
  refine za (fun g=>?_) fun g=>?_
  ·have g':0<v:=by have:=of_decide_eq_true g;omega
   have w1:IntKind.i64.wrap ((j:Int)-1)=((j-1:Nat):Int):=by rw [zw (by omega) (by omega)];omega
   have hyv:=zk (l:=V) (n:=v-1) (by omega)
   simp only [w1,Int.toNat_natCast]
   repeat' first | refine And.intro ?_ ?_ | omega | (exact zf (by kernel_rfl)) | (simp only [zc,List.length_set];done) | (simp only [List.length_set,zc];omega) | decide
   rw [hgx,hgy g']
   refine ze [[3],[3]] [] (c_cmpKr x (V.getD (v-1) default) (Nat.le_trans hxm (by decide))) ?_
   simp -implicitDefEqProofs only [↓zb,push_cast,simprocAttr,tte]
   rw [leK_ltr]
   refine ⟨zf (by kernel_rfl),?_⟩
   refine za (fun q=>?_) fun q=>?_
   ·have q':leR (V.getD (v-1) default) x=false:=by simpa using q
    simp only [w1,Int.toNat_natCast]
    repeat' first | refine And.intro ?_ ?_ | omega | (exact zf (by kernel_rfl)) | (simp only [zc,List.length_set];done) | (simp only [List.length_set,zc];omega) | decide
    rw [hst,hsw g']
    have hj2:j-1=a+(v-1):=by omega
    refine zm hJ (v-1) ⟨by omega,fun y hy=>?_⟩ (by show v-1<v;omega) (Weak.keepL (by simp [hj2,ends]) (by simp [ends]) (by simp [ends]))
    rw [z8 V (v-1) (by omega),show v-1+1=v by omega] at hy
    rcases List.mem_cons.1 hy with rfl | hy
    ·exact q'
    ·exact hgt y hy
   ·have q':leR (V.getD (v-1) default) x=true:=by simpa using q
    rw [hend (.inr q')]
    exact zm hI (k+1) ⟨by omega,.inl h'⟩ (by show U.length+1-(k+1)<U.length+1-k;omega) (Weak.keepL (by simp [hwk2,ends]) (by simp [ends]) (by simp [ends]))
  ·have g':v=0:=by have:=of_decide_eq_false g;omega
   rw [hend (.inl g')]
   refine ⟨zf (by kernel_rfl),?_⟩
   exact zm hI (k+1) ⟨by omega,.inl h'⟩ (by show U.length+1-(k+1)<U.length+1-k;omega) (Weak.keepL (by simp [hwk2,ends]) (by simp [ends]) (by simp [ends]))
 ·have h':U.length≤k:=by have:=of_decide_eq_false h;omega
  have e1:P++yg leR (U.take k)++U.drop k++S=P++yg leR U++S:=by
   rw [List.take_of_length_le h',List.drop_eq_nil_of_le h',List.append_nil]
  rw [e1]
  exact xt trivial (by simp [ends]) (by simp [ends])
end
section
open Go.Am
attribute [local simp, local push_cast] num boo str ints aV aTab zv aS aT aC aRow rRow yt
theorem uP (n:Nat) (h:n<=4000000):IntKind.i64.wrap (IntKind.u64.wrap (n:Int) / 2)=((n / 2:Nat):Int):=by
 have h1:IntKind.u64.wrap (n:Int)=n:=by unfold IntKind.wrap;simp [IntKind.signed,IntKind.bits];omega
 rw [h1,zw (by omega) (by omega)]
 omega
theorem asc_beforeKr {V:List Row} (hV:Asc leR V) {v:Nat} (hv:v<V.length) {x:Row} (h:leR x (V.getD v default)=false): ∀y∈V.take (v+1),leR x y=false:=by
 intro y hy
 cases hq:leR x y with
 | false=>rfl
 | true=>
   have:=ordR.trans _ _ _ hq (uJ hV hv (x:=V.getD v default) (by have:=ordR.total (V.getD v default) (V.getD v default);simpa using this) y hy)
   rw [h] at this;cases this
theorem asc_behindKr {V:List Row} (hV:Asc leR V) {v:Nat} (hv:v<V.length) {x:Row} (h:leR (V.getD v default) x=false): ∀y∈V.drop v,leR y x=false:=by
 intro y hy
 cases hq:leR y x with
 | false=>rfl
 | true=>
   have:=ordR.trans _ _ _ (uV hV hv (x:=V.getD v default) (by have:=ordR.total (V.getD v default) (V.getD v default);simpa using this) y hy) hq
   rw [h] at this;cases this
theorem c_sym1r (P V S:List Row) (x:Row) (a m b:Nat) (ha:a=P.length) (hm:m=P.length+1) (hb:b=P.length+1+V.length) (hl:(P++x::V++S).length≤1000000) (hV:Asc leR V) (hx:(x).length≤1000) (hVw: ∀y∈V,(y).length≤1000):
 ACall Tryz.prog 212 [.sub 1000 (P++x::V++S).length 0 (P++x::V++S).length,num a,num m,num b,.clo 118 []] [(1000,yt (P++x::V++S))] (.tup []) [(1000,yt (P++List.merge [x] V leR++S))]:=by
 refine enterX ttok Tryz.func212 Tryz.ntmps212 Tryz.results212 ?_
 have hlen:(P++x::V++S).length=P.length+1+V.length+S.length:=by simp only [List.length_append,List.length_cons];omega
 have e1:IntKind.i64.wrap ((m:Int)-(a:Int))=1:=by rw [zw (by omega) (by omega)];omega
 have hgx:(P++x::V++S).getD a default=x:=xQ (p:=P) (s:=V++S) (by simp) ha
 have hgv: ∀t,t<V.length->(P++x::V++S).getD (m+t) default=V.getD t default:=fun t ht=>
  xQ (p:=P++x::V.take t) (s:=V.drop (t+1)++S) (by
   have h1:V=V.take t++V.getD t default::V.drop (t+1):=by rw [<-z8 V t ht,List.take_append_drop]
   calc P++x::V++S=P++x::(V.take t++V.getD t default::V.drop (t+1))++S:=by rw [<-h1]
    _=_:=by simp) (by simp only [List.length_append,List.length_cons,List.length_take];omega)
 generalize hN:(P++x::V++S).length=N at hl hlen ⊢
 refine yo mixed ttok ?_
 simp -implicitDefEqProofs only [argT,e1,↓zb,push_cast,simprocAttr,tte]
 obtain ⟨d,hd⟩: ∃d,d=P++x::V++S:=⟨_,rfl⟩
 rw [<-hd] at hgx hgv hN ⊢
 refine zI mixed ttok (fun y:Nat×Nat=>(⟨[(10,num (m+y.1:Nat)),(11,num (m+y.2:Nat)),(0,.sub 1000 N 0 N),(1,num a),(2,num m),(3,num b),(4,.clo 118 [])],[(1000,yt d)]⟩:SL)) (fun y=>y.2-y.1)
  (fun y=>y.1<=y.2/\y.2<=V.length/\(∀z∈V.take y.1,leR x z=false)/\ ∀z∈V.drop y.2,leR x z=true) (0,V.length) ⟨Nat.zero_le _,Nat.le_refl _,by simp,by simp⟩ ?_ ?_
 ·have hbm:b=m+V.length:=by omega
  exact Weak.keepL (by simp [hbm,ends]) (by simp [ends]) (by simp [ends])
 intro I hI ⟨p,q⟩ ⟨hpq,hq,h1,h2⟩
 simp only at hpq hq h1 h2
 generalize hi:m+p=i
 generalize hj:m+q=j
 simp -implicitDefEqProofs only [↓zb,push_cast,simprocAttr,tte]
 refine za (fun g=>?_) fun g=>?_
 ·have g':p<q:=by have:=of_decide_eq_true g;omega
  obtain ⟨h,hh⟩: ∃h,h=m+(p+q) / 2:=⟨_,rfl⟩
  have ehalf:IntKind.i64.wrap (IntKind.u64.wrap (IntKind.i64.wrap ((i:Int)+(j:Int))) / 2)=(h:Int):=by
   have h1:IntKind.i64.wrap ((i:Int)+(j:Int))=((i+j:Nat):Int):=by rw [zw (by omega) (by omega)];omega
   rw [h1,uP _ (by omega)]
   omega
  have hgt:d.getD h default=V.getD ((p+q) / 2) default:=by rw [hh];exact hgv _ (by omega)
  simp only [ehalf,Int.toNat_natCast]
  repeat' first | refine And.intro ?_ ?_ | omega | (exact zf (by kernel_rfl)) | (simp only [zc,List.length_set];done) | (simp only [List.length_set,zc];omega) | decide
  rw [hgt,hgx]
  refine ze [[3],[3]] [] (c_cmpKr (V.getD ((p+q) / 2) default) x (Nat.le_trans (hVw _ (zk (by omega))) (by decide))) ?_
  simp -implicitDefEqProofs only [ehalf,↓zb,push_cast,simprocAttr,tte]
  rw [leK_ltr]
  refine ⟨zf (by kernel_rfl),?_⟩
  have ew:IntKind.i64.wrap ((h:Int)+1)=((m+((p+q) / 2+1):Nat):Int):=by rw [zw (by omega) (by omega)];omega
  refine za (fun q1=>?_) fun q1=>?_
  ·have q1':leR x (V.getD ((p+q) / 2) default)=false:=by simpa using q1
   exact zm hI ((p+q) / 2+1,q) ⟨by show (p+q) / 2+1<=q;omega,hq,asc_beforeKr hV (by omega) q1',h2⟩ (by show q-((p+q) / 2+1)<q-p;omega) (Weak.keepL (by simp [ew,<-hj,ends]) (by simp [ends]) (by simp [ends]))
  ·have q1':leR x (V.getD ((p+q) / 2) default)=true:=by simpa using q1
   exact zm hI (p,(p+q) / 2) ⟨by show p<=(p+q) / 2;omega,by show (p+q) / 2<=V.length;omega,h1,uV hV (by omega) q1'⟩ (by show (p+q) / 2-p<q-p;omega) (Weak.keepL (by simp [hh,<-hi,ends]) (by simp [ends]) (by simp [ends]))
 have g':p=q:=by have:=of_decide_eq_false g;omega
 subst g'
 have hmg:=mg_in_l (le:=leR) h1 h2
 rw [List.take_append_drop] at hmg
 have hend:P++List.merge [x] V leR++S=P++V.take p++x::V.drop p++S:=by rw [hmg];simp
 rw [hend,hd]
 have ei:IntKind.i64.wrap ((i:Int)-1)=((a+p:Nat):Int):=by rw [zw (by omega) (by omega)];omega
 clear hmg hend hgv hgx hI
 generalize hap:a+p=i1 at ei
 have hd0:P++x::V++S=P++V.take 0++x::V.drop 0++S:=by simp
 rw [hd0]
 refine zI mixed ttok (fun t:Nat=>(⟨[(13,num (a+t:Nat)),(10,num i),(0,.sub 1000 N 0 N),(1,num a)],[(1000,yt (P++V.take t++x::V.drop t++S))]⟩:SL)) (fun t=>p-t) (fun t=>t<=p) 0 (Nat.zero_le _) ?_ ?_
 ·exact Weak.keepL (by simp [ends]) (by simp [ends]) (by simp [ends])
 intro I hI t ht
 have hdl:(P++V.take t++x::V.drop t++S).length=N:=by
  rw [<-hN,hd];simp only [List.length_append,List.length_cons,List.length_take,List.length_drop];omega
 have hsw:t<p->swKr (P++V.take t++x::V.drop t++S) (a+t) (a+t+1)=P++V.take (t+1)++x::V.drop (t+1)++S:=fun h0=>by
  have hn:=swK_nbr (P++V.take t) (V.drop (t+1)++S) x (V.getD t default)
  have hl1:(P++V.take t).length=a+t:=by rw [List.length_append,List.length_take];omega
  rw [hl1] at hn
  rw [z8 V t (by omega),z7 V t (by omega)]
  have e1:P++V.take t++x::(V.getD t default::V.drop (t+1))++S=(P++V.take t)++x::V.getD t default::(V.drop (t+1)++S):=by simp
  rw [e1,hn]
  simp
 generalize hdt:P++V.take t++x::V.drop t++S=dt at *
 generalize hk:a+t=k at *
 simp -implicitDefEqProofs only [ei,↓zb,push_cast,simprocAttr,tte]
 refine za (fun g=>?_) fun g=>?_
 ·have g':t<p:=by have:=of_decide_eq_true g;omega
  have w1:IntKind.i64.wrap ((k:Int)+1)=((k+1:Nat):Int):=zj (N:=2000000) (by omega) (by omega)
  have hst:=st2_rKr dt k (k+1) (by omega) (by omega)
  simp only [w1,Int.toNat_natCast]
  repeat' first | refine And.intro ?_ ?_ | omega | (exact zf (by kernel_rfl)) | (simp only [zc,List.length_set];done) | (simp only [List.length_set,zc];omega) | decide
  rw [hst,hsw g']
  have hk2:k+1=a+(t+1):=by omega
  exact zm hI (t+1) g' (by show p-(t+1)<p-t;omega) (Weak.keepL (by simp [hk2,ends]) (by simp [ends]) (by simp [ends]))
 ·have g':t=p:=by have:=of_decide_eq_false g;omega
  subst g'
  rw [hdt]
  exact xt trivial (by simp [ends]) (by simp [ends])
theorem c_sym2r (P U S:List Row) (y:Row) (a m b:Nat) (ha:a=P.length) (hm:m=P.length+U.length) (hb:b=P.length+U.length+1) (hl:(P++U++y::S).length≤1000000) (hU1:U.length≠1) (hU:Asc leR U) (hy:(y).length≤1000) (hUw: ∀z∈U,(z).length≤1000):
 ACall Tryz.prog 212 [.sub 1000 (P++U++y::S).length 0 (P++U++y::S).length,num a,num m,num b,.clo 118 []] [(1000,yt (P++U++y::S))] (.tup []) [(1000,yt (P++List.merge U [y] leR++S))]:=by
 refine enterX ttok Tryz.func212 Tryz.ntmps212 Tryz.results212 ?_
 have hlen:(P++U++y::S).length=P.length+U.length+S.length+1:=by simp only [List.length_append,List.length_cons];omega
 obtain ⟨u,hu⟩: ∃u,u=U.length:=⟨_,rfl⟩
 have e1:IntKind.i64.wrap ((m:Int)-(a:Int))=(u:Int):=by rw [zw (by omega) (by omega)];omega
 have e2:IntKind.i64.wrap ((b:Int)-(m:Int))=1:=by rw [zw (by omega) (by omega)];omega
 have hne:((u:Int)==1)=false:=by simp;omega
 have hgy:(P++U++y::S).getD m default=y:=xQ (p:=P++U) (s:=S) rfl (by rw [hm,List.length_append])
 have hgu: ∀t,t<U.length->(P++U++y::S).getD (a+t) default=U.getD t default:=fun t ht=>
  xQ (p:=P++U.take t) (s:=U.drop (t+1)++y::S) (by
   have h1:U=U.take t++U.getD t default::U.drop (t+1):=by rw [<-z8 U t ht,List.take_append_drop]
   calc P++U++y::S=P++(U.take t++U.getD t default::U.drop (t+1))++y::S:=by rw [<-h1]
    _=_:=by simp) (by simp only [List.length_append,List.length_take];omega)
 generalize hN:(P++U++y::S).length=N at hl hlen ⊢
 refine yo mixed ttok ?_
 simp -implicitDefEqProofs only [argT,e1,hne,↓zb,push_cast,simprocAttr,tte]
 refine yo mixed ttok ?_
 simp -implicitDefEqProofs only [e2,↓zb,push_cast,simprocAttr,tte]
 obtain ⟨d,hd⟩: ∃d,d=P++U++y::S:=⟨_,rfl⟩
 rw [<-hd] at hgy hgu hN ⊢
 refine zI mixed ttok (fun x:Nat×Nat=>(⟨[(14,num (a+x.1:Nat)),(15,num (a+x.2:Nat)),(0,.sub 1000 N 0 N),(1,num a),(2,num m),(3,num b),(4,.clo 118 [])],[(1000,yt d)]⟩:SL)) (fun x=>x.2-x.1)
  (fun x=>x.1<=x.2/\x.2<=U.length/\(∀z∈U.take x.1,leR z y=true)/\ ∀z∈U.drop x.2,leR z y=false) (0,U.length) ⟨Nat.zero_le _,Nat.le_refl _,by simp,by simp⟩ ?_ ?_
 ·have hbm:m=a+U.length:=by omega
  exact Weak.keepL (by simp [hbm,ends]) (by simp [ends]) (by simp [ends])
 intro I hI ⟨p,q⟩ ⟨hpq,hq,h1,h2⟩
 simp only at hpq hq h1 h2
 generalize hi:a+p=i
 generalize hj:a+q=j
 simp -implicitDefEqProofs only [↓zb,push_cast,simprocAttr,tte]
 refine za (fun g=>?_) fun g=>?_
 ·have g':p<q:=by have:=of_decide_eq_true g;omega
  obtain ⟨h,hh⟩: ∃h,h=a+(p+q) / 2:=⟨_,rfl⟩
  have ehalf:IntKind.i64.wrap (IntKind.u64.wrap (IntKind.i64.wrap ((i:Int)+(j:Int))) / 2)=(h:Int):=by
   have h1:IntKind.i64.wrap ((i:Int)+(j:Int))=((i+j:Nat):Int):=by rw [zw (by omega) (by omega)];omega
   rw [h1,uP _ (by omega)]
   omega
  have hgt:d.getD h default=U.getD ((p+q) / 2) default:=by rw [hh];exact hgu _ (by omega)
  simp only [ehalf,Int.toNat_natCast]
  repeat' first | refine And.intro ?_ ?_ | omega | (exact zf (by kernel_rfl)) | (simp only [zc,List.length_set];done) | (simp only [List.length_set,zc];omega) | decide
  rw [hgt,hgy]
  refine ze [[3],[3]] [] (c_cmpKr y (U.getD ((p+q) / 2) default) (Nat.le_trans hy (by decide))) ?_
  simp -implicitDefEqProofs only [ehalf,↓zb,push_cast,simprocAttr,tte]
  rw [leK_ltr]
  refine ⟨zf (by kernel_rfl),?_⟩
  have ew:IntKind.i64.wrap ((h:Int)+1)=((a+((p+q) / 2+1):Nat):Int):=by rw [zw (by omega) (by omega)];omega
  refine za (fun q1=>?_) fun q1=>?_
  ·have q1':leR (U.getD ((p+q) / 2) default) y=true:=by simpa using q1
   exact zm hI ((p+q) / 2+1,q) ⟨by show (p+q) / 2+1<=q;omega,hq,uJ hU (by omega) q1',h2⟩ (by show q-((p+q) / 2+1)<q-p;omega) (Weak.keepL (by simp [ew,<-hj,ends]) (by simp [ends]) (by simp [ends]))
  ·have q1':leR (U.getD ((p+q) / 2) default) y=false:=by simpa using q1
   exact zm hI (p,(p+q) / 2) ⟨by show p<=(p+q) / 2;omega,by show (p+q) / 2<=U.length;omega,h1,asc_behindKr hU (by omega) q1'⟩ (by show (p+q) / 2-p<q-p;omega) (Weak.keepL (by simp [hh,<-hi,ends]) (by simp [ends]) (by simp [ends]))
 have g':p=q:=by have:=of_decide_eq_false g;omega
 subst g'
 have hmg:=mg_in_r (le:=leR) h1 h2
 rw [List.take_append_drop] at hmg
 have hend:P++List.merge U [y] leR++S=P++U.take p++y::U.drop p++S:=by rw [hmg];simp
 rw [hend,hd]
 clear hmg hend hgy hgu hI
 have hd0:P++U++y::S=P++U.take U.length++y::U.drop U.length++S:=by simp
 rw [hd0]
 refine zI mixed ttok (fun t:Nat=>(⟨[(17,num (a+t:Nat)),(14,num i),(0,.sub 1000 N 0 N),(1,num a)],[(1000,yt (P++U.take t++y::U.drop t++S))]⟩:SL)) (fun t=>t) (fun t=>p<=t/\t<=U.length) U.length ⟨by omega,Nat.le_refl _⟩ ?_ ?_
 ·have hbm:m=a+U.length:=by omega
  exact Weak.keepL (by simp [hbm,ends]) (by simp [ends]) (by simp [ends])
 intro I hI t ⟨ht,htl⟩
 have hdl:(P++U.take t++y::U.drop t++S).length=N:=by
  rw [<-hN,hd];simp only [List.length_append,List.length_cons,List.length_take,List.length_drop];omega
 have hsw:0<t->swKr (P++U.take t++y::U.drop t++S) (a+t) (a+t-1)=P++U.take (t-1)++y::U.drop (t-1)++S:=fun h0=>by
  have ht2:=z7 U (t-1) (by omega)
  rw [show t-1+1=t by omega] at ht2
  have hd2:=z8 U (t-1) (by omega)
  rw [show t-1+1=t by omega] at hd2
  have hn:=swK_nbr (P++U.take (t-1)) (U.drop t++S) (U.getD (t-1) default) y
  have hl1:(P++U.take (t-1)).length=a+t-1:=by rw [List.length_append,List.length_take];omega
  rw [hl1,show a+t-1+1=a+t by omega] at hn
  rw [swK_symmr _ _ _ (by omega) (by omega) (by omega),ht2,hd2]
  have e1:P++(U.take (t-1)++[U.getD (t-1) default])++y::U.drop t++S=(P++U.take (t-1))++U.getD (t-1) default::y::(U.drop t++S):=by simp
  rw [e1,hn]
  simp
 generalize hdt:P++U.take t++y::U.drop t++S=dt at *
 generalize hk:a+t=k at *
 simp -implicitDefEqProofs only [↓zb,push_cast,simprocAttr,tte]
 refine za (fun g=>?_) fun g=>?_
 ·have g':p<t:=by have:=of_decide_eq_true g;omega
  have w1:IntKind.i64.wrap ((k:Int)-1)=((k-1:Nat):Int):=by rw [zw (by omega) (by omega)];omega
  have hst:=st2_rKr dt k (k-1) (by omega) (by omega)
  simp only [w1,Int.toNat_natCast]
  repeat' first | refine And.intro ?_ ?_ | omega | (exact zf (by kernel_rfl)) | (simp only [zc,List.length_set];done) | (simp only [List.length_set,zc];omega) | decide
  rw [hst,hsw (by omega)]
  have hk2:k-1=a+(t-1):=by omega
  exact zm hI (t-1) ⟨by omega,by omega⟩ (by show t-1<t;omega) (Weak.keepL (by simp [hk2,ends]) (by simp [ends]) (by simp [ends]))
 ·have g':t=p:=by have:=of_decide_eq_false g;omega
  subst g'
  rw [hdt]
  exact xt trivial (by simp [ends]) (by simp [ends])
end
section
open Go.Am
attribute [local simp, local push_cast] num boo str ints aV aTab zv aS aT aC aRow rRow yt
def SymOKr (U V:List Row):Prop:= ∀(P S:List Row) (a m b:Nat),a=P.length→m=P.length+U.length→b=P.length+U.length+V.length→(P++U++V++S).length≤1000000→
    ACall Tryz.prog 212 [.sub 1000 (P++U++V++S).length 0 (P++U++V++S).length,num a,num m,num b,.clo 118 []] [(1000,yt (P++U++V++S))] (.tup []) [(1000,yt (P++List.merge U V leR++S))]
structure HidKr (p:Prop):Prop where
 it:p
theorem symAKr (U V d:List Row) (a m b n s e s0 p1:Nat) (hU:Asc leR U) (hV:Asc leR V) (hm:m=a+U.length) (hb:b=m+V.length)
 (hgu: ∀t,t<U.length->d.getD (a+t) default=U.getD t default) (hgv: ∀t,t<V.length->d.getD (m+t) default=V.getD t default)
 (h1:a<=s) (h2:s<=m) (h3:m<=e) (h4:e<=b) (h5:s+e=n) (h6:p1+1=n) (h7:a<=s0) (q6:s0=a\/s0+b=n) (q5:n<=s0+b)
 (i4:s=s0\/(s0<s/\leR (d.getD (s-1) default) (d.getD (p1-(s-1)) default)=true)): ∀x∈U.take (s-a),∀y∈V.drop (e-m),leR x y=true:=by
 intro x hx y hy
 rcases i4 with i4 | ⟨i4,i4'⟩
 ·rcases q6 with q6 | q6
  ·have:U.take (s-a)=[]:=List.eq_nil_of_length_eq_zero (by rw [List.length_take];omega)
   rw [this] at hx;cases hx
  ·have:V.drop (e-m)=[]:=List.eq_nil_of_length_eq_zero (by rw [List.length_drop];omega)
   rw [this] at hy;cases hy
 ·clear q6
  have h1:=hgu (s-1-a) (by omega)
  rw [show a+(s-1-a)=s-1 by omega] at h1
  have h2:=hgv (e-m) (by omega)
  rw [show m+(e-m)=p1-(s-1) by omega] at h2
  rw [h1,h2] at i4'
  have h3:=uJ hU (v:=s-1-a) (by omega) i4'
  rw [show s-1-a+1=s-a by omega] at h3
  have h4:=uV hV (v:=e-m) (by omega) (x:=V.getD (e-m) default) (by have:=ordR.total (V.getD (e-m) default) (V.getD (e-m) default);simpa using this)
  exact ordR.trans _ _ _ (h3 x hx) (h4 y hy)
theorem symBKr (U V d:List Row) (a m b n mid s e r0 p1:Nat) (hU:Asc leR U) (hV:Asc leR V) (hm:m=a+U.length) (hb:b=m+V.length)
 (hgu: ∀t,t<U.length->d.getD (a+t) default=U.getD t default) (hgv: ∀t,t<V.length->d.getD (m+t) default=V.getD t default)
 (h1:a<=s) (h2:s<=m) (h3:m<=e) (h4:e<=b) (h5:s+e=n) (h6:p1+1=n) (hn:n=mid+m) (q7:r0=mid\/r0=m)
 (i5:s=r0\/leR (d.getD s default) (d.getD (p1-s) default)=false): ∀x∈U.drop (s-a),∀y∈V.take (e-m),leR x y=false:=by
 intro x hx y hy
 by_cases hz:s<m/\m<e
 ·obtain ⟨z1,z2⟩:=hz
  rcases i5 with i5 | i5
  ·rcases q7 with q7 | q7<;>omega
  ·clear q7
   have h1:=hgu (s-a) (by omega)
   rw [show a+(s-a)=s by omega] at h1
   have h2:=hgv (e-1-m) (by omega)
   rw [show m+(e-1-m)=p1-s by omega] at h2
   rw [h1,h2] at i5
   cases hq:leR x y with
   | false=>rfl
   | true=>
     have h3:=uV hU (v:=s-a) (by omega) (x:=U.getD (s-a) default) (by have:=ordR.total (U.getD (s-a) default) (U.getD (s-a) default);simpa using this)
     have h4:=uJ hV (v:=e-1-m) (by omega) (x:=V.getD (e-1-m) default) (by have:=ordR.total (V.getD (e-1-m) default) (V.getD (e-1-m) default);simpa using this)
     rw [show e-1-m+1=e-m by omega] at h4
     have:=ordR.trans _ _ _ (ordR.trans _ _ _ (h3 x hx) hq) (h4 y hy)
     rw [i5] at this;cases this
 ·clear q7 i5
  by_cases hz1:s<m
  ·have:V.take (e-m)=[]:=List.eq_nil_of_length_eq_zero (by rw [List.length_take];omega)
   rw [this] at hy;cases hy
  ·have:U.drop (s-a)=[]:=List.eq_nil_of_length_eq_zero (by rw [List.length_drop];omega)
   rw [this] at hx;cases hx
theorem symPlanKr (u1 u2 v1 v2 P S:List Row) (a m b N mid s e L:Nat) (au1:Asc leR u1) (au2:Asc leR u2) (av1:Asc leR v1) (av2:Asc leR v2) (wu1: ∀z∈u1,(z).length<=1000) (wu2: ∀z∈u2,(z).length<=1000) (wv1: ∀z∈v1,(z).length<=1000) (wv2: ∀z∈v2,(z).length<=1000)
 (ih: ∀U' V':List Row,U'.length+V'.length<L->0<U'.length->0<V'.length->Asc leR U'->Asc leR V'->(∀z∈U',(z).length<=1000)->(∀z∈V',(z).length<=1000)->SymOKr U' V')
 (ha:a=P.length) (lu1:s=a+u1.length) (lu2:m=s+u2.length) (lv1:e=m+v1.length) (lv2:b=e+v2.length) (hmid:mid=s+v1.length) (hL:L+a=b) (h1:a<mid) (h2:mid<b) (hl:N<=1000000) (hN:(P++u1++u2++v1++(v2++S)).length=N):
 ∃d1 d2 d3:List Row,d3=P++(List.merge u1 v1 leR++List.merge u2 v2 leR)++S∧
  (s<m->m<e->ACall Tryz.prog 229 [.sub 1000 N 0 N,num s,num m,num e,.clo 118 []] [(1000,yt (P++u1++u2++v1++(v2++S)))] (.tup []) [(1000,yt d1)])/\(¬(s<m/\m<e)->P++u1++u2++v1++(v2++S)=d1)/\
  (a<s->s<mid->ACall Tryz.prog 212 [.sub 1000 N 0 N,num a,num s,num mid,.clo 118 []] [(1000,yt d1)] (.tup []) [(1000,yt d2)])/\(¬(a<s/\s<mid)->d1=d2)/\
  (mid<e->e<b->ACall Tryz.prog 212 [.sub 1000 N 0 N,num mid,num e,num b,.clo 118 []] [(1000,yt d2)] (.tup []) [(1000,yt d3)])/\(¬(mid<e/\e<b)->d2=d3):=by
 have hlen:=hN
 simp only [List.length_append] at hlen
 have l1:(P++u1++v1++u2++(v2++S)).length=N:=by simp only [List.length_append];omega
 have l2:(P++List.merge u1 v1 leR++u2++v2++S).length=N:=by simp only [List.length_append,mg_length];omega
 refine ⟨P++u1++v1++u2++(v2++S),P++List.merge u1 v1 leR++u2++v2++S,_,rfl,fun z1 z2=>?_,fun z=>?_,fun z1 z2=>?_,fun z=>?_,fun z1 z2=>?_,fun z=>?_⟩
 ·have:=c_rotr (P++u1) u2 v1 (v2++S) s m e (by rw [List.length_append];omega) (by rw [List.length_append];omega) (by rw [List.length_append];omega) (by rw [hN];exact hl) (by omega) (by omega) 118
  rwa [hN] at this
 ·by_cases z1:s<m
  ·have:v1=[]:=List.eq_nil_of_length_eq_zero (by omega)
   rw [this];simp
  ·have:u2=[]:=List.eq_nil_of_length_eq_zero (by omega)
   rw [this];simp
 ·have e1:P++u1++v1++(u2++v2++S)=P++u1++v1++u2++(v2++S):=by simp
  have e2:P++List.merge u1 v1 leR++(u2++v2++S)=P++List.merge u1 v1 leR++u2++v2++S:=by simp
  have:=ih u1 v1 (by omega) (by omega) (by omega) au1 av1 wu1 wv1 P (u2++v2++S) a s mid ha (by omega) (by omega) (by rw [e1,l1];exact hl)
  rwa [e1,e2,l1] at this
 ·by_cases z1:a<s
  ·have:v1=[]:=List.eq_nil_of_length_eq_zero (by omega)
   rw [this];simp
  ·have:u1=[]:=List.eq_nil_of_length_eq_zero (by omega)
   rw [this];simp
 ·have e3:P++List.merge u1 v1 leR++List.merge u2 v2 leR++S=P++(List.merge u1 v1 leR++List.merge u2 v2 leR)++S:=by simp
  have lm:(P++List.merge u1 v1 leR).length=mid:=by rw [List.length_append,mg_length];omega
  have:=ih u2 v2 (by omega) (by omega) (by omega) au2 av2 wu2 wv2 (P++List.merge u1 v1 leR) S mid e b lm.symm (by omega) (by omega) (by rw [l2];exact hl)
  rwa [e3,l2] at this
 ·by_cases z1:mid<e
  ·have:v2=[]:=List.eq_nil_of_length_eq_zero (by omega)
   rw [this];simp
  ·have:u2=[]:=List.eq_nil_of_length_eq_zero (by omega)
   rw [this];simp
theorem c_symNr (U V:List Row) (hU:Asc leR U) (hV:Asc leR V) (hUw: ∀z∈U,(z).length≤1000) (hVw: ∀z∈V,(z).length≤1000) (hU2:2≤U.length) (hV2:2≤V.length)
 (ih: ∀U' V':List Row,U'.length+V'.length<U.length+V.length->0<U'.length->0<V'.length->Asc leR U'->Asc leR V'->(∀z∈U',(z).length<=1000)->(∀z∈V',(z).length<=1000)->SymOKr U' V'):SymOKr U V:=by
 intro P S a m b ha hm hb hl
 refine enterX ttok Tryz.func212 Tryz.ntmps212 Tryz.results212 ?_
 have hlen:(P++U++V++S).length=P.length+U.length+V.length+S.length:=by simp only [List.length_append]
 obtain ⟨u,hu⟩: ∃u,u=U.length:=⟨_,rfl⟩
 obtain ⟨v,hv⟩: ∃v,v=V.length:=⟨_,rfl⟩
 rw [<-hu] at hm hb hU2 hlen
 rw [<-hv] at hb hV2 hlen
 have e1:IntKind.i64.wrap ((m:Int)-(a:Int))=(u:Int):=by rw [zw (by omega) (by omega)];omega
 have e2:IntKind.i64.wrap ((b:Int)-(m:Int))=(v:Int):=by rw [zw (by omega) (by omega)];omega
 have hne:((u:Int)==1)=false:=by simp;omega
 have hne2:((v:Int)==1)=false:=by simp;omega
 have hgv: ∀t,t<V.length->(P++U++V++S).getD (m+t) default=V.getD t default:=fun t ht=>
  xQ (p:=P++U++V.take t) (s:=V.drop (t+1)++S) (by
   have h1:V=V.take t++V.getD t default::V.drop (t+1):=by rw [<-z8 V t ht,List.take_append_drop]
   calc P++U++V++S=P++U++(V.take t++V.getD t default::V.drop (t+1))++S:=by rw [<-h1]
    _=_:=by simp) (by simp only [List.length_append,List.length_take];omega)
 have hgu: ∀t,t<U.length->(P++U++V++S).getD (a+t) default=U.getD t default:=fun t ht=>
  xQ (p:=P++U.take t) (s:=U.drop (t+1)++V++S) (by
   have h1:U=U.take t++U.getD t default::U.drop (t+1):=by rw [<-z8 U t ht,List.take_append_drop]
   calc P++U++V++S=P++(U.take t++U.getD t default::U.drop (t+1))++V++S:=by rw [<-h1]
    _=_:=by simp) (by simp only [List.length_append,List.length_take];omega)
 generalize hN:(P++U++V++S).length=N at hl hlen ⊢
 obtain ⟨d,hd⟩: ∃d,d=P++U++V++S:=⟨_,rfl⟩
 rw [<-hd] at hgv hgu hN ⊢
 refine yo mixed ttok ?_
 simp -implicitDefEqProofs only [argT,e1,hne,↓zb,push_cast,simprocAttr,tte]
 refine yo mixed ttok ?_
 simp -implicitDefEqProofs only [e2,hne2,↓zb,push_cast,simprocAttr,tte]
 obtain ⟨mid,hmid⟩: ∃mid,mid=(a+b) / 2:=⟨_,rfl⟩
 have ehalf:IntKind.i64.wrap (IntKind.u64.wrap (IntKind.i64.wrap ((a:Int)+(b:Int))) / 2)=(mid:Int):=by
  have h1:IntKind.i64.wrap ((a:Int)+(b:Int))=((a+b:Nat):Int):=by rw [zw (by omega) (by omega)];omega
  rw [h1,uP _ (by omega),hmid]
 obtain ⟨n,hn⟩: ∃n,n=mid+m:=⟨_,rfl⟩
 have en:IntKind.i64.wrap ((mid:Int)+(m:Int))=(n:Int):=by rw [zw (by omega) (by omega)];omega
 have en1:IntKind.i64.wrap ((n:Int)-1)=((n-1:Nat):Int):=by rw [zw (by omega) (by omega)];omega
 have enb:m>mid->IntKind.i64.wrap ((n:Int)-(b:Int))=((n-b:Nat):Int):=fun h=>by rw [zw (by omega) (by omega)];omega
 refine yo mixed ttok ?_
 simp -implicitDefEqProofs only [ehalf,en,↓zb,push_cast,simprocAttr,tte]
 refine ⟨by decide,?_⟩
 refine yo mixed ttok ?_
 simp -implicitDefEqProofs only [en,↓zb,push_cast,simprocAttr,tte]
 refine yo mixed ttok ?_
 simp -implicitDefEqProofs only [↓zb,push_cast,simprocAttr,tte]
 obtain ⟨s0,hs0⟩: ∃s0,s0=if m>mid then n-b else a:=⟨_,rfl⟩
 obtain ⟨r0,hr0⟩: ∃r0,r0=if m>mid then mid else m:=⟨_,rfl⟩
 refine kE mixed ttok (⟨[(18,num mid),(19,num n),(20,num s0),(21,num r0),(0,.sub 1000 N 0 N),(1,num a),(2,num m),(3,num b),(4,.clo 118 [])],[(1000,yt d)]⟩:SL) ?_ ?_
 ·simp -implicitDefEqProofs only [↓zb,push_cast,simprocAttr,tte]
  refine za (fun g=>?_) fun g=>?_
  ·have g':m>mid:=by have:=of_decide_eq_true g;omega
   rw [enb g']
   rw [if_pos g'] at hs0 hr0
   exact Weak.keepL (by simp [<-hs0,hr0,ends]) (by simp [ends]) (by simp [ends])
  ·have g': ¬m>mid:=by have:=of_decide_eq_false g;omega
   rw [if_neg g'] at hs0 hr0
   exact Weak.keepL (by simp [hs0,hr0,ends]) (by simp [ends]) (by simp [ends])
 refine yo mixed ttok ?_
 simp -implicitDefEqProofs only [en1,↓zb,push_cast,simprocAttr,tte]
 obtain ⟨p1,hp1⟩: ∃p1,p1=n-1:=⟨_,rfl⟩
 rw [<-hp1]
 have hb1:a<=s0/\s0<=r0/\r0<=mid/\r0<=m/\n<=s0+b/\(s0=a\/s0+b=n)/\(r0=mid\/r0=m):=by
  by_cases g':m>mid
  ·rw [if_pos g'] at hs0 hr0;omega
  ·rw [if_neg g'] at hs0 hr0;omega
 obtain ⟨q1,q2,q3,q4,q5,q6',q7'⟩:=hb1
 have q6:HidKr _:=⟨q6'⟩
 have q7:HidKr _:=⟨q7'⟩
 clear q6' q7'
 clear hs0 hr0 enb e1 e2 hne hne2 ehalf
 refine yo mixed ttok ?_
 simp -implicitDefEqProofs only [↓zb,push_cast,simprocAttr,tte]
 refine zI mixed ttok (fun x:Nat×Nat=>(⟨[(20,num x.1),(21,num x.2),(22,num p1),(18,num mid),(19,num n),(0,.sub 1000 N 0 N),(1,num a),(2,num m),(3,num b),(4,.clo 118 [])],[(1000,yt d)]⟩:SL)) (fun x=>x.2-x.1)
  (fun x=>s0<=x.1/\x.1<=x.2/\x.2<=r0/\HidKr (x.1=s0\/(s0<x.1/\leR (d.getD (x.1-1) default) (d.getD (p1-(x.1-1)) default)=true))/\HidKr (x.2=r0\/leR (d.getD x.2 default) (d.getD (p1-x.2) default)=false)) (s0,r0) ⟨Nat.le_refl _,q2,Nat.le_refl _,⟨.inl rfl⟩,⟨.inl rfl⟩⟩ ?_ ?_
 ·exact Weak.keepL (by simp [ends]) (by simp [ends]) (by simp [ends])
 intro I hI ⟨s,r⟩ ⟨i1,i2,i3,i4,i5⟩
 simp only at i1 i2 i3 i4 i5
 simp -implicitDefEqProofs only [↓zb,push_cast,simprocAttr,tte]
 refine za (fun g=>?_) fun g=>?_
 ·have g':s<r:=by have:=of_decide_eq_true g;omega
  obtain ⟨c,hc⟩: ∃c,c=(s+r) / 2:=⟨_,rfl⟩
  have ehalf:IntKind.i64.wrap (IntKind.u64.wrap (IntKind.i64.wrap ((s:Int)+(r:Int))) / 2)=(c:Int):=by
   have h1:IntKind.i64.wrap ((s:Int)+(r:Int))=((s+r:Nat):Int):=by rw [zw (by omega) (by omega)];omega
   rw [h1,uP _ (by omega),hc]
  have epc:IntKind.i64.wrap ((p1:Int)-(c:Int))=((p1-c:Nat):Int):=by rw [zw (by omega) (by omega)];omega
  have ew:IntKind.i64.wrap ((c:Int)+1)=((c+1:Nat):Int):=by rw [zw (by omega) (by omega)];omega
  have hdv:=hgv (p1-c-m) (by omega)
  rw [show m+(p1-c-m)=p1-c by omega] at hdv
  have hdw:=hVw _ (zk (l:=V) (n:=p1-c-m) (by omega))
  rw [<-hdv] at hdw
  simp only [ehalf,epc,Int.toNat_natCast]
  repeat' first | refine And.intro ?_ ?_ | omega | (exact zf (by kernel_rfl)) | (simp only [zc,List.length_set];done) | (simp only [List.length_set,zc];omega) | decide
  refine ze [[3],[3]] [] (c_cmpKr (d.getD (p1-c) default) (d.getD c default) (Nat.le_trans hdw (by decide))) ?_
  simp -implicitDefEqProofs only [ehalf,↓zb,push_cast,simprocAttr,tte]
  rw [leK_ltr]
  refine ⟨zf (by kernel_rfl),?_⟩
  refine za (fun k1=>?_) fun k1=>?_
  ·have k1':leR (d.getD c default) (d.getD (p1-c) default)=true:=by simpa using k1
   exact zm hI (c+1,r) ⟨by show s0<=c+1;omega,by show c+1<=r;omega,i3,⟨.inr ⟨by show s0<c+1;omega,by simpa using k1'⟩⟩,i5⟩ (by show r-(c+1)<r-s;omega) (Weak.keepL (by simp [ew,ends]) (by simp [ends]) (by simp [ends]))
  ·have k1':leR (d.getD c default) (d.getD (p1-c) default)=false:=by simpa using k1
   exact zm hI (s,c) ⟨i1,by show s<=c;omega,by show c<=r0;omega,i4,⟨.inr k1'⟩⟩ (by show c-s<r-s;omega) (Weak.keepL (by simp [ends]) (by simp [ends]) (by simp [ends]))
 have g':s=r:=by have:=of_decide_eq_false g;omega
 subst g'
 clear hI
 obtain ⟨e,he⟩: ∃e,e=n-s:=⟨_,rfl⟩
 have ee:IntKind.i64.wrap ((n:Int)-(s:Int))=(e:Int):=by rw [zw (by omega) (by omega)];omega
 refine yo mixed ttok ?_
 simp -implicitDefEqProofs only [ee,↓zb,push_cast,simprocAttr,tte]
 have f1:a<=s:=by omega
 have f2:s<=m:=by omega
 have f3:s<=mid:=by omega
 have f4:m<=e:=by omega
 have f5:e<=b:=by omega
 have f6:s+e=n:=by omega
 have f7:p1+1=n:=by omega
 have f8:a<mid:=by omega
 have f9:mid<b:=by omega
 have hm2:m=a+U.length:=by omega
 have hb2:b=m+V.length:=by omega
 have cA:=symAKr U V d a m b n s e s0 p1 hU hV hm2 hb2 hgu hgv f1 f2 f4 f5 f6 f7 q1 q6.it q5 i4.it
 have cB:=symBKr U V d a m b n mid s e r0 p1 hU hV hm2 hb2 hgu hgv f1 f2 f4 f5 f6 f7 hn q7.it i5.it
 clear hgu hgv i4 i5 q6 q7 q5 hmid hp1
 have hmg:=vb (le:=leR) _ (U.take (s-a)) (V.take (e-m)) (U.drop (s-a)) (V.drop (e-m)) (Nat.le_refl _) cA cB
 rw [List.take_append_drop,List.take_append_drop] at hmg
 clear cA cB
 have hd0:d=P++U.take (s-a)++U.drop (s-a)++V.take (e-m)++(V.drop (e-m)++S):=by
  rw [hd,List.append_assoc P (U.take (s-a)),List.take_append_drop,List.append_assoc (P++U) (V.take (e-m)),<-List.append_assoc (V.take (e-m)),List.take_append_drop,<-List.append_assoc]
 obtain ⟨d1,d2,d3,hd3,hrot,hno1,hsym1,hno2,hsym2,hno3⟩:=symPlanKr (U.take (s-a)) (U.drop (s-a)) (V.take (e-m)) (V.drop (e-m)) P S a m b N mid s e (U.length+V.length)
  (List.Pairwise.sublist (List.take_sublist _ _) hU) (List.Pairwise.sublist (List.drop_sublist _ _) hU) (List.Pairwise.sublist (List.take_sublist _ _) hV) (List.Pairwise.sublist (List.drop_sublist _ _) hV)
  (fun z hz=>hUw z (List.mem_of_mem_take hz)) (fun z hz=>hUw z (List.mem_of_mem_drop hz)) (fun z hz=>hVw z (List.mem_of_mem_take hz)) (fun z hz=>hVw z (List.mem_of_mem_drop hz)) ih
  ha (by rw [List.length_take];omega) (by rw [List.length_drop];omega) (by rw [List.length_take];omega) (by rw [List.length_drop];omega) (by rw [List.length_take];omega) (by omega) f8 f9 hl (by rw [<-hd0];exact hN)
 rw [<-hmg] at hd3
 rw [<-hd0] at hrot hno1
 rw [<-hd3]
 clear hd hd3 ih hU hV hUw hVw hmg hd0
 refine kE mixed ttok (⟨[(18,num mid),(20,num s),(24,num e),(0,.sub 1000 N 0 N),(1,num a),(2,num m),(3,num b),(4,.clo 118 [])],[(1000,yt d1)]⟩:SL) ?_ ?_
 ·simp -implicitDefEqProofs only [↓zb,push_cast,simprocAttr,tte]
  refine za (fun z1=>?_) fun z1=>?_
  ·have z1':s<m:=by have:=of_decide_eq_true z1;omega
   refine za (fun z2=>?_) fun z2=>?_
   ·have z2':m<e:=by have:=of_decide_eq_true z2;omega
    refine ze [[0],[0],[0],[0],[0]] [(1000,1000)] (hrot z1' z2') ?_
    simp -implicitDefEqProofs only [↓zb,push_cast,simprocAttr,tte]
    exact Weak.keepL (by simp [ends]) (by simp [ends]) (by simp [ends])
   ·have z2': ¬m<e:=by have:=of_decide_eq_false z2;omega
    rw [hno1 (fun h=>z2' h.2)]
    exact Weak.keepL (by simp [ends]) (by simp [ends]) (by simp [ends])
  ·have z1': ¬s<m:=by have:=of_decide_eq_false z1;omega
   rw [hno1 (fun h=>z1' h.1)]
   exact Weak.keepL (by simp [ends]) (by simp [ends]) (by simp [ends])
 refine kE mixed ttok (⟨[(18,num mid),(20,num s),(24,num e),(0,.sub 1000 N 0 N),(1,num a),(2,num m),(3,num b),(4,.clo 118 [])],[(1000,yt d2)]⟩:SL) ?_ ?_
 ·simp -implicitDefEqProofs only [↓zb,push_cast,simprocAttr,tte]
  refine za (fun z1=>?_) fun z1=>?_
  ·have z1':a<s:=by have:=of_decide_eq_true z1;omega
   refine za (fun z2=>?_) fun z2=>?_
   ·have z2':s<mid:=by have:=of_decide_eq_true z2;omega
    refine ze [[0],[0],[0],[0],[0]] [(1000,1000)] (hsym1 z1' z2') ?_
    simp -implicitDefEqProofs only [↓zb,push_cast,simprocAttr,tte]
    exact Weak.keepL (by simp [ends]) (by simp [ends]) (by simp [ends])
   ·have z2': ¬s<mid:=by have:=of_decide_eq_false z2;omega
    rw [hno2 (fun h=>z2' h.2)]
    exact Weak.keepL (by simp [ends]) (by simp [ends]) (by simp [ends])
  ·have z1': ¬a<s:=by have:=of_decide_eq_false z1;omega
   rw [hno2 (fun h=>z1' h.1)]
   exact Weak.keepL (by simp [ends]) (by simp [ends]) (by simp [ends])
 refine jO mixed ttok ?_
 simp -implicitDefEqProofs only [↓zb,push_cast,simprocAttr,tte]
 refine za (fun z1=>?_) fun z1=>?_
 ·have z1':mid<e:=by have:=of_decide_eq_true z1;omega
  refine za (fun z2=>?_) fun z2=>?_
  ·have z2':e<b:=by have:=of_decide_eq_true z2;omega
   refine ze [[0],[0],[0],[0],[0]] [(1000,1000)] (hsym2 z1' z2') ?_
   simp -implicitDefEqProofs only [↓zb,push_cast,simprocAttr,tte]
   exact xt trivial (by simp [ends]) (by simp [ends])
  ·have z2': ¬e<b:=by have:=of_decide_eq_false z2;omega
   rw [hno3 (fun h=>z2' h.2)]
   exact xt trivial (by simp [ends]) (by simp [ends])
 ·have z1': ¬mid<e:=by have:=of_decide_eq_false z1;omega
  rw [hno3 (fun h=>z1' h.1)]
  exact xt trivial (by simp [ends]) (by simp [ends])
end
section
open Go.Am
attribute [local simp, local push_cast] num boo str ints aV aTab zv aS aT aC aRow rRow yt
theorem c_symKr: ∀(n:Nat) (U V:List Row),U.length+V.length≤n→0<U.length→0<V.length→Asc leR U→Asc leR V→(∀z∈U,(z).length≤1000)→(∀z∈V,(z).length≤1000)→SymOKr U V
 | 0,U,V,h,hU,hV,_,_,_,_=>by omega
 | n+1,U,V,h,hU,hV,aU,aV,wU,wV=>by
   by_cases h1:U.length=1
   ·match U,h1,wU with
    | [x],_,wU=>
      intro P S a m b ha hm hb hl
      have e:P++[x]++V++S=P++x::V++S:=by simp
      rw [e] at hl ⊢
      exact c_sym1r P V S x a m b ha hm hb hl aV (wU x (by simp)) wV
   by_cases h2:V.length=1
   ·match V,h2,wV with
    | [y],_,wV=>
      intro P S a m b ha hm hb hl
      have e:P++U++[y]++S=P++U++y::S:=by simp
      rw [e] at hl ⊢
      exact c_sym2r P U S y a m b ha hm hb hl h1 aU (wV y (by simp)) wU
   exact c_symNr U V aU aV wU wV (by omega) (by omega) fun U' V' hlt a1 a2 a3 a4 a5 a6=>c_symKr n U' V' (by omega) a1 a2 a3 a4 a5 a6
theorem stepAKr (l:List Row) (a s:Nat) (hs:0<s) (k:Nat) (ha:a=k * s) (h:a+s<=l.length):
 chk leR s (l.take a)++yg leR ((l.drop a).take s)++l.drop (a+s)=chk leR s (l.take (a+s))++l.drop (a+s):=by
 have e1:l.take (a+s)=l.take a++(l.drop a).take s:=by rw [List.take_add]
 rw [e1,uH hs k _ _ (by rw [List.length_take];omega),wc (l:=(l.drop a).take s) (by rw [List.length_take];omega)]
theorem splitAKr (l:List Row) (a s:Nat):chk leR s (l.take a)++l.drop a=chk leR s (l.take a)++(l.drop a).take s++l.drop (a+s):=by
 rw [List.append_assoc,<-List.drop_drop,List.take_append_drop]
theorem splitBKr (l:List Row) (a s:Nat) (hs:0<s) (h:a+2 * s<=l.length):
 chk leR s (l.drop a)=yg leR ((l.drop a).take s)++yg leR ((l.drop (a+s)).take s)++chk leR s (l.drop (a+2 * s)):=by
 have e1:l.drop a=(l.drop a).take s++((l.drop (a+s)).take s++l.drop (a+2 * s)):=by
  rw [show a+2 * s=a+s+s by omega,<-List.drop_drop (i:=s) (j:=a+s),List.take_append_drop,<-List.drop_drop,List.take_append_drop]
 rw [e1,gu hs _ (by rw [List.length_take,List.length_drop];omega),gu hs _ (by rw [List.length_take,List.length_drop];omega),List.append_assoc]
 congr 2
 ·rw [<-e1]
theorem stepBKr (l:List Row) (a s:Nat) (hs:0<s) (k:Nat) (ha:a=k * (2 * s)) (h:a+2 * s<=l.length):
 chk leR (2 * s) (l.take a)++List.merge (yg leR ((l.drop a).take s)) (yg leR ((l.drop (a+s)).take s)) leR=chk leR (2 * s) (l.take (a+2 * s)):=by
 have e1:l.take (a+2 * s)=l.take a++((l.drop a).take s++(l.drop (a+s)).take s):=by
  rw [show a+2 * s=a+(s+s) by omega,List.take_add,List.take_add (l:=l.drop a),List.drop_drop]
 rw [e1,uH (by omega) k _ _ (by rw [List.length_take];omega),wc (l:=_++_) (by simp only [List.length_append,List.length_take,List.length_drop];omega),wT ordR]
theorem c_stabr (l:List Row) (hl:l.length≤100000) (hw: ∀z∈l,(z).length≤1000):
 ACall Tryz.prog 180 [.sub 1000 l.length 0 l.length,num l.length,.clo 118 []] [(1000,yt l)] (.tup []) [(1000,yt (yg leR l))]:=by
 refine enterX ttok Tryz.func180 Tryz.ntmps180 Tryz.results180 ?_
 obtain ⟨N,hN⟩: ∃N,N=l.length:=⟨_,rfl⟩
 rw [<-hN] at hl ⊢
 refine jO mixed ttok ?_
 simp -implicitDefEqProofs only [argT,↓zb,push_cast,simprocAttr,tte]
 refine zI mixed ttok (fun k:Nat=>(⟨[(6,num 20),(7,num (20 * k:Nat)),(8,num (20 * k+20:Nat)),(0,.sub 1000 N 0 N),(1,num N),(2,.clo 118 [])],[(1000,yt (chk leR 20 (l.take (20 * k))++l.drop (20 * k)))]⟩:SL)) (fun k=>N-20 * k) (fun k=>20 * k<=N) 0 (Nat.zero_le _) ?_ ?_
 ·have e0:chk leR 20 ([]:List Row)++l=l:=by simp [chk,wB]
  exact Weak.keepL (by simp [ends]) (by simp [e0,ends]) (by simp [ends])
 intro I hI k hk
 obtain ⟨a,ha⟩: ∃a,a=20 * k:=⟨_,rfl⟩
 obtain ⟨b,hb⟩: ∃b,b=a+20:=⟨_,rfl⟩
 have hcl:(chk leR 20 (l.take a)).length=a:=by rw [jR,List.length_take];omega
 have hw': ∀(m n:Nat),∀z∈(l.drop m).take n,(z).length<=1000:=fun m n z hz=>hw z (List.mem_of_mem_drop (List.mem_of_mem_take hz))
 rw [<-ha,<-hb]
 simp -implicitDefEqProofs only [↓zb,push_cast,simprocAttr,tte]
 refine za (fun g=>?_) fun g=>?_
 ·have g':b≤N:=by have:=of_decide_eq_true g;omega
  have hc:=c_insr (chk leR 20 (l.take a)) ((l.drop a).take 20) (l.drop (a+20)) a b hcl.symm (by rw [hcl,List.length_take,List.length_drop];omega) (by rw [<-splitAKr,List.length_append,hcl,List.length_drop];omega) (hw' a 20)
  rw [<-splitAKr,stepAKr l a 20 (by decide) k (by omega) (by omega),List.length_append,hcl,List.length_drop,<-hN,show a+(N-a)=N by omega] at hc
  have w1:IntKind.i64.wrap (20 * ((k:Int)+1)+20)=20 * ((k:Int)+1)+20:=zw (by omega) (by omega)
  refine ze [[0],[0],[0],[0]] [(1000,1000)] (hc) ?_
  simp -implicitDefEqProofs only [↓zb,push_cast,simprocAttr,tte]
  have e2:b=20 * (k+1):=by omega
  have e3:a+20=20 * (k+1):=by omega
  rw [e3]
  exact zm hI (k+1) (by omega) (by show N-20 * (k+1)<N-20 * k;omega) (Weak.keepL (by simp [w1,e2,ends]) (by simp [ends]) (by simp [ends]))
 have g':N<b:=by have:=of_decide_eq_false g;omega
 have hc:=c_insr (chk leR 20 (l.take a)) (l.drop a) [] a N hcl.symm (by rw [hcl,List.length_drop];omega) (by rw [List.append_nil,List.length_append,hcl,List.length_drop];omega) (fun z hz=>hw z (List.mem_of_mem_drop hz))
 have e1:chk leR 20 (l.take a)++yg leR (l.drop a)=chk leR 20 l:=by
  rw [<-wc (s:=20) (l:=l.drop a) (by rw [List.length_drop];omega),<-uH (by decide) k _ _ (by rw [List.length_take];omega),List.take_append_drop]
 rw [List.append_nil,List.append_nil,e1,List.length_append,hcl,List.length_drop,<-hN,show a+(N-a)=N by omega] at hc
 refine ze [[0],[0],[0],[0]] [(1000,1000)] (hc) ?_
 simp -implicitDefEqProofs only [↓zb,push_cast,simprocAttr,tte]
 clear hI hc e1 hcl g' g hk
 refine loop_genX (fun s:Nat=>(⟨[(6,num s),(0,.sub 1000 N 0 N),(1,num N),(2,.clo 118 [])],[(1000,yt (chk leR s l))]⟩:SL)) (fun s=>N-s) (fun s=>20<=s/\s<=400000) 20 ⟨by decide,by decide⟩ ?_ ?_
 ·exact Weak.keepL (by simp [ends]) (by simp [ends]) (by simp [ends])
 intro I hI s ⟨hs,hs2⟩
 have hcs:=jR (le:=leR) s l
 have w2:IntKind.i64.wrap (2 * (s:Int))=((2 * s:Nat):Int):=by rw [zw (by omega) (by omega)];omega
 have w2':IntKind.i64.wrap ((s:Int) * 2)=((2 * s:Nat):Int):=by rw [zw (by omega) (by omega)];omega
 obtain ⟨s2,hs2e⟩: ∃s2,s2=2 * s:=⟨_,rfl⟩
 rw [<-hs2e] at w2 w2'
 refine jO mixed ttok ?_
 simp -implicitDefEqProofs only [w2,↓zb,push_cast,simprocAttr,tte]
 refine za (fun g=>?_) fun g=>?_
 ·have g':s<N:=by have:=of_decide_eq_true g;omega
  refine zI mixed ttok (fun k:Nat=>(⟨[(6,num s),(7,num (k * s2:Nat)),(8,num (k * s2+s2:Nat)),(0,.sub 1000 N 0 N),(1,num N),(2,.clo 118 [])],[(1000,yt (chk leR s2 (l.take (k * s2))++chk leR s (l.drop (k * s2))))]⟩:SL)) (fun k=>N-k * s2) (fun k=>k * s2<=N) 0 (by omega) ?_ ?_
  ·have e0:chk leR s2 ([]:List Row)++chk leR s l=chk leR s l:=by simp [chk,wB]
   exact Weak.keepL (by simp [ends]) (by simp [e0,ends]) (by simp [ends])
  intro J hJ k hk
  obtain ⟨a,ha⟩: ∃a,a=k * s2:=⟨_,rfl⟩
  obtain ⟨b,hb⟩: ∃b,b=a+s2:=⟨_,rfl⟩
  obtain ⟨m,hm⟩: ∃m,m=a+s:=⟨_,rfl⟩
  have hk1:(k+1) * s2=b:=by rw [Nat.add_mul,Nat.one_mul,<-ha];exact hb.symm
  rw [<-ha] at hk
  have hcl:(chk leR s2 (l.take a)).length=a:=by rw [jR,List.length_take];omega
  have hcr:(chk leR s (l.drop a)).length=N-a:=by rw [jR,List.length_drop];omega
  have hdl:(chk leR s2 (l.take a)++chk leR s (l.drop a)).length=N:=by rw [List.length_append];omega
  have wm:IntKind.i64.wrap ((a:Int)+(s:Int))=(m:Int):=by rw [zw (by omega) (by omega)];omega
  have wS: ∀(i n:Nat),∀z∈yg leR ((l.drop i).take n),(z).length<=1000:=fun i n z hz=>hw z (List.mem_of_mem_drop (List.mem_of_mem_take ((zA _).mem_iff.1 hz)))
  rw [<-ha,<-hb]
  simp -implicitDefEqProofs only [wm,w2,w2',↓zb,push_cast,simprocAttr,tte]
  refine za (fun f=>?_) fun f=>?_
  ·have f':b≤N:=by have:=of_decide_eq_true f;omega
   have hsp:=splitBKr l a s (by omega) (by omega)
   have l1:(yg leR ((l.drop a).take s)).length=s:=by rw [yj,List.length_take,List.length_drop];omega
   have l2:(yg leR ((l.drop (a+s)).take s)).length=s:=by rw [yj,List.length_take,List.length_drop];omega
   have he:chk leR s2 (l.take a)++yg leR ((l.drop a).take s)++yg leR ((l.drop (a+s)).take s)++chk leR s (l.drop (a+2 * s))=chk leR s2 (l.take a)++chk leR s (l.drop a):=by rw [hsp];simp
   have hc:=c_symKr _ (yg leR ((l.drop a).take s)) (yg leR ((l.drop (a+s)).take s)) (Nat.le_refl _) (by omega) (by omega) (yR ordR _) (yR ordR _) (wS a s) (wS (a+s) s) (chk leR s2 (l.take a)) (chk leR s (l.drop (a+2 * s))) a m b hcl.symm (by omega) (by omega) (by rw [he,hdl];omega)
   rw [he,hdl] at hc
   have hst:=stepBKr l a s (by omega) k (by rw [<-hs2e];exact ha) (by omega)
   rw [<-hs2e] at hst
   rw [hst,<-hs2e,<-hb] at hc
   have w3:IntKind.i64.wrap ((b:Int)+(s2:Int))=(b:Int)+(s2:Int):=zw (by omega) (by omega)
   refine ze [[0],[0],[0],[0],[0]] [(1000,1000)] (hc) ?_
   simp -implicitDefEqProofs only [w2,↓zb,push_cast,simprocAttr,tte]
   exact zm hJ (k+1) (by rw [hk1];exact f') (by show N-(k+1) * s2<N-k * s2;rw [hk1,<-ha];omega) (Weak.keepL (by simp [hk1,w3,ends]) (by simp [hk1,ends]) (by simp [ends]))
  have f':N<b:=by have:=of_decide_eq_false f;omega
  have hfin:chk leR s2 (l.take a)++chk leR s2 (l.drop a)=chk leR s2 l:=by
   rw [<-uH (by omega) k _ _ (by rw [List.length_take];omega),List.take_append_drop]
  refine za (fun h=>?_) fun h=>?_
  ·have h':m<N:=by have:=of_decide_eq_true h;omega
   have hu:((l.drop a).take s).length=s:=by rw [List.length_take,List.length_drop];omega
   have hv:((l.drop a).drop s).length=N-m:=by rw [List.length_drop,List.length_drop];omega
   obtain ⟨x,y,hxy,hx,hy,hmg⟩:=chk_pair (le:=leR) ordR (s:=s) (by omega) hu (by omega:((l.drop a).drop s).length<=s)
   rw [List.take_append_drop] at hxy hmg
   rw [<-hs2e] at hmg
   have lx:x.length=s:=by rw [hx,yj];exact hu
   have ly:y.length=N-m:=by rw [hy,yj];exact hv
   have he:chk leR s2 (l.take a)++x++y++[]=chk leR s2 (l.take a)++chk leR s (l.drop a):=by rw [hxy];simp
   have he2:chk leR s2 (l.take a)++List.merge x y leR++[]=chk leR s2 l:=by rw [hmg,List.append_nil,hfin]
   have hc:=c_symKr _ x y (Nat.le_refl _) (by omega) (by omega) (hx ▸ yR ordR _) (hy ▸ yR ordR _) (fun z hz=>hw z (List.mem_of_mem_drop (List.mem_of_mem_take ((zA _).mem_iff.1 (hx ▸ hz))))) (fun z hz=>hw z (List.mem_of_mem_drop (List.mem_of_mem_drop ((zA _).mem_iff.1 (hy ▸ hz))))) (chk leR s2 (l.take a)) [] a m N hcl.symm (by omega) (by omega) (by rw [he,hdl];omega)
   rw [he,he2,hdl] at hc
   refine ze [[0],[0],[0],[0],[0]] [(1000,1000)] (hc) ?_
   simp -implicitDefEqProofs only [w2',↓zb,push_cast,simprocAttr,tte]
   exact zm hI s2 ⟨by omega,by omega⟩ (by show N-s2<N-s;omega) (Weak.keepL (by simp [ends]) (by simp [ends]) (by simp [ends]))
  ·have h':N≤m:=by have:=of_decide_eq_false h;omega
   have he:chk leR s2 (l.take a)++chk leR s (l.drop a)=chk leR s2 l:=by
    rw [<-hfin,wc (s:=s) (by rw [List.length_drop];omega),wc (s:=s2) (l:=l.drop a) (by rw [List.length_drop];omega)]
   rw [he]
   exact zm hI s2 ⟨by omega,by omega⟩ (by show N-s2<N-s;omega) (Weak.keepL (by simp [ends]) (by simp [ends]) (by simp [ends]))
 ·have g':N≤s:=by have:=of_decide_eq_false g;omega
  rw [wc (by omega)]
  exact xt trivial (by simp [ends]) (by simp [ends])
theorem c_sortr (l:List Row) (hl:l.length<=100000) (hw: ∀z∈l,(z).length<=1000):
 ACall Tryz.prog 123 [.sub 1000 l.length 0 l.length,.clo 118 []] [(1000,yt l)] (.tup []) [(1000,yt (yg leR l))]:=by
 refine zn mixed ttok Tryz.func123 Tryz.ntmps123 Tryz.results123 ?_
 simp -implicitDefEqProofs only [argT,↓zb,push_cast,simprocAttr,tte]
 refine ze [[0],[0],[0]] [(1000,1000)] (c_stabr l hl hw) ?_
 simp -implicitDefEqProofs only [↓zb,push_cast,simprocAttr,tte]
 exact xt trivial (by simp [ends]) (by simp [ends])
end
end Go.Proofs.YtnmibokjpedkiaaGreatDoor
