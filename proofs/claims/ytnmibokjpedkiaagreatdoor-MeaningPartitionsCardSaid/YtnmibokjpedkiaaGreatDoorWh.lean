/- Made queries answer as specified (part Wh) -/
import Derived.Test.YtnmibokjpedkiaaGreatDoorWd
set_option maxRecDepth 100000
set_option maxHeartbeats 4000000
set_option linter.all false
namespace Go.Proofs.YtnmibokjpedkiaaGreatDoor
open Go.Am
section
attribute [local simp, local push_cast] Ta aRow rRow
theorem c_cmpF (a b:List Val) (ha:a.length≤1000000):ACall Tryz.prog 177 [aRow a,aRow b,.clo 178 []] [] (num (cmpR a b)) []:=by
 refine zn mixed ttok Tryz.func177 Tryz.ntmps177 Tryz.results177 ?_;generalize hr:num (cmpR a b)=R;refine Zn ?_;refine zx mixed ttok (fun n:Nat=>(⟨[(13,num n),(12,num a.length),(11,aRow a),(0,aRow a),(1,aRow b),(2,.clo 178 [])],[]⟩:SL)) (fun n=>a.length-n) (fun n=>n<=a.length/\n<=b.length/\cmpR (a.drop n) (b.drop n)=cmpR a b) 0 ⟨Yj _,Yj _,rfl⟩ ?_ ?_
 ·exact Weak.keepL (by simp [ends]) (by simp [ends]) (by simp [ends])
 intro I hI n ⟨hn,hn2,hi⟩
 simp -implicitDefEqProofs only [↓zb,push_cast,simprocAttr,tt]
 refine za (fun h1=>?_) fun h1=>?_
 ·have h1':n<a.length:=Zq h1;refine ⟨Za,?_⟩;refine za (fun h2=>?_) fun h2=>?_
  ·have h2':b.length≤n:=Zq h2;rw [cmpR_end hn hn2 (.inr Za),if_neg Za,if_pos Za] at hi;exact Hi
  ·have h2':n<b.length:=Zp h2;have hw:=zh h1' Za;rw [zA _ _ h1',zA _ _ h2',cmpR] at hi;refine ⟨Za,?_⟩;refine zg [[0,0,0],[0,0,0]] [] (c_compare (a.getD n default) (b.getD n default)) ?_
   simp -implicitDefEqProofs only [↓zb,push_cast,simprocAttr,tt]
   exact NH
 ·have h1':n=a.length:=Zp h1;rw [cmpR_end hn hn2 (.inl h1')] at hi
  refine za (fun k1=>?_) fun k1=>?_
  ·have k1':a.length<b.length:=Zq k1;exact zm trivial (by rw [<-hr,<-hi,if_pos k1'];rfl) Zb
  ·have k1': ¬a.length<b.length:=Zp k1;exact zm trivial (by rw [<-hr,<-hi,if_neg k1',if_neg (by omega)];rfl) Zb
theorem c_cmpKr (a b:List Val) (ha:a.length<=1000000):ACall Tryz.prog 118 [aRow a,aRow b] [] (num (cmpR a b)) []:=by
 refine zn mixed ttok Tryz.func118 Tryz.ntmps118 Tryz.results118 ?_;generalize hr:num (cmpR a b)=R;refine Zn ?_;refine zg [[3],[3],[]] [] (c_cmpF a b ha) ?_
 simp -implicitDefEqProofs only [↓zb,push_cast,simprocAttr,tt]
 exact N7
theorem NK{p:Prop}(h:p:=by
 refine zv [3] rfl Zd Zj ?_ Zk Zb Zb;exact hr):p:=h
theorem c_cloneR' (l:List Val) (R:A) (hr:aRow l=R) (hl:l.length<=1000000):ACall Tryz.prog 122 [aRow l] [] R []:=by
 refine zn mixed ttok Tryz.func122 Tryz.ntmps122 Tryz.results122 ?_;cases l with
 | nil=>
   simp -implicitDefEqProofs only [argT,zC,List.isEmpty_nil,if_true,↓zb,push_cast,simprocAttr,tt]
   refine ⟨?_,?_⟩
   ·exact NK
   ·exact NK
 | cons x l=>
   simp only [Y5] at hl;refine Wr ?_;refine ⟨Za,?_⟩;exact NK
theorem c_cloneR (l:List Val) (hl:l.length<=1000000):ACall Tryz.prog 122 [aRow l] [] (aRow l) []:=c_cloneR' l _ rfl hl
theorem c_cloneO: ∀(l:List Val),l.length<=1000000->ACall Tryz.prog 122 [aRow l] [] (.vec 1000 l.length) [(1000,.vec 71 3 (zd rV l) 0)]
 | [],_=>by
   refine zn mixed ttok Tryz.func122 Tryz.ntmps122 Tryz.results122 ?_
   simp -implicitDefEqProofs only [argT,zC,List.isEmpty_nil,if_true,↓zb,push_cast,simprocAttr,tt]
   exact ⟨ret_nil 71 3 trivial (by simp [ends]),ret_vec 5 trivial (by omega) rfl rfl (by simp [ends])⟩
 | x::l,hl=>by
   simp only [Y5] at hl
   refine zn mixed ttok Tryz.func122 Tryz.ntmps122 Tryz.results122 ?_
   refine Wr ?_;refine ⟨Za,?_⟩;exact ret_vec 5 trivial Za rfl rfl Zb
theorem Xv {p:Prop} (h:p:=by rw [Yb,Yh];omega):p:=h
theorem Me{p:Prop}(h:p:=by
 have hlen:(P++X++Y++S).length=P.length+X.length+Y.length+S.length:=by simp only [List.length_append]
 generalize hN:(P++X++Y++S).length=N at hl hlen ⊢
 have e1:IntKind.i64.wrap ((m:Int)-(a:Int))=((X.length:Nat):Int):=by rw [zt (by omega) (by omega)];omega
 have e2:IntKind.i64.wrap ((b:Int)-(m:Int))=((Y.length:Nat):Int):=by rw [zt (by omega) (by omega)];omega
 simp -implicitDefEqProofs only [argT,e1,e2,↓zb,push_cast,simprocAttr,tt]
 refine zx mixed ttok (fun x:List KE×List KE×List KE×List KE=>(⟨[(10,num x.2.1.length),(11,num x.2.2.1.length),(0,.sub 1000 N 0 N),(2,num m),(4,.clo f [])],[(1000,vecK (x.1++x.2.1++x.2.2.1++x.2.2.2))]⟩:SL)) (fun x=>x.2.1.length+x.2.2.1.length)
  (fun x=>(x.1++x.2.1++x.2.2.1++x.2.2.2).length=N/\x.1.length+x.2.1.length=m/\x.1++x.2.2.1++x.2.1++x.2.2.2=P++Y++X++S/\0<x.2.1.length/\0<x.2.2.1.length) (P,X,Y,S) ⟨hN,hm.symm,rfl,hX,hY⟩ ?_ ?_
 ·exact Weak.keepL (by simp [ends]) (by simp [ends]) (by simp [ends])
 intro I hI ⟨p,x,y,s⟩ ⟨q1,q2,q3,q4,q5⟩
 simp only at q1 q2 q3 q4 q5
 have q1':p.length+x.length+y.length+s.length=N:=by rw [<-q1];simp only [List.length_append]
 simp -implicitDefEqProofs only [↓zb,push_cast,simprocAttr,tt]
 refine za (fun h=>?_) fun h=>?_
 ·have h':x.length≠y.length:=ne_nat h
  have w1:IntKind.i64.wrap ((m:Int)-(x.length:Int))=((p.length:Nat):Int):=by rw [zt (by omega) (by omega)];omega
  refine za (fun g=>?_) fun g=>?_
  ·have g':y.length<x.length:=by have:=of_decide_eq_true g;omega
   have w2:IntKind.i64.wrap ((x.length:Int)-(y.length:Int))=((x.length-y.length:Nat):Int):=by rw [zt (by omega) (by omega)];omega
   have ex:x=x.take y.length++x.drop y.length:=(List.take_append_drop _ _).symm
   have lx:(x.take y.length).length=y.length:=by rw [List.length_take];omega
   have lx2:(x.drop y.length).length=x.length-y.length:=by rw [List.length_drop]
   have hsw:=jH p (x.take y.length) (x.drop y.length) y s lx
   rw [lx,lx2,show p.length+y.length+(x.length-y.length)=m by omega] at hsw
   have el:p++x.take y.length++x.drop y.length++y++s=p++x++y++s:=by rw [List.append_assoc p,<-ex]
   rw [el] at hsw
   have hc:=c_swap (p++x++y++s) p.length m y.length (by omega) (by omega) (by omega) f
   rw [hsw,q1] at hc
   simp only [w1]
   refine zg [[0],[0],[0],[0],[0]] [(1000,1000)] (hc) ?_
   simp -implicitDefEqProofs only [w2,↓zb,push_cast,simprocAttr,tt]
   exact zi hI (p++y,x.drop y.length,x.take y.length,s) ⟨by simp only [List.length_append,lx,lx2];omega,by simp only [List.length_append,lx2];omega,by simp only;rw [<-q3,List.append_assoc (p++y),<-ex],by show 0<(x.drop y.length).length;omega,by show 0<(x.take y.length).length;omega⟩ (by show (x.drop y.length).length+(x.take y.length).length<x.length+y.length;omega) (Weak.keepL (by simp [lx,lx2,ends]) (by simp [ends]) (by simp [ends]))
  ·have g':x.length<y.length:=by have:=of_decide_eq_false g;omega
   have w2:IntKind.i64.wrap ((y.length:Int)-(x.length:Int))=((y.length-x.length:Nat):Int):=by rw [zt (by omega) (by omega)];omega
   have w3:IntKind.i64.wrap ((m:Int)+(y.length:Int))=((m+y.length:Nat):Int):=by rw [zt (by omega) (by omega)];omega
   have w4:IntKind.i64.wrap (((m+y.length:Nat):Int)-(x.length:Int))=((m+y.length-x.length:Nat):Int):=by rw [zt (by omega) (by omega)];omega
   have ey:y=y.take (y.length-x.length)++y.drop (y.length-x.length):=(List.take_append_drop _ _).symm
   have ly:(y.take (y.length-x.length)).length=y.length-x.length:=by rw [List.length_take];omega
   have ly2:(y.drop (y.length-x.length)).length=x.length:=by rw [List.length_drop];omega
   have hsw:=jH p x (y.take (y.length-x.length)) (y.drop (y.length-x.length)) s ly2.symm
   rw [ly,show p.length+x.length+(y.length-x.length)=m+y.length-x.length by omega] at hsw
   have el:p++x++y.take (y.length-x.length)++y.drop (y.length-x.length)++s=p++x++y++s:=by rw [List.append_assoc (p++x),<-ey]
   rw [el] at hsw
   have hc:=c_swap (p++x++y++s) p.length (m+y.length-x.length) x.length (by omega) (by omega) (by omega) f
   rw [hsw,q1] at hc
   simp only [w1,w3,w4]
   refine zg [[0],[0],[0],[0],[0]] [(1000,1000)] (hc) ?_
   simp -implicitDefEqProofs only [w2,↓zb,push_cast,simprocAttr,tt]
   exact zi hI (p,y.drop (y.length-x.length),y.take (y.length-x.length),x++s) ⟨by simp only [List.length_append,ly,ly2];omega,by simp only [ly2];omega,by simp only;rw [<-q3,List.append_assoc p,<-ey];simp,by show 0<(y.drop (y.length-x.length)).length;omega,by show 0<(y.take (y.length-x.length)).length;omega⟩ (by show (y.drop (y.length-x.length)).length+(y.take (y.length-x.length)).length<x.length+y.length;omega) (Weak.keepL (by simp [ly,ly2,ends]) (by simp [List.append_assoc,ends]) (by simp [ends]))
 ·have h':x.length=y.length:=kd h
  have w1:IntKind.i64.wrap ((m:Int)-(x.length:Int))=((p.length:Nat):Int):=by rw [zt (by omega) (by omega)];omega
  have hsw:=jH p x [] y s h'
  rw [List.append_nil,List.append_nil,List.length_nil,Nat.add_zero,q2,q3] at hsw
  have hc:=c_swap (p++x++y++s) p.length m x.length (by omega) (by omega) (by omega) f
  rw [hsw,q1] at hc
  simp only [w1]
  refine zg [[0],[0],[0],[0],[0]] [(1000,1000)] (hc) ?_
  simp -implicitDefEqProofs only [↓zb,push_cast,simprocAttr,tt]
  exact yy trivial Zb Zb):p:=h
theorem Mr{p:Prop}(h:p:=by
 refine Zn ?_;refine zx mixed ttok (fun k:Nat=>(⟨[(10,num k),(0,.sub 1000 l.length 0 l.length),(1,num a),(2,num b),(3,num n)],[(1000,vecK (swsK l a b k))]⟩:SL)) (fun k=>n-k) (fun k=>k<=n) 0 (Yj _) ?_ ?_
 ·exact Ya Zb (by simp [swsK,ends]) Zb
 intro I hI k hk;have hlen:=swsK_len l a b k;have hnx:swsK l a b (k+1)=swK (swsK l a b k) (a+k) (b+k):=rfl;simp -implicitDefEqProofs only [vecK,↓zb,push_cast,simprocAttr,tt]
 refine za (fun h=>?_) fun h=>?_
 ·have h':k<n:=Zq h;have hw:=zh h' Za;have h1:IntKind.i64.wrap ((a:Int)+(k:Int))=((a+k:Nat):Int):=Z9;have h2:IntKind.i64.wrap ((b:Int)+(k:Int))=((b+k:Nat):Int):=Z9;simp only [h1,h2,YA];have hs:=qr (swsK l a b k) (a+k) (b+k) Za Za
  repeat' first | refine And.intro ?_ ?_ | omega | (exact ze (by kernel_rfl)) | (simp only [zc,List.length_set];done) | (simp only [List.length_set,zc];omega) | decide
  rw [hs,<-hnx];exact zi hI (k+1) h' Zl (Ya (Ze hw) Zb Zb)
 ·obtain rfl:k=n:=Zp h;exact yy trivial Zb Zb):p:=h
theorem M4{p:Prop}(h:p:=by
 have ih:=qR p A m B s n hA hB k Za;have hx:=zA A k Za;have hy:=zA B k Za;have e:p++B.take k++A.drop k++m++A.take k++B.drop k++s=(p++B.take k)++A.getD k default::(A.drop (k+1)++m++A.take k)++B.getD k default::(B.drop (k+1)++s):=by
  rw [hx,hy];simp
 have l1:(p++B.take k).length=p.length+k:=Xv;have l2:(A.drop (k+1)++m++A.take k).length=n-1+m.length:=by rw [Yb,Yb,Yh,Ym];omega
 have hm:=swK_mid (p++B.take k) (A.drop (k+1)++m++A.take k) (B.drop (k+1)++s) (A.getD k default) (B.getD k default);rw [l1,l2] at hm;rw [swsK,ih,e,show p.length+n+m.length+k=p.length+k+(n-1+m.length)+1 from Za,hm,zy A k Za,zy B k Za];simp):p:=h
theorem MQ{p:Prop}(h:p:=by
 have h1:(p++x::m++y::s).getD (p.length+m.length+1) default=y:=by
  have:p.length+m.length+1=(p++x::m).length:=Zt;rw [this,Yf,List.getElem?_append_right (Ys _)]
  simp
 have h2:(p++x::m++y::s).getD p.length default=x:=by
  simp [Yf]
 unfold swK;rw [h1,h2];have h3:(p++x::m++y::s).set p.length y=p++y::m++y::s:=Zd;rw [h3];have:p.length+m.length+1=(p++y::m).length:=Zt;rw [this,List.set_append_right _ _ (Ys _)];simp):p:=h
namespace Ra
abbrev KE:=Row
abbrev rK:KE->List D:=rRow
def vecK (l:List KE):Ob:= .vec 53 1 (zd rK l) 0
attribute [local simp, local push_cast] vecK
theorem yy {p:Prop} {t:UL} {o os':UM} (hp:p) (ho:keepO (lookO o) (inO os') os') (hin:keepIn (inO os') o):retx (some (p,A.tup [])) ⟨t,o⟩ (.tup []) os':=
 ⟨hp,Weak.keep (σ:=⟨[(0,.tup [])],os'⟩) ⟨⟨rfl,by simp [A.closed,closedL]⟩,trivial⟩ ho hin⟩
def swK (l:List KE) (i j:Nat):List KE:=(l.set i (l.getD j default)).set j (l.getD i default)
theorem swK_len (l:List KE) (i j:Nat):(swK l i j).length=l.length:=by simp [swK]
theorem swK_mid (p m s:List KE) (x y:KE):swK (p++x::m++y::s) p.length (p.length+m.length+1)=p++y::m++x::s:=MQ
theorem swK_nb (p s:List KE) (x y:KE):swK (p++x::y::s) p.length (p.length+1)=p++y::x::s:=by
 have:=swK_mid p [] s x y;simpa using this
theorem qS (l:List KE) (i j:Nat) (hi:i<l.length) (hj:j<l.length) (hne:i≠j):swK l i j=swK l j i:=by
 unfold swK;rw [List.set_comm _ _ hne]
theorem set_rK (l:List KE) (i:Nat) (x:KE) (hi:i<l.length):(zd rK l).set i (rK x)=zd rK (l.set i x):=jM rK l i x
def swsK (l:List KE) (a b:Nat):Nat->List KE
 | 0=>l
 | n+1=>swK (swsK l a b n) (a+n) (b+n)
theorem swsK_len (l:List KE) (a b n:Nat):(swsK l a b n).length=l.length:=by
 induction n with
 | zero=>rfl
 | succ n ih=>rw [swsK,swK_len,ih]
theorem qR (p A m B s:List KE) (n:Nat) (hA:A.length=n) (hB:B.length=n): ∀k,k<=n->swsK (p++A++m++B++s) p.length (p.length+n+m.length) k=p++B.take k++A.drop k++m++A.take k++B.drop k++s
 | 0,_=>by simp [swsK]
 | k+1,h=>by
   exact M4
theorem jH (p A m B s:List KE) (h:A.length=B.length):swsK (p++A++m++B++s) p.length (p.length+A.length+m.length) A.length=p++B++m++A++s:=by
 rw [qR p A m B s A.length rfl h.symm _ (Ys _),Yk,Um,h,Yk,Um];simp
theorem st1_rK (d:List KE) (i:Nat) (x:KE) (hi:i<d.length):(zd rK d).set i (D.sl 3 (zd rV (x))::(List.drop 1 ((zd rK d).getD i [])))=zd rK (d.set i x):=by
 rw [xR _ _ _ hi];exact set_rK d i x hi
theorem qr (d:List KE) (i j:Nat) (hi:i<d.length) (hj:j<d.length):((zd rK d).set i (D.sl 3 (zd rV (d.getD j default))::(List.drop 1 ((zd rK d).getD i [])))).set j (D.sl 3 (zd rV (d.getD i default))::(List.drop 1 (((zd rK d).set i (D.sl 3 (zd rV (d.getD j default))::(List.drop 1 ((zd rK d).getD i [])))).getD j [])))=zd rK (swK d i j):=by
 rw [st1_rK d i _ hi,st1_rK _ j _ (Zc hj)];rfl
theorem c_swap (l:List KE) (a b n:Nat) (hl:l.length<=1000000) (ha:a+n<=l.length) (hb:b+n<=l.length) (f:FuncId):
 ACall Tryz.prog 250 [.sub 1000 l.length 0 l.length,num a,num b,num n,.clo f []] [(1000,vecK l)] (.tup []) [(1000,vecK (swsK l a b n))]:=by
 refine zn mixed ttok Tryz.func250 Tryz.ntmps250 Tryz.results250 ?_;exact Mr
theorem c_rot (P X Y S:List KE) (a m b:Nat) (ha:a=P.length) (hm:m=P.length+X.length) (hb:b=P.length+X.length+Y.length) (hl:(P++X++Y++S).length<=1000000) (hX:0<X.length) (hY:0<Y.length) (f:FuncId):
 ACall Tryz.prog 229 [.sub 1000 (P++X++Y++S).length 0 (P++X++Y++S).length,num a,num m,num b,.clo f []] [(1000,vecK (P++X++Y++S))] (.tup []) [(1000,vecK (P++Y++X++S))]:=by
 refine zn mixed ttok Tryz.func229 Tryz.ntmps229 Tryz.results229 ?_
 exact Me
end Ra
end
section
attribute [local simp, local push_cast] Ta aRow rRow Ra.vecK
theorem Md{p:Prop}(h:p:=by
 have hlen:(P++U++S).length=P.length+U.length+S.length:=by simp only [Yb]
 generalize hN:(P++U++S).length=N at hl hlen ⊢;have hw0:=zh (n:=a) (N:=1000001) Za Za;refine ZQ hw0 ?_;have h1k: ∀k,k<=U.length->(P++zL leK (U.take k)++U.drop k++S).length=N:=fun k hk=>by
  simp only [Yb,zI,Yh,Ym];omega
 have hk1: ∀x:KE,zL leK [x]=[x]:=fun x=>ssort_one x;refine zx mixed ttok (fun k:Nat=>(⟨[(8,num (a+k:Nat)),(0,.sub 1000 N 0 N),(1,num a),(2,num b),(3,.clo cK [])],[(1000,vecK (P++zL leK (U.take k)++U.drop k++S))]⟩:SL)) (fun k=>U.length+1-k) (fun k=>1<=k/\(k<=U.length\/k=1)) 1 ⟨Ys _,.inr rfl⟩ ?_ ?_
 ·have e1:P++zL leK (U.take 1)++U.drop 1++S=P++U++S:=by
   cases U with
   | nil=>simp [zL]
   | cons x U=>simp [hk1]
  rw [<-e1];exact Ya (Ze hw0) Zb Zb
 intro I hI k ⟨hk0,hk⟩;have hwk:=zh (n:=a+k) (N:=2000002) Za Za;have hwk2:IntKind.i64.wrap (((a+k:Nat):Int)+1)=((a+(k+1):Nat):Int):=hwk;generalize hak:a+k=i at hwk hwk2
 simp -implicitDefEqProofs only [↓zb,push_cast,simprocAttr,tt]
 refine za (fun h=>?_) fun h=>?_
 ·have h':k<U.length:=Zq h;have hV:=yL ordK (U.take k);have hVl:(zL leK (U.take k)).length=k:=by rw [zI,Yh];omega
  have hVm: ∀y∈zL leK (U.take k),wokK (y):=fun y hy=>hU y (YH ((zJ _).mem_iff.1 hy));have hxm:=hU _ (zk h');have hnext:zL leK (U.take (k+1))=List.merge (zL leK (U.take k)) [U.getD k default] leK:=by
   rw [zy _ _ h',<-w9 ordK,hk1]
  have hlk:=h1k k Za;have hlk1:=h1k (k+1) Za;rw [hnext] at hlk1;rw [zA U k h'] at hlk ⊢;obtain ⟨V,hVe⟩: ∃V,V=zL leK (U.take k):=⟨_,rfl⟩
  obtain ⟨x,hxe⟩: ∃x,x=U.getD k default:=⟨_,rfl⟩
  rw [<-hVe] at hV hVl hVm hnext hlk hlk1 ⊢;rw [<-hxe] at hxm hnext hlk hlk1 ⊢;have e1:P++V++x::U.drop (k+1)++S=P++V.take k++x::V.drop k++U.drop (k+1)++S:=by
   rw [<-hVl,Yk,Um];simp
  rw [e1];refine zx mixed ttok (fun v:Nat=>(⟨[(9,num (a+v:Nat)),(8,num i),(0,.sub 1000 N 0 N),(1,num a),(2,num b),(3,.clo cK [])],[(1000,vecK (P++V.take v++x::V.drop v++U.drop (k+1)++S))]⟩:SL)) (fun v=>v) (fun v=>v<=V.length/\ ∀y∈V.drop v,leK y x=false) k ⟨Za,by rw [<-hVl,Um];simp⟩ ?_ ?_
  ·exact Ya (by simp [<-hak,ends]) Zb Zb
  intro J hJ v ⟨hv,hgt⟩;have hdl:(P++V.take v++x::V.drop v++U.drop (k+1)++S).length=N:=by
   rw [<-hlk];simp only [Yb,Y5,Yh,Ym];omega
  have hgx:(P++V.take v++x::V.drop v++U.drop (k+1)++S).getD (a+v) default=x:=
   yN (p:=P++V.take v) (s:=V.drop v++U.drop (k+1)++S) Zd Xv
  have hend:v=0\/(leK (V.getD (v-1) default) x=true)->P++V.take v++x::V.drop v++U.drop (k+1)++S=P++zL leK (U.take (k+1))++U.drop (k+1)++S:=by
   intro hq;have h1: ∀y∈V.take v,leK y x=true:=by
    rcases hq with rfl | hq
    ·simp
    ·by_cases h0:v=0
     ·subst h0;simp
     ·have:=wv hV (v:=v-1) Za hq;rwa [show v-1+1=v from Za] at this
   have hm:=mg_in_r (le:=leK) h1 hgt;rw [Yp] at hm;rw [hnext,hm];simp
  have hidx:(P++V.take v++x::V.drop v++U.drop (k+1)++S).length<=1000000:=Za;have hgy:0<v->(P++V.take v++x::V.drop v++U.drop (k+1)++S).getD (a+v-1) default=V.getD (v-1) default:=fun h0=>
   yN (p:=P++V.take (v-1)) (s:=x::V.drop v++U.drop (k+1)++S) (by
    have:=zy V (v-1) Za;rw [show v-1+1=v from Za] at this;rw [this];simp) Xv
  have hsw:0<v->swK (P++V.take v++x::V.drop v++U.drop (k+1)++S) (a+v) (a+v-1)=P++V.take (v-1)++x::V.drop (v-1)++U.drop (k+1)++S:=fun h0=>by
   have ht:=zy V (v-1) Za;rw [show v-1+1=v from Za] at ht;have hd:=zA V (v-1) Za;rw [show v-1+1=v from Za] at hd;have hn:=swK_nb (P++V.take (v-1)) (V.drop v++U.drop (k+1)++S) (V.getD (v-1) default) x;have hl1:(P++V.take (v-1)).length=a+v-1:=Xv;rw [hl1,show a+v-1+1=a+v from Za] at hn;rw [qS _ _ _ Za Za Za,ht,hd];have e1:P++(V.take (v-1)++[V.getD (v-1) default])++x::V.drop v++U.drop (k+1)++S=(P++V.take (v-1))++V.getD (v-1) default::x::(V.drop v++U.drop (k+1)++S):=Zd;rw [e1,hn];simp
  have hst:=qr (P++V.take v++x::V.drop v++U.drop (k+1)++S) (a+v) (a+v-1) Za Za;generalize hd:P++V.take v++x::V.drop v++U.drop (k+1)++S=d at *;generalize hj:a+v=j at *
  simp -implicitDefEqProofs only [↓zb,push_cast,simprocAttr,tt]
  refine za (fun g=>?_) fun g=>?_
  ·have g':0<v:=Zq g;have w1:IntKind.i64.wrap ((j:Int)-1)=((j-1:Nat):Int):=Z9;have hyv:=zk (l:=V) (n:=v-1) Za;simp only [w1,YA]
   repeat' first | refine And.intro ?_ ?_ | omega | (exact ze Zg) | (simp only [zc,YF];done) | (simp only [YF,zc];omega) | decide
   rw [hgx,hgy g'];refine zg [cwK,cwK] [] (qK x (V.getD (v-1) default) (Y3 hxm Zi)) ?_
   simp -implicitDefEqProofs only [↓zb,push_cast,simprocAttr,tt]
   rw [qA];refine ⟨ze Zg,?_⟩;refine za (fun q=>?_) fun q=>?_
   ·have q':leK (V.getD (v-1) default) x=false:=Zc q;simp only [w1,YA]
    repeat' first | refine And.intro ?_ ?_ | omega | (exact ze Zg) | (simp only [zc,YF];done) | (simp only [YF,zc];omega) | decide
    rw [hst,hsw g'];have hj2:j-1=a+(v-1):=Za;refine zi hJ (v-1) ⟨Za,fun y hy=>?_⟩ Zl (Ya (Ze hj2) Zb Zb);rw [zA V (v-1) Za,show v-1+1=v from Za] at hy;rcases YB.1 hy with rfl | hy
    ·exact q'
    ·exact hgt y hy
   ·have q':leK (V.getD (v-1) default) x=true:=Zc q;rw [hend (.inr q')];exact zi hI (k+1) ⟨Za,.inl h'⟩ Zl (Ya (Ze hwk2) Zb Zb)
  ·have g':v=0:=Zp g;rw [hend (.inl g')];refine ⟨ze Zg,?_⟩;exact zi hI (k+1) ⟨Za,.inl h'⟩ Zl (Ya (Ze hwk2) Zb Zb)
 ·have h':U.length≤k:=Zp h;have e1:P++zL leK (U.take k)++U.drop k++S=P++zL leK U++S:=by
   rw [UG h',YG h',Yw]
  rw [e1];exact yy trivial Zb Zb):p:=h
theorem N2{p:Prop}(h:p:=by
 intro y hy;rw [zy _ _ hv,Yr] at hy;rcases hy with hy | hy
 ·have h1:Asc leK (V.take v++V.getD v default::V.drop (v+1)):=by rw [←zA V v hv,Yp];exact hV
  exact ordK.trans _ _ _ ((List.pairwise_append.1 h1).2.2 y hy _ Zd) h
 ·simp at hy;rw [hy];exact h):p:=h
theorem NZ{p:Prop}(h:p:=by
 intro y hy;have h1:Asc leK (V.drop v):=List.Pairwise.sublist (Ut _ _) hV;rw [zA V v hv] at hy h1;rcases YB.1 hy with rfl | hy
 ·exact h
 ·exact ordK.trans _ _ _ h ((U9.1 h1).1 y hy)):p:=h
theorem Jj{p:Prop}(h:p:=by
 cases h:leK y x with
 | false=>have:=(qa y x).1 h;simpa using this
 | true=>
   have h1: ¬cmK (x) (y)<0:=fun h2=>by rw [(qa y x).2 h2] at h;cases h
   simpa using h1):p:=h
namespace Ra
abbrev cK:Nat:=118
abbrev cwK:List Nat:=[3]
abbrev leK:KE->KE->Bool:=leR
theorem ordK:Ord leK:=ordR
abbrev cmK (x y:KE):Int:=cmpR x y
abbrev wokK (x:KE):Prop:=x.length<=1000
theorem qa (x y:KE):leK x y=false ↔ cmK y x<0:=leR_false x y
def qK:= @c_cmpKr
theorem qA (x y:KE):decide (cmK (x) (y)<0)= !(leK y x):=Jj
theorem mid_getK (p s:List KE) (x:KE):(p++x::s).getD p.length default=x:=by simp [Yf]
theorem yN {l p s:List KE} {x:KE} {n:Nat} (hl:l=p++x::s) (hn:n=p.length):l.getD n default=x:=by rw [hl,hn,mid_getK]
theorem wv {V:List KE} (hV:Asc leK V) {v:Nat} (hv:v<V.length) {x:KE} (h:leK (V.getD v default) x=true): ∀y∈V.take (v+1),leK y x=true:=N2
theorem wI {V:List KE} (hV:Asc leK V) {v:Nat} (hv:v<V.length) {x:KE} (h:leK x (V.getD v default)=true): ∀y∈V.drop v,leK x y=true:=NZ
theorem c_ins (P U S:List KE) (a b:Nat) (ha:a=P.length) (hb:b=P.length+U.length) (hl:(P++U++S).length≤1000000) (hU: ∀x∈U,wokK (x)):
 ACall Tryz.prog 211 [.sub 1000 (P++U++S).length 0 (P++U++S).length,num a,num b,.clo cK []] [(1000,vecK (P++U++S))] (.tup []) [(1000,vecK (P++zL leK U++S))]:=by
 refine zn mixed ttok Tryz.func211 Tryz.ntmps211 Tryz.results211 ?_;exact Md
end Ra
theorem W1 {p:Prop} (h:p:=by have:=ordK.total (V.getD v default) (V.getD v default);simpa using this):p:=h
theorem GG{p:Prop}(h:p:=by
 have h1:IntKind.i64.wrap ((i:Int)+(j:Int))=((i+j:Nat):Int):=by rw [zt (by omega) (by omega)];omega
 rw [h1,wB _ Za];omega):p:=h
theorem Mc{p:Prop}(h:p:=by
 have hlen:(P++U++y::S).length=P.length+U.length+S.length+1:=by simp only [List.length_append,List.length_cons];omega
 obtain ⟨u,hu⟩: ∃u,u=U.length:=⟨_,rfl⟩
 have e1:IntKind.i64.wrap ((m:Int)-(a:Int))=(u:Int):=by rw [zt (by omega) (by omega)];omega
 have e2:IntKind.i64.wrap ((b:Int)-(m:Int))=1:=by rw [zt (by omega) (by omega)];omega
 have hne:((u:Int)==1)=false:=by simp;omega
 have hgy:(P++U++y::S).getD m default=y:=yN (p:=P++U) (s:=S) rfl (by rw [hm,List.length_append])
 have hgu: ∀t,t<U.length->(P++U++y::S).getD (a+t) default=U.getD t default:=fun t ht=>
  yN (p:=P++U.take t) (s:=U.drop (t+1)++y::S) (by
   have h1:U=U.take t++U.getD t default::U.drop (t+1):=by rw [<-zA U t ht,List.take_append_drop]
   calc P++U++y::S=P++(U.take t++U.getD t default::U.drop (t+1))++y::S:=by rw [<-h1]
    _=_:=by simp) (by simp only [List.length_append,List.length_take];omega)
 generalize hN:(P++U++y::S).length=N at hl hlen ⊢
 refine zN mixed ttok ?_
 simp -implicitDefEqProofs only [argT,e1,hne,↓zb,push_cast,simprocAttr,tt]
 refine zN mixed ttok ?_
 simp -implicitDefEqProofs only [e2,↓zb,push_cast,simprocAttr,tt]
 obtain ⟨d,hd⟩: ∃d,d=P++U++y::S:=⟨_,rfl⟩
 rw [<-hd] at hgy hgu hN ⊢
 refine zx mixed ttok (fun x:Nat×Nat=>(⟨[(14,num (a+x.1:Nat)),(15,num (a+x.2:Nat)),(0,.sub 1000 N 0 N),(1,num a),(2,num m),(3,num b),(4,.clo cK [])],[(1000,vecK d)]⟩:SL)) (fun x=>x.2-x.1)
  (fun x=>x.1<=x.2/\x.2<=U.length/\(∀z∈U.take x.1,leK z y=true)/\ ∀z∈U.drop x.2,leK z y=false) (0,U.length) ⟨Nat.zero_le _,Nat.le_refl _,by simp,by simp⟩ ?_ ?_
 ·have hbm:m=a+U.length:=by omega
  exact Weak.keepL (by simp [hbm,ends]) (by simp [ends]) (by simp [ends])
 intro I hI ⟨p,q⟩ ⟨hpq,hq,h1,h2⟩
 simp only at hpq hq h1 h2
 generalize hi:a+p=i
 generalize hj:a+q=j
 simp -implicitDefEqProofs only [↓zb,push_cast,simprocAttr,tt]
 refine za (fun g=>?_) fun g=>?_
 ·have g':p<q:=by have:=of_decide_eq_true g;omega
  obtain ⟨h,hh⟩: ∃h,h=a+(p+q) / 2:=⟨_,rfl⟩
  have ehalf:IntKind.i64.wrap (IntKind.u64.wrap (IntKind.i64.wrap ((i:Int)+(j:Int))) / 2)=(h:Int):=GG
  have hgt:d.getD h default=U.getD ((p+q) / 2) default:=by rw [hh];exact hgu _ (by omega)
  simp only [ehalf,Int.toNat_natCast]
  repeat' first | refine And.intro ?_ ?_ | omega | (exact ze (by kernel_rfl)) | (simp only [zc,List.length_set];done) | (simp only [List.length_set,zc];omega) | decide
  rw [hgt,hgy]
  refine zg [cwK,cwK] [] (qK y (U.getD ((p+q) / 2) default) (Y3 hy Zi)) ?_
  simp -implicitDefEqProofs only [ehalf,↓zb,push_cast,simprocAttr,tt]
  rw [qA]
  refine ⟨ze (by kernel_rfl),?_⟩
  have ew:IntKind.i64.wrap ((h:Int)+1)=((a+((p+q) / 2+1):Nat):Int):=by rw [zt (by omega) (by omega)];omega
  refine za (fun q1=>?_) fun q1=>?_
  ·have q1':leK (U.getD ((p+q) / 2) default) y=true:=by simpa using q1
   exact zi hI ((p+q) / 2+1,q) ⟨Zl,hq,wv hU Za q1',h2⟩ Zl (Ya (by simp [ew,<-hj,ends]) Zb Zb)
  ·have q1':leK (U.getD ((p+q) / 2) default) y=false:=by simpa using q1
   exact zi hI (p,(p+q) / 2) ⟨Zl,Zl,h1,gE hU Za q1'⟩ Zl (Ya (by simp [hh,<-hi,ends]) Zb Zb)
 have g':p=q:=by have:=of_decide_eq_false g;omega
 subst g'
 have hmg:=mg_in_r (le:=leK) h1 h2
 rw [List.take_append_drop] at hmg
 have hend:P++List.merge U [y] leK++S=P++U.take p++y::U.drop p++S:=by rw [hmg];simp
 rw [hend,hd]
 clear hmg hend hgy hgu hI
 have hd0:P++U++y::S=P++U.take U.length++y::U.drop U.length++S:=by simp
 rw [hd0]
 refine zx mixed ttok (fun t:Nat=>(⟨[(17,num (a+t:Nat)),(14,num i),(0,.sub 1000 N 0 N),(1,num a)],[(1000,vecK (P++U.take t++y::U.drop t++S))]⟩:SL)) (fun t=>t) (fun t=>p<=t/\t<=U.length) U.length ⟨Za,Ys _⟩ ?_ ?_
 ·have hbm:m=a+U.length:=by omega
  exact Weak.keepL (by simp [hbm,ends]) (by simp [ends]) (by simp [ends])
 intro I hI t ⟨ht,htl⟩
 have hdl:(P++U.take t++y::U.drop t++S).length=N:=by
  rw [<-hN,hd];simp only [List.length_append,List.length_cons,List.length_take,List.length_drop];omega
 have hsw:0<t->swK (P++U.take t++y::U.drop t++S) (a+t) (a+t-1)=P++U.take (t-1)++y::U.drop (t-1)++S:=fun h0=>by
  have ht2:=zy U (t-1) (by omega)
  rw [show t-1+1=t by omega] at ht2
  have hd2:=zA U (t-1) (by omega)
  rw [show t-1+1=t by omega] at hd2
  have hn:=swK_nb (P++U.take (t-1)) (U.drop t++S) (U.getD (t-1) default) y
  have hl1:(P++U.take (t-1)).length=a+t-1:=by rw [List.length_append,List.length_take];omega
  rw [hl1,show a+t-1+1=a+t by omega] at hn
  rw [qS _ _ _ Za Za Za,ht2,hd2]
  have e1:P++(U.take (t-1)++[U.getD (t-1) default])++y::U.drop t++S=(P++U.take (t-1))++U.getD (t-1) default::y::(U.drop t++S):=by simp
  rw [e1,hn]
  simp
 generalize hdt:P++U.take t++y::U.drop t++S=dt at *
 generalize hk:a+t=k at *
 simp -implicitDefEqProofs only [↓zb,push_cast,simprocAttr,tt]
 refine za (fun g=>?_) fun g=>?_
 ·have g':p<t:=by have:=of_decide_eq_true g;omega
  have w1:IntKind.i64.wrap ((k:Int)-1)=((k-1:Nat):Int):=by rw [zt (by omega) (by omega)];omega
  have hst:=qr dt k (k-1) Za Za
  simp only [w1,Int.toNat_natCast]
  repeat' first | refine And.intro ?_ ?_ | omega | (exact ze (by kernel_rfl)) | (simp only [zc,List.length_set];done) | (simp only [List.length_set,zc];omega) | decide
  rw [hst,hsw (by omega)]
  have hk2:k-1=a+(t-1):=by omega
  exact zi hI (t-1) ⟨by omega,by omega⟩ (by show t-1<t;omega) (Weak.keepL (by simp [hk2,ends]) (by simp [ends]) (by simp [ends]))
 ·have g':t=p:=by have:=of_decide_eq_false g;omega
  subst g'
  rw [hdt]
  exact yy trivial Zb Zb):p:=h
theorem Mf{p:Prop}(h:p:=by
 have hlen:(P++x::V++S).length=P.length+1+V.length+S.length:=by simp only [Yb,Y5];omega
 have e1:IntKind.i64.wrap ((m:Int)-(a:Int))=1:=Z9;have hgx:(P++x::V++S).getD a default=x:=yN (p:=P) (s:=V++S) Zd ha;have hgv: ∀t,t<V.length->(P++x::V++S).getD (m+t) default=V.getD t default:=fun t ht=>
  yN (p:=P++x::V.take t) (s:=V.drop (t+1)++S) (by
   have h1:V=V.take t++V.getD t default::V.drop (t+1):=by rw [<-zA V t ht,List.take_append_drop]
   calc P++x::V++S=P++x::(V.take t++V.getD t default::V.drop (t+1))++S:=by rw [<-h1]
    _=_:=Zd) (by simp only [Yb,Y5,Yh];omega)
 generalize hN:(P++x::V++S).length=N at hl hlen ⊢;refine zN mixed ttok ?_;refine ZQ e1 ?_;obtain ⟨d,hd⟩: ∃d,d=P++x::V++S:=⟨_,rfl⟩
 rw [<-hd] at hgx hgv hN ⊢;refine zx mixed ttok (fun y:Nat×Nat=>(⟨[(10,num (m+y.1:Nat)),(11,num (m+y.2:Nat)),(0,.sub 1000 N 0 N),(1,num a),(2,num m),(3,num b),(4,.clo cK [])],[(1000,vecK d)]⟩:SL)) (fun y=>y.2-y.1)
  (fun y=>y.1<=y.2/\y.2<=V.length/\(∀z∈V.take y.1,leK x z=false)/\ ∀z∈V.drop y.2,leK x z=true) (0,V.length) ⟨Yj _,Ys _,Zd,Zd⟩ ?_ ?_
 ·have hbm:b=m+V.length:=Za
  exact Weak.keepL (by simp [hbm,ends]) (by simp [ends]) (by simp [ends])
 intro I hI ⟨p,q⟩ ⟨hpq,hq,h1,h2⟩
 simp only at hpq hq h1 h2
 generalize hi:m+p=i;generalize hj:m+q=j
 simp -implicitDefEqProofs only [↓zb,push_cast,simprocAttr,tt]
 refine za (fun g=>?_) fun g=>?_
 ·have g':p<q:=by have:=of_decide_eq_true g;omega
  obtain ⟨h,hh⟩: ∃h,h=m+(p+q) / 2:=⟨_,rfl⟩
  have ehalf:IntKind.i64.wrap (IntKind.u64.wrap (IntKind.i64.wrap ((i:Int)+(j:Int))) / 2)=(h:Int):=GG;have hgt:d.getD h default=V.getD ((p+q) / 2) default:=by rw [hh];exact hgv _ (by omega)
  simp only [ehalf,Int.toNat_natCast]
  repeat' first | refine And.intro ?_ ?_ | omega | (exact ze (by kernel_rfl)) | (simp only [zc,List.length_set];done) | (simp only [List.length_set,zc];omega) | decide
  rw [hgt,hgx];refine zg [cwK,cwK] [] (qK (V.getD ((p+q) / 2) default) x (Y3 (hVw _ (zk Za)) Zi)) ?_
  simp -implicitDefEqProofs only [ehalf,↓zb,push_cast,simprocAttr,tt]
  rw [qA]
  refine ⟨ze (by kernel_rfl),?_⟩
  have ew:IntKind.i64.wrap ((h:Int)+1)=((m+((p+q) / 2+1):Nat):Int):=Z9
  refine za (fun q1=>?_) fun q1=>?_
  ·have q1':leK x (V.getD ((p+q) / 2) default)=false:=Zc q1;exact zi hI ((p+q) / 2+1,q) ⟨Zl,hq,gF hV Za q1',h2⟩ Zl (Ya (by simp [ew,<-hj,ends]) Zb Zb)
  ·have q1':leK x (V.getD ((p+q) / 2) default)=true:=Zc q1;exact zi hI (p,(p+q) / 2) ⟨Zl,Zl,h1,wI hV Za q1'⟩ Zl (Ya (by simp [hh,<-hi,ends]) Zb Zb)
 have g':p=q:=by have:=of_decide_eq_false g;omega
 subst g'
 have hmg:=mg_in_l (le:=leK) h1 h2
 rw [List.take_append_drop] at hmg
 have hend:P++List.merge [x] V leK++S=P++V.take p++x::V.drop p++S:=ZP hmg
 rw [hend,hd]
 have ei:IntKind.i64.wrap ((i:Int)-1)=((a+p:Nat):Int):=Z9;clear hmg hend hgv hgx hI;generalize hap:a+p=i1 at ei;have hd0:P++x::V++S=P++V.take 0++x::V.drop 0++S:=Zd
 rw [hd0]
 refine zx mixed ttok (fun t:Nat=>(⟨[(13,num (a+t:Nat)),(10,num i),(0,.sub 1000 N 0 N),(1,num a)],[(1000,vecK (P++V.take t++x::V.drop t++S))]⟩:SL)) (fun t=>p-t) (fun t=>t<=p) 0 (Yj _) ?_ ?_
 ·exact Weak.keepL (by simp [ends]) (by simp [ends]) (by simp [ends])
 intro I hI t ht;have hdl:(P++V.take t++x::V.drop t++S).length=N:=by
  rw [<-hN,hd];simp only [List.length_append,List.length_cons,List.length_take,List.length_drop];omega
 have hsw:t<p->swK (P++V.take t++x::V.drop t++S) (a+t) (a+t+1)=P++V.take (t+1)++x::V.drop (t+1)++S:=fun h0=>by
  have hn:=swK_nb (P++V.take t) (V.drop (t+1)++S) x (V.getD t default);have hl1:(P++V.take t).length=a+t:=Xv;rw [hl1] at hn;rw [zA V t Za,zy V t Za];have e1:P++V.take t++x::(V.getD t default::V.drop (t+1))++S=(P++V.take t)++x::V.getD t default::(V.drop (t+1)++S):=Zd
  rw [e1,hn]
  simp
 generalize hdt:P++V.take t++x::V.drop t++S=dt at *
 generalize hk:a+t=k at *
 refine Zy ei ?_
 refine za (fun g=>?_) fun g=>?_
 ·have g':t<p:=Zq g;have w1:IntKind.i64.wrap ((k:Int)+1)=((k+1:Nat):Int):=zh (N:=2000000) Za Za;have hst:=qr dt k (k+1) Za Za
  simp only [w1,Int.toNat_natCast]
  repeat' first | refine And.intro ?_ ?_ | omega | (exact ze (by kernel_rfl)) | (simp only [zc,List.length_set];done) | (simp only [List.length_set,zc];omega) | decide
  rw [hst,hsw g'];have hk2:k+1=a+(t+1):=Za;exact zi hI (t+1) g' Zl (Ya (Ze hk2) Zb Zb)
 ·have g':t=p:=by have:=of_decide_eq_false g;omega
  subst g'
  rw [hdt]
  exact yy trivial Zb Zb):p:=h
theorem Jn{p:Prop}(h:p:=by
 intro y hy;cases hq:leK y x with
 | false=>rfl
 | true=>
   have:=ordK.trans _ _ _ (wI hV hv (x:=V.getD v default) W1 y hy) hq;rw [h] at this;cases this):p:=h
theorem Jo{p:Prop}(h:p:=by
 intro y hy;cases hq:leK x y with
 | false=>rfl
 | true=>
   have:=ordK.trans _ _ _ hq (wv hV hv (x:=V.getD v default) W1 y hy);rw [h] at this;cases this):p:=h
theorem JO{p:Prop}(h:p:=by
 have h1:IntKind.u64.wrap (n:Int)=n:=by unfold IntKind.wrap;simp [IntKind.signed,IntKind.bits];omega
 rw [h1,zt Za Za];omega):p:=h
namespace Ra
theorem wB (n:Nat) (h:n<=4000000):IntKind.i64.wrap (IntKind.u64.wrap (n:Int) / 2)=((n / 2:Nat):Int):=JO
theorem gF {V:List KE} (hV:Asc leK V) {v:Nat} (hv:v<V.length) {x:KE} (h:leK x (V.getD v default)=false): ∀y∈V.take (v+1),leK x y=false:=Jo
theorem gE {V:List KE} (hV:Asc leK V) {v:Nat} (hv:v<V.length) {x:KE} (h:leK (V.getD v default) x=false): ∀y∈V.drop v,leK y x=false:=Jn
theorem c_sym1 (P V S:List KE) (x:KE) (a m b:Nat) (ha:a=P.length) (hm:m=P.length+1) (hb:b=P.length+1+V.length) (hl:(P++x::V++S).length≤1000000) (hV:Asc leK V) (hx:wokK (x)) (hVw: ∀y∈V,wokK (y)):
 ACall Tryz.prog 212 [.sub 1000 (P++x::V++S).length 0 (P++x::V++S).length,num a,num m,num b,.clo cK []] [(1000,vecK (P++x::V++S))] (.tup []) [(1000,vecK (P++List.merge [x] V leK++S))]:=by
 refine enterX ttok Tryz.func212 Tryz.ntmps212 Tryz.results212 ?_
 exact Mf
theorem c_sym2 (P U S:List KE) (y:KE) (a m b:Nat) (ha:a=P.length) (hm:m=P.length+U.length) (hb:b=P.length+U.length+1) (hl:(P++U++y::S).length≤1000000) (hU1:U.length≠1) (hU:Asc leK U) (hy:wokK (y)) (hUw: ∀z∈U,wokK (z)):
 ACall Tryz.prog 212 [.sub 1000 (P++U++y::S).length 0 (P++U++y::S).length,num a,num m,num b,.clo cK []] [(1000,vecK (P++U++y::S))] (.tup []) [(1000,vecK (P++List.merge U [y] leK++S))]:=by
 refine enterX ttok Tryz.func212 Tryz.ntmps212 Tryz.results212 ?_
 exact Mc
end Ra
theorem Vh {p:Prop} (h:p:=by have:=ordK.total (V.getD (e-m) default) (V.getD (e-m) default);simpa using this):p:=h
theorem Vi {p:Prop} (h:p:=by have:=ordK.total (U.getD (s-a) default) (U.getD (s-a) default);simpa using this):p:=h
theorem Vj {p:Prop} (h:p:=by have:=ordK.total (V.getD (e-1-m) default) (V.getD (e-1-m) default);simpa using this):p:=h
theorem Ma{p:Prop}(h:p:=by
 have hlen:(P++U++V++S).length=P.length+U.length+V.length+S.length:=by simp only [List.length_append]
 obtain ⟨u,hu⟩: ∃u,u=U.length:=⟨_,rfl⟩
 obtain ⟨v,hv⟩: ∃v,v=V.length:=⟨_,rfl⟩
 rw [<-hu] at hm hb hU2 hlen
 rw [<-hv] at hb hV2 hlen
 have e1:IntKind.i64.wrap ((m:Int)-(a:Int))=(u:Int):=by rw [zt (by omega) (by omega)];omega
 have e2:IntKind.i64.wrap ((b:Int)-(m:Int))=(v:Int):=by rw [zt (by omega) (by omega)];omega
 have hne:((u:Int)==1)=false:=by simp;omega
 have hne2:((v:Int)==1)=false:=by simp;omega
 have hgv: ∀t,t<V.length->(P++U++V++S).getD (m+t) default=V.getD t default:=fun t ht=>
  yN (p:=P++U++V.take t) (s:=V.drop (t+1)++S) (by
   have h1:V=V.take t++V.getD t default::V.drop (t+1):=by rw [<-zA V t ht,List.take_append_drop]
   calc P++U++V++S=P++U++(V.take t++V.getD t default::V.drop (t+1))++S:=by rw [<-h1]
    _=_:=by simp) (by simp only [List.length_append,List.length_take];omega)
 have hgu: ∀t,t<U.length->(P++U++V++S).getD (a+t) default=U.getD t default:=fun t ht=>
  yN (p:=P++U.take t) (s:=U.drop (t+1)++V++S) (by
   have h1:U=U.take t++U.getD t default::U.drop (t+1):=by rw [<-zA U t ht,List.take_append_drop]
   calc P++U++V++S=P++(U.take t++U.getD t default::U.drop (t+1))++V++S:=by rw [<-h1]
    _=_:=by simp) (by simp only [List.length_append,List.length_take];omega)
 generalize hN:(P++U++V++S).length=N at hl hlen ⊢
 obtain ⟨d,hd⟩: ∃d,d=P++U++V++S:=⟨_,rfl⟩
 rw [<-hd] at hgv hgu hN ⊢
 refine zN mixed ttok ?_
 simp -implicitDefEqProofs only [argT,e1,hne,↓zb,push_cast,simprocAttr,tt]
 refine zN mixed ttok ?_
 simp -implicitDefEqProofs only [e2,hne2,↓zb,push_cast,simprocAttr,tt]
 obtain ⟨mid,hmid⟩: ∃mid,mid=(a+b) / 2:=⟨_,rfl⟩
 have ehalf:IntKind.i64.wrap (IntKind.u64.wrap (IntKind.i64.wrap ((a:Int)+(b:Int))) / 2)=(mid:Int):=by
  have h1:IntKind.i64.wrap ((a:Int)+(b:Int))=((a+b:Nat):Int):=by rw [zt (by omega) (by omega)];omega
  rw [h1,wB _ Za,hmid]
 obtain ⟨n,hn⟩: ∃n,n=mid+m:=⟨_,rfl⟩
 have en:IntKind.i64.wrap ((mid:Int)+(m:Int))=(n:Int):=by rw [zt (by omega) (by omega)];omega
 have en1:IntKind.i64.wrap ((n:Int)-1)=((n-1:Nat):Int):=by rw [zt (by omega) (by omega)];omega
 have enb:m>mid->IntKind.i64.wrap ((n:Int)-(b:Int))=((n-b:Nat):Int):=fun h=>by rw [zt (by omega) (by omega)];omega
 refine zN mixed ttok ?_
 simp -implicitDefEqProofs only [ehalf,en,↓zb,push_cast,simprocAttr,tt]
 refine ⟨by decide,?_⟩
 refine zN mixed ttok ?_
 simp -implicitDefEqProofs only [en,↓zb,push_cast,simprocAttr,tt]
 refine zN mixed ttok ?_
 simp -implicitDefEqProofs only [↓zb,push_cast,simprocAttr,tt]
 obtain ⟨s0,hs0⟩: ∃s0,s0=if m>mid then n-b else a:=⟨_,rfl⟩
 obtain ⟨r0,hr0⟩: ∃r0,r0=if m>mid then mid else m:=⟨_,rfl⟩
 refine vP mixed ttok (⟨[(18,num mid),(19,num n),(20,num s0),(21,num r0),(0,.sub 1000 N 0 N),(1,num a),(2,num m),(3,num b),(4,.clo cK [])],[(1000,vecK d)]⟩:SL) ?_ ?_
 ·simp -implicitDefEqProofs only [↓zb,push_cast,simprocAttr,tt]
  refine za (fun g=>?_) fun g=>?_
  ·have g':m>mid:=by have:=of_decide_eq_true g;omega
   rw [enb g']
   rw [if_pos g'] at hs0 hr0
   exact Weak.keepL (by simp [<-hs0,hr0,ends]) (by simp [ends]) (by simp [ends])
  ·have g': ¬m>mid:=by have:=of_decide_eq_false g;omega
   rw [if_neg g'] at hs0 hr0
   exact Weak.keepL (by simp [hs0,hr0,ends]) (by simp [ends]) (by simp [ends])
 refine zN mixed ttok ?_
 simp -implicitDefEqProofs only [en1,↓zb,push_cast,simprocAttr,tt]
 obtain ⟨p1,hp1⟩: ∃p1,p1=n-1:=⟨_,rfl⟩
 rw [<-hp1]
 have hb1:a<=s0/\s0<=r0/\r0<=mid/\r0<=m/\n<=s0+b/\(s0=a\/s0+b=n)/\(r0=mid\/r0=m):=by
  by_cases g':m>mid
  ·rw [if_pos g'] at hs0 hr0;omega
  ·rw [if_neg g'] at hs0 hr0;omega
 obtain ⟨q1,q2,q3,q4,q5,q6',q7'⟩:=hb1
 have q6:HidK _:=⟨q6'⟩
 have q7:HidK _:=⟨q7'⟩
 clear q6' q7'
 clear hs0 hr0 enb e1 e2 hne hne2 ehalf
 refine zN mixed ttok ?_
 simp -implicitDefEqProofs only [↓zb,push_cast,simprocAttr,tt]
 refine zx mixed ttok (fun x:Nat×Nat=>(⟨[(20,num x.1),(21,num x.2),(22,num p1),(18,num mid),(19,num n),(0,.sub 1000 N 0 N),(1,num a),(2,num m),(3,num b),(4,.clo cK [])],[(1000,vecK d)]⟩:SL)) (fun x=>x.2-x.1)
  (fun x=>s0<=x.1/\x.1<=x.2/\x.2<=r0/\HidK (x.1=s0\/(s0<x.1/\leK (d.getD (x.1-1) default) (d.getD (p1-(x.1-1)) default)=true))/\HidK (x.2=r0\/leK (d.getD x.2 default) (d.getD (p1-x.2) default)=false)) (s0,r0) ⟨Nat.le_refl _,q2,Nat.le_refl _,⟨.inl rfl⟩,⟨.inl rfl⟩⟩ ?_ ?_
 ·exact Weak.keepL (by simp [ends]) (by simp [ends]) (by simp [ends])
 intro I hI ⟨s,r⟩ ⟨i1,i2,i3,i4,i5⟩
 simp only at i1 i2 i3 i4 i5
 simp -implicitDefEqProofs only [↓zb,push_cast,simprocAttr,tt]
 refine za (fun g=>?_) fun g=>?_
 ·have g':s<r:=by have:=of_decide_eq_true g;omega
  obtain ⟨c,hc⟩: ∃c,c=(s+r) / 2:=⟨_,rfl⟩
  have ehalf:IntKind.i64.wrap (IntKind.u64.wrap (IntKind.i64.wrap ((s:Int)+(r:Int))) / 2)=(c:Int):=by
   have h1:IntKind.i64.wrap ((s:Int)+(r:Int))=((s+r:Nat):Int):=by rw [zt (by omega) (by omega)];omega
   rw [h1,wB _ Za,hc]
  have epc:IntKind.i64.wrap ((p1:Int)-(c:Int))=((p1-c:Nat):Int):=by rw [zt (by omega) (by omega)];omega
  have ew:IntKind.i64.wrap ((c:Int)+1)=((c+1:Nat):Int):=by rw [zt (by omega) (by omega)];omega
  have hdv:=hgv (p1-c-m) (by omega)
  rw [show m+(p1-c-m)=p1-c by omega] at hdv
  have hdw:=hVw _ (zk (l:=V) (n:=p1-c-m) (by omega))
  rw [<-hdv] at hdw
  simp only [ehalf,epc,Int.toNat_natCast]
  repeat' first | refine And.intro ?_ ?_ | omega | (exact ze (by kernel_rfl)) | (simp only [zc,List.length_set];done) | (simp only [List.length_set,zc];omega) | decide
  refine zg [cwK,cwK] [] (qK (d.getD (p1-c) default) (d.getD c default) (Y3 hdw Zi)) ?_
  simp -implicitDefEqProofs only [ehalf,↓zb,push_cast,simprocAttr,tt]
  rw [qA]
  refine ⟨ze (by kernel_rfl),?_⟩
  refine za (fun k1=>?_) fun k1=>?_
  ·have k1':leK (d.getD c default) (d.getD (p1-c) default)=true:=by simpa using k1
   exact zi hI (c+1,r) ⟨by show s0<=c+1;omega,by show c+1<=r;omega,i3,⟨.inr ⟨by show s0<c+1;omega,by simpa using k1'⟩⟩,i5⟩ (by show r-(c+1)<r-s;omega) (Weak.keepL (by simp [ew,ends]) (by simp [ends]) (by simp [ends]))
  ·have k1':leK (d.getD c default) (d.getD (p1-c) default)=false:=by simpa using k1
   exact zi hI (s,c) ⟨i1,by show s<=c;omega,by show c<=r0;omega,i4,⟨.inr k1'⟩⟩ (by show c-s<r-s;omega) (Weak.keepL (by simp [ends]) (by simp [ends]) (by simp [ends]))
 have g':s=r:=by have:=of_decide_eq_false g;omega
 subst g'
 clear hI
 obtain ⟨e,he⟩: ∃e,e=n-s:=⟨_,rfl⟩
 have ee:IntKind.i64.wrap ((n:Int)-(s:Int))=(e:Int):=by rw [zt (by omega) (by omega)];omega
 refine zN mixed ttok ?_
 simp -implicitDefEqProofs only [ee,↓zb,push_cast,simprocAttr,tt]
 have f1:a<=s:=by omega
 have f2:s<=m:=by omega
 have f3:s<=mid:=by omega
 have f4:m<=e:=by omega
 have f5:e<=b:=by omega
 have f6:s+e=n:=by omega
 have f7:p1+1=n:=by omega
 have f8:a<mid:=by omega
 have f9:mid<b:=by omega
 have hm2:m=a+U.length:=by omega
 have hb2:b=m+V.length:=by omega
 have cA:=symAK U V d a m b n s e s0 p1 hU hV hm2 hb2 hgu hgv f1 f2 f4 f5 f6 f7 q1 q6.it q5 i4.it
 have cB:=symBK U V d a m b n mid s e r0 p1 hU hV hm2 hb2 hgu hgv f1 f2 f4 f5 f6 f7 hn q7.it i5.it
 clear hgu hgv i4 i5 q6 q7 q5 hmid hp1
 have hmg:=vK (le:=leK) _ (U.take (s-a)) (V.take (e-m)) (U.drop (s-a)) (V.drop (e-m)) (Ys _) cA cB
 rw [List.take_append_drop,List.take_append_drop] at hmg
 clear cA cB
 have hd0:d=P++U.take (s-a)++U.drop (s-a)++V.take (e-m)++(V.drop (e-m)++S):=by
  rw [hd,List.append_assoc P (U.take (s-a)),List.take_append_drop,List.append_assoc (P++U) (V.take (e-m)),<-List.append_assoc (V.take (e-m)),List.take_append_drop,<-List.append_assoc]
 obtain ⟨d1,d2,d3,hd3,hrot,hno1,hsym1,hno2,hsym2,hno3⟩:=symPlanK (U.take (s-a)) (U.drop (s-a)) (V.take (e-m)) (V.drop (e-m)) P S a m b N mid s e (U.length+V.length)
  (List.Pairwise.sublist (List.take_sublist _ _) hU) (List.Pairwise.sublist (List.drop_sublist _ _) hU) (List.Pairwise.sublist (List.take_sublist _ _) hV) (List.Pairwise.sublist (List.drop_sublist _ _) hV)
  (fun z hz=>hUw z (List.mem_of_mem_take hz)) (fun z hz=>hUw z (List.mem_of_mem_drop hz)) (fun z hz=>hVw z (List.mem_of_mem_take hz)) (fun z hz=>hVw z (List.mem_of_mem_drop hz)) ih
  ha (by rw [List.length_take];omega) (by rw [List.length_drop];omega) (by rw [List.length_take];omega) (by rw [List.length_drop];omega) (by rw [List.length_take];omega) (by omega) f8 f9 hl (by rw [<-hd0];exact hN)
 rw [<-hmg] at hd3
 rw [<-hd0] at hrot hno1
 rw [<-hd3]
 clear hd hd3 ih hU hV hUw hVw hmg hd0
 refine vP mixed ttok (⟨[(18,num mid),(20,num s),(24,num e),(0,.sub 1000 N 0 N),(1,num a),(2,num m),(3,num b),(4,.clo cK [])],[(1000,vecK d1)]⟩:SL) ?_ ?_
 ·simp -implicitDefEqProofs only [↓zb,push_cast,simprocAttr,tt]
  refine za (fun z1=>?_) fun z1=>?_
  ·have z1':s<m:=by have:=of_decide_eq_true z1;omega
   refine za (fun z2=>?_) fun z2=>?_
   ·have z2':m<e:=by have:=of_decide_eq_true z2;omega
    refine zg [[0],[0],[0],[0],[0]] [(1000,1000)] (hrot z1' z2') ?_
    simp -implicitDefEqProofs only [↓zb,push_cast,simprocAttr,tt]
    exact Weak.keepL (by simp [ends]) (by simp [ends]) (by simp [ends])
   ·have z2': ¬m<e:=by have:=of_decide_eq_false z2;omega
    rw [hno1 (fun h=>z2' h.2)]
    exact Weak.keepL (by simp [ends]) (by simp [ends]) (by simp [ends])
  ·have z1': ¬s<m:=by have:=of_decide_eq_false z1;omega
   rw [hno1 (fun h=>z1' h.1)]
   exact Weak.keepL (by simp [ends]) (by simp [ends]) (by simp [ends])
 refine vP mixed ttok (⟨[(18,num mid),(20,num s),(24,num e),(0,.sub 1000 N 0 N),(1,num a),(2,num m),(3,num b),(4,.clo cK [])],[(1000,vecK d2)]⟩:SL) ?_ ?_
 ·simp -implicitDefEqProofs only [↓zb,push_cast,simprocAttr,tt]
  refine za (fun z1=>?_) fun z1=>?_
  ·have z1':a<s:=by have:=of_decide_eq_true z1;omega
   refine za (fun z2=>?_) fun z2=>?_
   ·have z2':s<mid:=by have:=of_decide_eq_true z2;omega
    refine zg [[0],[0],[0],[0],[0]] [(1000,1000)] (hsym1 z1' z2') ?_
    simp -implicitDefEqProofs only [↓zb,push_cast,simprocAttr,tt]
    exact Weak.keepL (by simp [ends]) (by simp [ends]) (by simp [ends])
   ·have z2': ¬s<mid:=by have:=of_decide_eq_false z2;omega
    rw [hno2 (fun h=>z2' h.2)]
    exact Weak.keepL (by simp [ends]) (by simp [ends]) (by simp [ends])
  ·have z1': ¬a<s:=by have:=of_decide_eq_false z1;omega
   rw [hno2 (fun h=>z1' h.1)]
   exact Weak.keepL (by simp [ends]) (by simp [ends]) (by simp [ends])
 refine uz mixed ttok ?_
 simp -implicitDefEqProofs only [↓zb,push_cast,simprocAttr,tt]
 refine za (fun z1=>?_) fun z1=>?_
 ·have z1':mid<e:=by have:=of_decide_eq_true z1;omega
  refine za (fun z2=>?_) fun z2=>?_
  ·have z2':e<b:=by have:=of_decide_eq_true z2;omega
   refine zg [[0],[0],[0],[0],[0]] [(1000,1000)] (hsym2 z1' z2') ?_
   simp -implicitDefEqProofs only [↓zb,push_cast,simprocAttr,tt]
   exact yy trivial Zb Zb
  ·have z2': ¬e<b:=by have:=of_decide_eq_false z2;omega
   rw [hno3 (fun h=>z2' h.2)]
   exact yy trivial Zb Zb
 ·have z1': ¬mid<e:=by have:=of_decide_eq_false z1;omega
  rw [hno3 (fun h=>z1' h.1)]
  exact yy trivial Zb Zb):p:=h
theorem Mn{p:Prop}(h:p:=by
 have hlen:=hN;simp only [Yb] at hlen;have l1:(P++u1++v1++u2++(v2++S)).length=N:=by simp only [Yb];omega
 have l2:(P++List.merge u1 v1 leK++u2++v2++S).length=N:=by simp only [Yb,gS];omega
 refine ⟨P++u1++v1++u2++(v2++S),P++List.merge u1 v1 leK++u2++v2++S,_,rfl,fun z1 z2=>?_,fun z=>?_,fun z1 z2=>?_,fun z=>?_,fun z1 z2=>?_,fun z=>?_⟩
 ·have:=c_rot (P++u1) u2 v1 (v2++S) s m e ZC ZC ZC (by rw [hN];exact hl) Za Za cK;rwa [hN] at this
 ·by_cases z1:s<m
  ·have:v1=[]:=Yi Za;rw [this];simp
  ·have:u2=[]:=Yi Za;rw [this];simp
 ·have e1:P++u1++v1++(u2++v2++S)=P++u1++v1++u2++(v2++S):=Zd;have e2:P++List.merge u1 v1 leK++(u2++v2++S)=P++List.merge u1 v1 leK++u2++v2++S:=Zd;have:=ih u1 v1 Za Za Za au1 av1 wu1 wv1 P (u2++v2++S) a s mid ha Za Za (by rw [e1,l1];exact hl);rwa [e1,e2,l1] at this
 ·by_cases z1:a<s
  ·have:v1=[]:=Yi Za;rw [this];simp
  ·have:u1=[]:=Yi Za;rw [this];simp
 ·have e3:P++List.merge u1 v1 leK++List.merge u2 v2 leK++S=P++(List.merge u1 v1 leK++List.merge u2 v2 leK)++S:=Zd;have lm:(P++List.merge u1 v1 leK).length=mid:=by rw [Yb,gS];omega
  have:=ih u2 v2 Za Za Za au2 av2 wu2 wv2 (P++List.merge u1 v1 leK) S mid e b lm.symm Za Za (by rw [l2];exact hl);rwa [e3,l2] at this
 ·by_cases z1:mid<e
  ·have:v2=[]:=Yi Za;rw [this];simp
  ·have:u2=[]:=Yi Za;rw [this];simp):p:=h
theorem Mw{p:Prop}(h:p:=by
 intro x hx y hy;by_cases hz:s<m/\m<e
 ·obtain ⟨z1,z2⟩:=hz;rcases i5 with i5 | i5
  ·rcases q7 with q7 | q7<;>omega
  ·clear q7;have h1:=hgu (s-a) Za;rw [show a+(s-a)=s from Za] at h1;have h2:=hgv (e-1-m) Za;rw [show m+(e-1-m)=p1-s from Za] at h2;rw [h1,h2] at i5;cases hq:leK x y with
   | false=>rfl
   | true=>
     have h3:=wI hU (v:=s-a) Za (x:=U.getD (s-a) default) Vi;have h4:=wv hV (v:=e-1-m) Za (x:=V.getD (e-1-m) default) Vj;rw [show e-1-m+1=e-m from Za] at h4;have:=ordK.trans _ _ _ (ordK.trans _ _ _ (h3 x hx) hq) (h4 y hy);rw [i5] at this;cases this
 ·clear q7 i5;by_cases hz1:s<m
  ·have:V.take (e-m)=[]:=Yi ZD;rw [this] at hy;cases hy
  ·have:U.drop (s-a)=[]:=Yi Xm;rw [this] at hx;cases hx):p:=h
theorem ME{p:Prop}(h:p:=by
 intro x hx y hy;rcases i4 with i4 | ⟨i4,i4'⟩
 ·rcases q6 with q6 | q6
  ·have:U.take (s-a)=[]:=Yi ZD;rw [this] at hx;cases hx
  ·have:V.drop (e-m)=[]:=Yi Xm;rw [this] at hy;cases hy
 ·clear q6;have h1:=hgu (s-1-a) Za;rw [show a+(s-1-a)=s-1 from Za] at h1;have h2:=hgv (e-m) Za;rw [show m+(e-m)=p1-(s-1) from Za] at h2;rw [h1,h2] at i4';have h3:=wv hU (v:=s-1-a) Za i4';rw [show s-1-a+1=s-a from Za] at h3;have h4:=wI hV (v:=e-m) Za (x:=V.getD (e-m) default) Vh;exact ordK.trans _ _ _ (h3 x hx) (h4 y hy)):p:=h
namespace Ra
def SymOK (U V:List KE):Prop:= ∀(P S:List KE) (a m b:Nat),a=P.length→m=P.length+U.length→b=P.length+U.length+V.length→(P++U++V++S).length≤1000000→
    ACall Tryz.prog 212 [.sub 1000 (P++U++V++S).length 0 (P++U++V++S).length,num a,num m,num b,.clo cK []] [(1000,vecK (P++U++V++S))] (.tup []) [(1000,vecK (P++List.merge U V leK++S))]
structure HidK (p:Prop):Prop where
 it:p
theorem symAK (U V d:List KE) (a m b n s e s0 p1:Nat) (hU:Asc leK U) (hV:Asc leK V) (hm:m=a+U.length) (hb:b=m+V.length)
 (hgu: ∀t,t<U.length->d.getD (a+t) default=U.getD t default) (hgv: ∀t,t<V.length->d.getD (m+t) default=V.getD t default)
 (h1:a<=s) (h2:s<=m) (h3:m<=e) (h4:e<=b) (h5:s+e=n) (h6:p1+1=n) (h7:a<=s0) (q6:s0=a\/s0+b=n) (q5:n<=s0+b)
 (i4:s=s0\/(s0<s/\leK (d.getD (s-1) default) (d.getD (p1-(s-1)) default)=true)): ∀x∈U.take (s-a),∀y∈V.drop (e-m),leK x y=true:=by
 exact ME
theorem symBK (U V d:List KE) (a m b n mid s e r0 p1:Nat) (hU:Asc leK U) (hV:Asc leK V) (hm:m=a+U.length) (hb:b=m+V.length)
 (hgu: ∀t,t<U.length->d.getD (a+t) default=U.getD t default) (hgv: ∀t,t<V.length->d.getD (m+t) default=V.getD t default)
 (h1:a<=s) (h2:s<=m) (h3:m<=e) (h4:e<=b) (h5:s+e=n) (h6:p1+1=n) (hn:n=mid+m) (q7:r0=mid\/r0=m)
 (i5:s=r0\/leK (d.getD s default) (d.getD (p1-s) default)=false): ∀x∈U.drop (s-a),∀y∈V.take (e-m),leK x y=false:=by
 exact Mw
theorem symPlanK (u1 u2 v1 v2 P S:List KE) (a m b N mid s e L:Nat) (au1:Asc leK u1) (au2:Asc leK u2) (av1:Asc leK v1) (av2:Asc leK v2) (wu1: ∀z∈u1,wokK (z)) (wu2: ∀z∈u2,wokK (z)) (wv1: ∀z∈v1,wokK (z)) (wv2: ∀z∈v2,wokK (z))
 (ih: ∀U' V':List KE,U'.length+V'.length<L->0<U'.length->0<V'.length->Asc leK U'->Asc leK V'->(∀z∈U',wokK (z))->(∀z∈V',wokK (z))->SymOK U' V')
 (ha:a=P.length) (lu1:s=a+u1.length) (lu2:m=s+u2.length) (lv1:e=m+v1.length) (lv2:b=e+v2.length) (hmid:mid=s+v1.length) (hL:L+a=b) (h1:a<mid) (h2:mid<b) (hl:N<=1000000) (hN:(P++u1++u2++v1++(v2++S)).length=N):
 ∃d1 d2 d3:List KE,d3=P++(List.merge u1 v1 leK++List.merge u2 v2 leK)++S∧
  (s<m->m<e->ACall Tryz.prog 229 [.sub 1000 N 0 N,num s,num m,num e,.clo cK []] [(1000,vecK (P++u1++u2++v1++(v2++S)))] (.tup []) [(1000,vecK d1)])/\(¬(s<m/\m<e)->P++u1++u2++v1++(v2++S)=d1)/\
  (a<s->s<mid->ACall Tryz.prog 212 [.sub 1000 N 0 N,num a,num s,num mid,.clo cK []] [(1000,vecK d1)] (.tup []) [(1000,vecK d2)])/\(¬(a<s/\s<mid)->d1=d2)/\
  (mid<e->e<b->ACall Tryz.prog 212 [.sub 1000 N 0 N,num mid,num e,num b,.clo cK []] [(1000,vecK d2)] (.tup []) [(1000,vecK d3)])/\(¬(mid<e/\e<b)->d2=d3):=by
 exact Mn
theorem c_symN (U V:List KE) (hU:Asc leK U) (hV:Asc leK V) (hUw: ∀z∈U,wokK (z)) (hVw: ∀z∈V,wokK (z)) (hU2:2≤U.length) (hV2:2≤V.length)
 (ih: ∀U' V':List KE,U'.length+V'.length<U.length+V.length->0<U'.length->0<V'.length->Asc leK U'->Asc leK V'->(∀z∈U',wokK (z))->(∀z∈V',wokK (z))->SymOK U' V'):SymOK U V:=by
 intro P S a m b ha hm hb hl
 refine enterX ttok Tryz.func212 Tryz.ntmps212 Tryz.results212 ?_
 exact Ma
end Ra
theorem XH {p:Prop} (h:p:=by rw [Yh,Ym];omega):p:=h
theorem Mb{p:Prop}(h:p:=by
 obtain ⟨N,hN⟩: ∃N,N=l.length:=⟨_,rfl⟩
 rw [<-hN] at hl ⊢;refine uz mixed ttok ?_;refine Zn ?_;refine zx mixed ttok (fun k:Nat=>(⟨[(6,num 20),(7,num (20 * k:Nat)),(8,num (20 * k+20:Nat)),(0,.sub 1000 N 0 N),(1,num N),(2,.clo cK [])],[(1000,vecK (chk leK 20 (l.take (20 * k))++l.drop (20 * k)))]⟩:SL)) (fun k=>N-20 * k) (fun k=>20 * k<=N) 0 (Yj _) ?_ ?_
 ·have e0:chk leK 20 ([]:List KE)++l=l:=by simp [chk,vp]
  exact Ya Zb (Ze e0) Zb
 intro I hI k hk;obtain ⟨a,ha⟩: ∃a,a=20 * k:=⟨_,rfl⟩
 obtain ⟨b,hb⟩: ∃b,b=a+20:=⟨_,rfl⟩
 have hcl:(chk leK 20 (l.take a)).length=a:=by rw [vq,Yh];omega
 have hw': ∀(m n:Nat),∀z∈(l.drop m).take n,wokK (z):=fun m n z hz=>hw z (Y9 (YH hz));rw [<-ha,<-hb]
 simp -implicitDefEqProofs only [↓zb,push_cast,simprocAttr,tt]
 refine za (fun g=>?_) fun g=>?_
 ·have g':b≤N:=Zq g;have hc:=c_ins (chk leK 20 (l.take a)) ((l.drop a).take 20) (l.drop (a+20)) a b hcl.symm (by rw [hcl,Yh,Ym];omega) (by rw [<-splitAK,Yb,hcl,Ym];omega) (hw' a 20);rw [<-splitAK,stepAK l a 20 Zi k Za Za,Yb,hcl,Ym,<-hN,show a+(N-a)=N from Za] at hc;have w1:IntKind.i64.wrap (20 * ((k:Int)+1)+20)=20 * ((k:Int)+1)+20:=zt Za Za;refine zg [[0],[0],[0],[0]] [(1000,1000)] (hc) ?_
  simp -implicitDefEqProofs only [↓zb,push_cast,simprocAttr,tt]
  have e2:b=20 * (k+1):=Za;have e3:a+20=20 * (k+1):=Za;rw [e3];exact zi hI (k+1) Za Zl (Ya (Z0 w1 e2) Zb Zb)
 have g':N<b:=Zp g;have hc:=c_ins (chk leK 20 (l.take a)) (l.drop a) [] a N hcl.symm (by rw [hcl,Ym];omega) (by rw [Yw,Yb,hcl,Ym];omega) (fun z hz=>hw z (Y9 hz));have e1:chk leK 20 (l.take a)++zL leK (l.drop a)=chk leK 20 l:=by
  rw [<-xk (s:=20) (l:=l.drop a) Xm,<-wH Zi k _ _ ZD,Yp]
 rw [Yw,Yw,e1,Yb,hcl,Ym,<-hN,show a+(N-a)=N from Za] at hc;refine zg [[0],[0],[0],[0]] [(1000,1000)] (hc) ?_
 simp -implicitDefEqProofs only [↓zb,push_cast,simprocAttr,tt]
 clear hI hc e1 hcl g' g hk;refine loop_genX (fun s:Nat=>(⟨[(6,num s),(0,.sub 1000 N 0 N),(1,num N),(2,.clo cK [])],[(1000,vecK (chk leK s l))]⟩:SL)) (fun s=>N-s) (fun s=>20<=s/\s<=400000) 20 ⟨Zi,Zi⟩ ?_ ?_
 ·exact Weak.keepL (by simp [ends]) (by simp [ends]) (by simp [ends])
 intro I hI s ⟨hs,hs2⟩;have hcs:=vq (le:=leK) s l;have w2:IntKind.i64.wrap (2 * (s:Int))=((2 * s:Nat):Int):=Z9;have w2':IntKind.i64.wrap ((s:Int) * 2)=((2 * s:Nat):Int):=Z9;obtain ⟨s2,hs2e⟩: ∃s2,s2=2 * s:=⟨_,rfl⟩
 rw [<-hs2e] at w2 w2';refine uz mixed ttok ?_;refine Zy w2 ?_
 refine za (fun g=>?_) fun g=>?_
 ·have g':s<N:=Zq g;refine zx mixed ttok (fun k:Nat=>(⟨[(6,num s),(7,num (k * s2:Nat)),(8,num (k * s2+s2:Nat)),(0,.sub 1000 N 0 N),(1,num N),(2,.clo cK [])],[(1000,vecK (chk leK s2 (l.take (k * s2))++chk leK s (l.drop (k * s2))))]⟩:SL)) (fun k=>N-k * s2) (fun k=>k * s2<=N) 0 Za ?_ ?_
  ·have e0:chk leK s2 ([]:List KE)++chk leK s l=chk leK s l:=by simp [chk,vp]
   exact Ya Zb (Ze e0) Zb
  intro J hJ k hk;obtain ⟨a,ha⟩: ∃a,a=k * s2:=⟨_,rfl⟩
  obtain ⟨b,hb⟩: ∃b,b=a+s2:=⟨_,rfl⟩
  obtain ⟨m,hm⟩: ∃m,m=a+s:=⟨_,rfl⟩
  have hk1:(k+1) * s2=b:=by rw [YY,Nat.one_mul,<-ha];exact hb.symm
  rw [<-ha] at hk;have hcl:(chk leK s2 (l.take a)).length=a:=by rw [vq,Yh];omega
  have hcr:(chk leK s (l.drop a)).length=N-a:=by rw [vq,Ym];omega
  have hdl:(chk leK s2 (l.take a)++chk leK s (l.drop a)).length=N:=ZC;have wm:IntKind.i64.wrap ((a:Int)+(s:Int))=(m:Int):=Z9;have wS: ∀(i n:Nat),∀z∈zL leK ((l.drop i).take n),wokK (z):=fun i n z hz=>hw z (Y9 (YH ((zJ _).mem_iff.1 hz)));rw [<-ha,<-hb];simp -implicitDefEqProofs only [wm,w2,w2',↓zb,push_cast,simprocAttr,tt];refine za (fun f=>?_) fun f=>?_
  ·have f':b≤N:=Zq f;have hsp:=splitBK l a s Za Za;have l1:(zL leK ((l.drop a).take s)).length=s:=by rw [zI,Yh,Ym];omega
   have l2:(zL leK ((l.drop (a+s)).take s)).length=s:=by rw [zI,Yh,Ym];omega
   have he:chk leK s2 (l.take a)++zL leK ((l.drop a).take s)++zL leK ((l.drop (a+s)).take s)++chk leK s (l.drop (a+2 * s))=chk leK s2 (l.take a)++chk leK s (l.drop a):=ZP hsp;have hc:=c_symK _ (zL leK ((l.drop a).take s)) (zL leK ((l.drop (a+s)).take s)) (Ys _) Za Za (yL ordK _) (yL ordK _) (wS a s) (wS (a+s) s) (chk leK s2 (l.take a)) (chk leK s (l.drop (a+2 * s))) a m b hcl.symm Za Za (by rw [he,hdl];omega);rw [he,hdl] at hc;have hst:=stepBK l a s Za k (by rw [<-hs2e];exact ha) Za;rw [<-hs2e] at hst;rw [hst,<-hs2e,<-hb] at hc;have w3:IntKind.i64.wrap ((b:Int)+(s2:Int))=(b:Int)+(s2:Int):=zt Za Za;refine zg [[0],[0],[0],[0],[0]] [(1000,1000)] (hc) ?_
   simp -implicitDefEqProofs only [w2,↓zb,push_cast,simprocAttr,tt]
   exact zi hJ (k+1) (by rw [hk1];exact f') (by show N-(k+1) * s2<N-k * s2;rw [hk1,<-ha];omega) (Ya (Z0 hk1 w3) (Ze hk1) Zb)
  have f':N<b:=Zp f;have hfin:chk leK s2 (l.take a)++chk leK s2 (l.drop a)=chk leK s2 l:=by
   rw [<-wH Za k _ _ ZD,Yp]
  refine za (fun h=>?_) fun h=>?_
  ·have h':m<N:=Zq h;have hu:((l.drop a).take s).length=s:=XH;have hv:((l.drop a).drop s).length=N-m:=by rw [Ym,Ym];omega
   obtain ⟨x,y,hxy,hx,hy,hmg⟩:=chk_pair (le:=leK) ordK (s:=s) Za hu (by omega:((l.drop a).drop s).length<=s);rw [Yp] at hxy hmg;rw [<-hs2e] at hmg;have lx:x.length=s:=by rw [hx,zI];exact hu
   have ly:y.length=N-m:=by rw [hy,zI];exact hv
   have he:chk leK s2 (l.take a)++x++y++[]=chk leK s2 (l.take a)++chk leK s (l.drop a):=ZP hxy;have he2:chk leK s2 (l.take a)++List.merge x y leK++[]=chk leK s2 l:=by rw [hmg,Yw,hfin]
   have hc:=c_symK _ x y (Ys _) Za Za (hx ▸ yL ordK _) (hy ▸ yL ordK _) (fun z hz=>hw z (Y9 (YH ((zJ _).mem_iff.1 (hx ▸ hz))))) (fun z hz=>hw z (Y9 (Y9 ((zJ _).mem_iff.1 (hy ▸ hz))))) (chk leK s2 (l.take a)) [] a m N hcl.symm Za Za (by rw [he,hdl];omega);rw [he,he2,hdl] at hc;refine zg [[0],[0],[0],[0],[0]] [(1000,1000)] (hc) ?_;refine Zy w2' ?_;exact zi hI s2 ⟨Za,Za⟩ Zl (Ya Zb Zb Zb)
  ·have h':N≤m:=Zp h;have he:chk leK s2 (l.take a)++chk leK s (l.drop a)=chk leK s2 l:=by
    rw [<-hfin,xk (s:=s) Xm,xk (s:=s2) (l:=l.drop a) Xm]
   rw [he];exact zi hI s2 ⟨Za,Za⟩ Zl (Ya Zb Zb Zb)
 ·have g':N≤s:=Zp g;rw [xk Za];exact yy trivial Zb Zb):p:=h
theorem MB{p:Prop}(h:p:=by
 by_cases h1:U.length=1
 ·match U,h1,wU with
  | [x],_,wU=>
    intro P S a m b ha hm hb hl;have e:P++[x]++V++S=P++x::V++S:=Zd;rw [e] at hl ⊢;exact c_sym1 P V S x a m b ha hm hb hl aV (wU x Zd) wV
 by_cases h2:V.length=1
 ·match V,h2,wV with
  | [y],_,wV=>
    intro P S a m b ha hm hb hl;have e:P++U++[y]++S=P++U++y::S:=Zd;rw [e] at hl ⊢;exact c_sym2 P U S y a m b ha hm hb hl h1 aU (wV y Zd) wU
 exact c_symN U V aU aV wU wV Za Za fun U' V' hlt a1 a2 a3 a4 a5 a6=>c_symK n U' V' Za a1 a2 a3 a4 a5 a6):p:=h
theorem MU{p:Prop}(h:p:=by
 simp -implicitDefEqProofs only [↓zb,push_cast,simprocAttr,tt]
 exact yy trivial Zb Zb):p:=h
theorem N4{p:Prop}(h:p:=by
 have e1:l.take (a+2 * s)=l.take a++((l.drop a).take s++(l.drop (a+s)).take s):=by
  rw [show a+2 * s=a+(s+s) from Za,List.take_add,List.take_add (l:=l.drop a),Uo]
 rw [e1,wH Za k _ _ ZD,xk (l:=_++_) (by simp only [Yb,Yh,Ym];omega),w9 ordK]):p:=h
theorem NL{p:Prop}(h:p:=by
 have e1:l.drop a=(l.drop a).take s++((l.drop (a+s)).take s++l.drop (a+2 * s)):=by
  rw [show a+2 * s=a+s+s from Za,<-Uo (i:=s) (j:=a+s),Yp,<-Uo,Yp]
 rw [e1,qI hs _ XH,qI hs _ XH,Yn]
 congr 2
 ·rw [<-e1]):p:=h
theorem JP{p:Prop}(h:p:=by
 have e1:l.take (a+s)=l.take a++(l.drop a).take s:=by rw [List.take_add]
 rw [e1,wH hs k _ _ ZD,xk (l:=(l.drop a).take s) ZD]):p:=h
theorem He{p:Prop}(h:p:=by
 refine Zn ?_;refine zg [[0],[0],[0]] [(1000,1000)] (c_stab l hl hw) ?_;exact MU):p:=h
namespace Ra
theorem c_symK: ∀(n:Nat) (U V:List KE),U.length+V.length≤n→0<U.length→0<V.length→Asc leK U→Asc leK V→(∀z∈U,wokK (z))→(∀z∈V,wokK (z))→SymOK U V
 | 0,U,V,h,hU,hV,_,_,_,_=>Za
 | n+1,U,V,h,hU,hV,aU,aV,wU,wV=>by
   exact MB
theorem stepAK (l:List KE) (a s:Nat) (hs:0<s) (k:Nat) (ha:a=k * s) (h:a+s<=l.length):
 chk leK s (l.take a)++zL leK ((l.drop a).take s)++l.drop (a+s)=chk leK s (l.take (a+s))++l.drop (a+s):=by
 exact JP
theorem splitAK (l:List KE) (a s:Nat):chk leK s (l.take a)++l.drop a=chk leK s (l.take a)++(l.drop a).take s++l.drop (a+s):=by
 rw [Yn,<-Uo,Yp]
theorem splitBK (l:List KE) (a s:Nat) (hs:0<s) (h:a+2 * s<=l.length):
 chk leK s (l.drop a)=zL leK ((l.drop a).take s)++zL leK ((l.drop (a+s)).take s)++chk leK s (l.drop (a+2 * s)):=by
 exact NL
theorem stepBK (l:List KE) (a s:Nat) (hs:0<s) (k:Nat) (ha:a=k * (2 * s)) (h:a+2 * s<=l.length):
 chk leK (2 * s) (l.take a)++List.merge (zL leK ((l.drop a).take s)) (zL leK ((l.drop (a+s)).take s)) leK=chk leK (2 * s) (l.take (a+2 * s)):=by
 exact N4
theorem c_stab (l:List KE) (hl:l.length≤100000) (hw: ∀z∈l,wokK (z)):
 ACall Tryz.prog 180 [.sub 1000 l.length 0 l.length,num l.length,.clo cK []] [(1000,vecK l)] (.tup []) [(1000,vecK (zL leK l))]:=by
 refine enterX ttok Tryz.func180 Tryz.ntmps180 Tryz.results180 ?_;exact Mb
theorem c_sort (l:List KE) (hl:l.length<=100000) (hw: ∀z∈l,wokK (z)):
 ACall Tryz.prog 123 [.sub 1000 l.length 0 l.length,.clo cK []] [(1000,vecK l)] (.tup []) [(1000,vecK (zL leK l))]:=by
 refine zn mixed ttok Tryz.func123 Tryz.ntmps123 Tryz.results123 ?_;exact He
end Ra
end
end Go.Proofs.YtnmibokjpedkiaaGreatDoor
