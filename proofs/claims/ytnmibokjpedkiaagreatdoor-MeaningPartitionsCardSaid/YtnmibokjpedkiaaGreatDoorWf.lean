/- Made queries answer as specified (part Wf) -/
import Derived.Test.YtnmibokjpedkiaaGreatDoorWe
set_option maxRecDepth 100000
set_option maxHeartbeats 4000000
set_option linter.all false
namespace Go.Proofs.YtnmibokjpedkiaaGreatDoor
open Go.Am
section
attribute [local simp, local push_cast] Ta yx yA yM
theorem ku {p:Qr->Prop} (h: ∀q:Qr,(∀k∈q.kids,p k)->p q): ∀q,p q:=by
 intro q;exact Qr.rec (motive_1:=p) (motive_2:=fun l=> ∀k∈l,p k) (fun a b c d e f g t r ks ih=>h _ ih) Zd (fun k l h1 h2=>by simpa using ⟨h1,h2⟩) q
structure OkQ1 (q:Qr):Prop where
 cond:Ok12 q.cond
 exprs:q.exprs.length<=1000
 ex: ∀e∈q.exprs,Ok12 e
 aggs:q.aggs.length<=1000
 ag: ∀a∈q.aggs,Ok12 a.arg
 types:q.types.length<=1000
 rows:q.rows.length<=1000
 row: ∀r∈q.rows,r.length<=1000
 kids:q.kids.length<=1000
inductive OkQ:Qr->Prop
 | mk (q:Qr) (h:OkQ1 q) (hk: ∀k∈q.kids,OkQ k):OkQ q
theorem OkQ.one {q:Qr} (h:OkQ q):OkQ1 q:=by cases h;assumption
theorem OkQ.kid {q k:Qr} (h:OkQ q) (hk:k∈q.kids):OkQ k:=by cases h with | mk _ _ h2=>exact h2 k hk
def x7 (l:List Agg):List Ex:=(l.filter fun a=>a.fn !=1).map (·.arg)
def xd (q:Qr):List Ex:=
 (if q.op==3 || q.op==5 then [q.cond] else if q.op==4 || q.op==10 then q.exprs else [])++(if q.op==10 then x7 q.aggs else [])
def vQ (q:Qr):Ob:= .var [num q.op,str q.table,num q.kind,boo q.all,num q.cond.op,num q.cond.type,num q.cond.num,str q.cond.text,num q.cond.col,.d (.sl 6 (zd rE q.cond.kids)),
    .d (.sl 6 (zd rE q.exprs)),.d (.sl 7 (zd rAgg q.aggs)),.d (.sl 1 (zd rI q.types)),.d (.sl 1 (zd yM q.rows)),.d (.sl 15 (zd rQ q.kids))]
theorem argsQ_snoc (l:List Agg) (a:Agg):x7 (l++[a])=x7 l++(if a.fn==1 then [] else [a.arg]):=by
 unfold x7;rw [Uy,YE];by_cases h:a.fn==1
 ·simp [h,bne]
 ·simp [h,bne]
theorem exprsQ_len {q:Qr} (hq:OkQ1 q):(xd q).length<=2000:=by
 have h1:=hq.exprs;have h2:=hq.aggs;have h3:(x7 q.aggs).length<=q.aggs.length:=by unfold x7;rw [Y2];exact YX _ _
 unfold xd;rw [Yb]
 split<;>split<;>(try split)<;>simp<;>omega
theorem Xc {p:Prop} (h:p:=by rw [Yb];rfl):p:=h
theorem Xs {p q:Prop} (h:q) (e:p=q:=by conv=>lhs;simp -implicitDefEqProofs only [cst,vQ,↓zb,push_cast,simprocAttr,tt]):p:=(e).mpr h
theorem c_exprs (q:Qr) (hq:OkQ1 q):ACall Tryz.prog 94 [aQ q] [] (.d (.sl 6 (zd rE (xd q)))) []:=by
 rw [zW];refine zn mixed ttok Tryz.func94 Tryz.ntmps94 Tryz.results94 ?_;generalize hr:A.d (.sl 6 (zd rE (xd q)))=R;have hel:=hq.exprs;have hal:=hq.aggs;by_cases h10:q.op=10
 ·have e3:(q.op==3)=false:=Z4 h10;have e5:(q.op==5)=false:=Z4 h10;have e4:(q.op==4)=false:=Z4 h10;have e10:(q.op==10)=true:=Z4 h10;have hX:xd q=q.exprs++x7 q.aggs:=by simp [xd,e3,e5,e4,e10]
  simp -implicitDefEqProofs only [argT,e3,e4,e5,e10,↓zb,push_cast,simprocAttr,tt];refine ⟨Za,?_⟩;refine zq mixed ttok 29 [1,27,28] [] Zv Zw q.aggs.length (fun _=>True) (fun n=>[(3,.vec 22 (q.exprs++x7 (q.aggs.take n)).length)]) (fun n=>[(1,vQ q),(22,.vec 36 6 (zd rE (q.exprs++x7 (q.aggs.take n))) 0)]) trivial ?_ ?_
  ·exact Ya (by simp [cst,x7,ends]) (by simp [cst,vQ,x7,ends]) Zh
  intro I hI n hn hi;refine Xs ?_;refine za (fun h=>?_) fun h=>?_
  ·have h':n<q.aggs.length:=Zq h;have hw:=zh h' Za;have ht:x7 (q.aggs.take (n+1))=x7 (q.aggs.take n)++(if (q.aggs.getD n default).fn==1 then [] else [(q.aggs.getD n default).arg]):=by
    rw [<-argsQ_snoc,zy _ _ h']
   have hlen:(x7 (q.aggs.take n)).length<=n:=by
    unfold x7;rw [Y2];exact Y3 (YX _ _) ZD
   have hlen2:(q.exprs++x7 (q.aggs.take n)).length<=2000:=ZC;refine ⟨Zs,?_⟩;refine za (fun g=>?_) fun g=>?_
   ·have g':((q.aggs.getD n default).fn==1)=false:=by simpa [bne] using g
    rw [g',if_neg (by decide),<-List.append_nil [(q.aggs.getD n default).arg]] at ht
    have ht2:q.exprs++x7 (q.aggs.take (n+1))=(q.exprs++x7 (q.aggs.take n))++[(q.aggs.getD n default).arg]:=by rw [ht,Yw,Yn]
    refine ⟨Za,?_⟩;have hz:(q.exprs++x7 (q.aggs.take n)++[(q.aggs.getD n default).arg]).length=(q.exprs++x7 (q.aggs.take n)).length+1:=Xc;generalize (q.exprs++x7 (q.aggs.take n))=L at *;exact zp hI n rfl h' trivial (by simp [hw,ht2,hz,zf,vQ,ends]) (by simp [hw,ht2,hz,zf,vQ,ends]) (by simp [hw,ht2,hz,zf,vQ,ends]) (by simp [hw,ht2,hz,zf,vQ,ends])
   ·have g':((q.aggs.getD n default).fn==1)=true:=by simpa [bne] using g
    rw [g',if_pos rfl,List.append_nil] at ht
    exact zp hI n rfl h' trivial (by simp [hw,ht,vQ,ends]) (by simp [hw,ht,vQ,ends]) (by simp [hw,ht,vQ,ends]) (by simp [hw,ht,vQ,ends])
  ·obtain rfl:n=q.aggs.length:=Zp h;rw [Yk];refine zv [6] rfl Zd Zj ?_ Zk Zb Zb;rw [<-hr,hX]
 ·have e10:(q.op==10)=false:=Zc h10;refine ZQ e10 ?_;refine za (fun h3=>?_) fun h3=>?_
  ·have hX:xd q=[q.cond]:=by simp [xd,h3,e10]
   refine za (fun _=>?_) (fun h=>absurd (h3.symm.trans h) Zi);refine zv [6] rfl Zd Zj ?_ Zk Zb Zb;rw [<-hr,hX,z6,y7];rfl
  refine za (fun h5=>?_) fun h5=>?_
  ·have hX:xd q=[q.cond]:=by simp [xd,h5,e10]
   refine zv [6] rfl Zd Zj ?_ Zk Zb Zb;rw [<-hr,hX,z6,y7];rfl
  refine za (fun h4=>?_) fun h4=>?_
  ·have hX:xd q=q.exprs:=by simp [xd,h3,h5,h4,e10]
   refine za (fun _=>?_) (fun h=>absurd (h4.symm.trans h) Zi);refine ⟨Za,?_⟩;refine zv [6] rfl Zd Zj ?_ Zk Zb Zb;rw [<-hr,hX]
  ·have hX:xd q=[]:=by simp [xd,h3,h5,h4,e10]
   refine zv [6] rfl Zd Zj ?_ Zk Zb Zb;rw [<-hr,hX];rfl
def jn (n:Int):List (List Val)->Int
 | []=>n
 | r::l=>jn (IntKind.i64.wrap (n+r.length)) l
mutual
def vF:Qr->Int
 | .mk a b c d e f g h i ks=>sizeQs (jn (sizeL 1 (xd (.mk a b c d e f g h i ks))) i) ks
def sizeQs (n:Int):List Qr->Int
 | []=>n
 | q::l=>sizeQs (IntKind.i64.wrap (n+vF q)) l
end
theorem sizeQ_eq (q:Qr):vF q=sizeQs (jn (sizeL 1 (xd q)) q.rows) q.kids:=by cases q;rw [vF];rfl
mutual
def yZ:Qr->Int
 | .mk a b c d e f g h i ks=>IntKind.i64.wrap (depthQs 0 ks+1)
def depthQs (n:Int):List Qr->Int
 | []=>n
 | q::l=>depthQs (if n<yZ q then yZ q else n) l
end
theorem depthQ_eq (q:Qr):yZ q=IntKind.i64.wrap (depthQs 0 q.kids+1):=by cases q;rw [yZ];rfl
theorem rowsW_snoc (r:List Val): ∀(l:List (List Val)) (n:Int),jn n (l++[r])=IntKind.i64.wrap (jn n l+r.length)
 | [],n=>rfl
 | x::l,n=>by simp only [YN,jn];exact rowsW_snoc r l _
theorem qV (q:Qr): ∀(l:List Qr) (n:Int),sizeQs n (l++[q])=IntKind.i64.wrap (sizeQs n l+vF q)
 | [],n=>by simp [sizeQs]
 | x::l,n=>by simp only [YN,sizeQs];exact qV q l _
theorem qG (q:Qr): ∀(l:List Qr) (n:Int),depthQs n (l++[q])=(if depthQs n l<yZ q then yZ q else depthQs n l)
 | [],n=>rfl
 | x::l,n=>by simp only [YN,depthQs];exact qG q l _
theorem exprsQ_ok {q:Qr} (hq:OkQ1 q): ∀e∈xd q,Ok12 e:=by
 intro e he;unfold xd at he;rcases Yr.1 he with h | h
 ·split at h
  ·rw [YK.1 h];exact hq.cond
  ·split at h
   ·exact hq.ex e h
   ·simp at h
 ·split at h
  ·unfold x7 at h;obtain ⟨a,ha,rfl⟩:=Yv.1 h;exact hq.ag a (Uj.1 ha).1
  ·simp at h
theorem ZB {p P0 P1:Prop} (zf_:P0) (zg_:P1) (h:P0->P1->p:=by intro zf_ zg_;simp [zf_,zg_,vQ,ends]):p:=h zf_ zg_
theorem Xt {p:Prop} (h:p:=by simp [cst,vQ,ends]):p:=h
theorem MG{p:Prop}(h:p:=by
 rw [<-zy _ _ h'] at ht;refine ⟨Zs,?_⟩;have hc:=ih _ (zk h') (ho.kid (zk h'));rw [zW] at hc;refine zg [[0,0,0,0,0,0,0,0,0,6,6,7,1,1,15]] [] (hc) ?_;refine Zf ?_;exact zp hI n rfl h' trivial (ZB hw ht) (ZB hw ht) (ZB hw ht) (ZB hw ht)):p:=h
theorem Nj{p:Prop}(h:p:=by
 exact zp hI n rfl h' trivial (ZB hw ht) (ZB hw ht) (ZB hw ht) (ZB hw ht)):p:=h
theorem c_qsize: ∀q:Qr,OkQ q->ACall Tryz.prog 56 [aQ q] [] (num (vF q)) []:=
 ku (p:=fun q=>OkQ q->ACall Tryz.prog 56 [aQ q] [] (num (vF q)) []) fun q ih ho=>by
 have hq:=ho.one;have hce:=c_exprs q hq;have hex:=exprsQ_ok hq;have hel:=exprsQ_len hq;have hrl:=hq.rows;have hkl:=hq.kids;rw [zW] at hce ⊢;refine zn mixed ttok Tryz.func56 Tryz.ntmps56 Tryz.results56 ?_;generalize hr:num (vF q)=R;refine Zn ?_;refine zg [[0,0,0,0,0,0,0,0,0,6,6,7,1,1,15]] [] (hce) ?_;refine Zf ?_;generalize hE:xd q=E at *;refine zq mixed ttok 13 [1,11,12] [] Zv Zw E.length (fun _=>True) (fun n=>[(3,num (sizeL 1 (E.take n)))]) (fun _=>[(1,vQ q)]) trivial ?_ ?_
 ·exact Weak.keepL (by simp [cst,sizeL,ends]) (by simp [cst,vQ,ends]) (by simp [cst,ends])
 intro I hI n hn hi;refine Xs ?_;refine za (fun h=>?_) fun h=>?_
 ·have h':n<E.length:=Zq h;have hw:=zh h' Za;have ht:=uC (E.getD n default) (E.take n) 1;rw [<-zy _ _ h'] at ht;refine ⟨Zs,?_⟩;refine zg [[0,0,0,0,0,6]] [] (c_size _ (hex _ (zk h'))) ?_;refine Zf ?_;exact Nj
 obtain rfl:n=E.length:=Zp h;clear hI;rw [Yk];generalize hs1:sizeL 1 E=s1;refine zq mixed ttok 25 [1,23,24] [] Zv Zw q.rows.length (fun _=>True) (fun n=>[(3,num (jn s1 (q.rows.take n)))]) (fun _=>[(1,vQ q)]) trivial ?_ ?_
 ·exact Weak.keepL (by simp [cst,jn,ends]) (by simp [cst,vQ,ends]) (by simp [cst,ends])
 intro I hI n hn hi;refine Xs ?_;refine za (fun h=>?_) fun h=>?_
 ·have h':n<q.rows.length:=Zq h;have hw:=zh h' Za;have ht:=rowsW_snoc (q.rows.getD n default) (q.rows.take n) s1;rw [<-zy _ _ h'] at ht;refine ⟨Zs,?_⟩;exact Nj
 obtain rfl:n=q.rows.length:=Zp h;clear hI;rw [Yk];generalize hs2:jn s1 q.rows=s2;refine zq mixed ttok 37 [1,35,36] [] Zv Zw q.kids.length (fun _=>True) (fun n=>[(3,num (sizeQs s2 (q.kids.take n)))]) (fun _=>[(1,vQ q)]) trivial ?_ ?_
 ·exact Ya (by simp [cst,sizeQs,ends]) Xt Zh
 intro I hI n hn hi;refine Xs ?_;refine za (fun h=>?_) fun h=>?_
 ·have h':n<q.kids.length:=Zq h;have hw:=zh h' Za;have ht:=qV (q.kids.getD n default) (q.kids.take n) s2;exact MG
 obtain rfl:n=q.kids.length:=Zp h;exact zm trivial (by rw [<-hr,sizeQ_eq,Yk,hE,hs1,hs2];rfl) Zb
theorem KY{p:Prop}(h:p:=by
 obtain rfl:n=q.kids.length:=Zp h;exact zm trivial (by rw [<-hr,depthQ_eq,Yk];rfl) Zb):p:=h
theorem c_qdepth: ∀q:Qr,OkQ q->ACall Tryz.prog 57 [aQ q] [] (num (yZ q)) []:=
 ku (p:=fun q=>OkQ q->ACall Tryz.prog 57 [aQ q] [] (num (yZ q)) []) fun q ih ho=>by
 have hq:=ho.one;have hkl:=hq.kids;rw [zW];refine zn mixed ttok Tryz.func57 Tryz.ntmps57 Tryz.results57 ?_;generalize hr:num (yZ q)=R;refine Zn ?_;refine zq mixed ttok 9 [7,8] [] Zv Zw q.kids.length (fun _=>True) (fun n=>[(3,num (depthQs 0 (q.kids.take n)))]) (fun _=>[]) trivial ?_ ?_
 ·exact Ya (by simp [cst,depthQs,ends]) Xt Zh
 intro I hI n hn hi;refine Xs ?_;refine za (fun h=>?_) fun h=>?_
 ·have h':n<q.kids.length:=Zq h;have hw:=zh h' Za;have ht:=qG (q.kids.getD n default) (q.kids.take n) 0;rw [<-zy _ _ h'] at ht;refine ⟨Zs,?_⟩;have hc:=ih _ (zk h') (ho.kid (zk h'));rw [zW] at hc;refine zg [[0,0,0,0,0,0,0,0,0,6,6,7,1,1,15]] [] (hc) ?_;refine Zf ?_;exact zp hI n rfl h' trivial (Z0 hw ht) (Z0 hw ht) (Z0 hw ht) (Z0 hw ht)
 exact KY
def fmAt (op:Int):FmD:=fmTab.getD op.toNat default
def isFm (op:Int):Bool:=decide (1<=op)&&decide (op<=10)
def y9 (op:Int):FmD:=if isFm op then fmAt op else default
def aFm (o:FmD):A:= .agg [.d (.lit (.string o.word)),.d (.lit (.int .i64 o.kids)),.d (.lit (.string o.uses))]
theorem fmRow_at: ∀n:Nat,n<11->(List.map A.d fmRow)[n * 3]? =some (.d (.lit (.string (fmTab.getD n default).word)))/\((List.map A.d fmRow).drop (n * 3)).take 3=[.d (.lit (.string (fmTab.getD n default).word)),.d (.lit (.int .i64 (fmTab.getD n default).kids)),.d (.lit (.string (fmTab.getD n default).uses))]:=by
 intro n hn
 match n,hn with
 | 0,_=>exact ⟨rfl,rfl⟩
 | 1,_=>exact ⟨rfl,rfl⟩
 | 2,_=>exact ⟨rfl,rfl⟩
 | 3,_=>exact ⟨rfl,rfl⟩
 | 4,_=>exact ⟨rfl,rfl⟩
 | 5,_=>exact ⟨rfl,rfl⟩
 | 6,_=>exact ⟨rfl,rfl⟩
 | 7,_=>exact ⟨rfl,rfl⟩
 | 8,_=>exact ⟨rfl,rfl⟩
 | 9,_=>exact ⟨rfl,rfl⟩
 | 10,_=>exact ⟨rfl,rfl⟩
 | n+11,h=>omega
theorem fm_some: ∀n:Nat,1<=n->n<11->((fmTab.getD n default).word.toList==[])=false:=by
 have h:(List.range 11).all (fun n=>decide (n=0) || !(fmTab.getD n default).word.data.toList.isEmpty)=true:=Zi;intro n h1 h2;have:=all_range.1 h n h2;rw [YS Za,Yx] at this;rw [YM];cases hw:(fmTab.getD n default).word.data.toList with
 | nil=>rw [hw] at this;cases this
 | cons _ _=>rfl
theorem J0{p:Prop}(h:p:=by
 refine zo [[0,0,0],[0]] rfl Zd Zj ?_ Zk Zb Zb;rfl):p:=h
theorem c_form (op:Int):ACall Tryz.prog 96 [num op] [] (.tup [aFm (y9 op),boo (isFm op)]) []:=by
 refine zn mixed ttok Tryz.func96 Tryz.ntmps96 Tryz.results96 ?_;generalize hr:A.tup [aFm (y9 op),boo (isFm op)]=R;have he:(ByteArray.mk #[]).toList=[]:=ZZ;have hlen:(List.map A.d fmRow).length=33:=rfl;by_cases ho:0<=op/\op<11
 ·obtain ⟨h0,h29⟩:=ho;obtain ⟨h1,h3⟩:=fmRow_at op.toNat Za;simp -implicitDefEqProofs only [argT,tabFm,he,h1,h3,↓zb,push_cast,simprocAttr,tt];refine za (fun h=>absurd h Zt) fun _=>za (fun h=>absurd h Zt) fun _=>?_;refine ⟨⟨h0,Za⟩,?_⟩;subst hr;by_cases hz:op=0
  ·subst hz;have hw:((fmTab.getD (0:Int).toNat default).word.toList==[])=true:=by rw [YM];rfl
   refine za (fun _=>?_) fun h=>absurd h (Z8 hw);exact J0
  ·have hw:((fmTab.getD op.toNat default).word.toList==[])=false:=fm_some op.toNat Za Za;refine za (fun h=>absurd h (Z8 hw)) fun _=>?_;have hy:isFm op=true:=by rw [isFm,YV (by omega),YV (by omega)];rfl
   refine ⟨⟨h0,Za⟩,Z2 hlen,?_⟩;rw [y9,hy];exact J0
 ·have hn:isFm op=false:=by
   rw [isFm,Bool.and_eq_false_iff,Ye,Ye];omega
  simp -implicitDefEqProofs only [argT,tabFm,he,↓zb,push_cast,simprocAttr,tt];have hf:A.tup [aFm default,boo false]=R:=by rw [<-hr,y9,hn];rfl
  subst hf;refine za (fun g=>?_) fun g=>?_
  ·exact J0
  ·refine za (fun _=>?_) fun h=>absurd h (by simp at g;simp;omega);exact J0
theorem c_eqE0 (l:List Ex) (hl:l.length<=1000):ACall Tryz.prog 196 [.d (.sl 6 (zd rE l)),.d (.sl 6 (zd rE [])),.clo 159 []] [] (boo (l.length==0)) []:=by
 refine zn mixed ttok Tryz.func196 Tryz.ntmps196 Tryz.results196 ?_;generalize hr:boo (l.length==0)=R;refine Zn ?_;have hz: ∀K σ,wK Tryz.prog K σ=wK Tryz.prog K σ:=fun _ _=>rfl;refine za (fun h0=>?_) fun h0=>?_
 ·have h1: ¬l.length=0:=Zc h0;exact zm trivial (Zo hr (beq_false_of_ne h1)) Zb
 have h1:l.length=0:=Zc h0;rw [h1];refine zq mixed ttok 17 [15,16] [] Zv Zw 0 (fun _=>True) (fun _=>[]) (fun _=>[]) trivial ?_ ?_
 ·exact Ya Zh Zh Zh
 intro I hI n hn hi;obtain rfl:n=0:=Za;refine Zx ?_;exact zm trivial (Zo hr h1) Zb
def e0:Ex:= .mk 0 0 0 ByteArray.empty 0 []
theorem aE_e0:aE e0= .agg [num 0,num 0,num 0,str ByteArray.empty,num 0,.d (.sl 6 (zd rE []))]:=by rw [yt];rfl
def jJ (e:Ex):Bool:=((((e.op==0&&e.type==0)&&e.num==0)&&e.text.toList==[])&&e.col==0)&&(e.kids.length==0)
theorem c_same0 (e:Ex) (hl:e.kids.length≤1000):ACall Tryz.prog 159 [aE e,aE e0] [] (boo (jJ e)) []:=by
 have hc:=c_eqE0 e.kids hl;rw [yt,aE_e0];refine zn mixed ttok Tryz.func159 Tryz.ntmps159 Tryz.results159 ?_;generalize hr:boo (jJ e)=R;have he:ByteArray.empty.toList=[]:=ZZ;refine ZQ he ?_;unfold jJ at hr;refine za (fun h1=>?_) fun h1=>?_
 ·refine za (fun h2=>?_) fun h2=>?_
  ·refine za (fun h3=>?_) fun h3=>?_
   ·refine za (fun h4=>?_) fun h4=>?_
    ·refine za (fun h5=>?_) fun h5=>?_
     ·refine zg [[6],[6],[]] [] (hc) ?_;refine Zf ?_;exact zm trivial (by rw [<-hr];simp only [h1,h2,h3,h4,h5,Yo];rfl) Zb
     ·exact zm trivial (by rw [<-hr];simp only [h1,h2,h3,h4,h5,Yo,Yl];rfl) Zb
    ·exact zm trivial (by rw [<-hr];simp only [h1,h2,h3,h4,Yo,Yl];rfl) Zb
   ·exact zm trivial (by rw [<-hr];simp only [h1,h2,h3,Yo,Yl];rfl) Zb
  ·exact zm trivial (by rw [<-hr];simp only [h1,h2,Yo,Yl];rfl) Zb
 ·exact zm trivial (by rw [<-hr];simp only [h1,Yl];rfl) Zb
theorem ap0:Apart (.string ⟨#[116,97,98,108,101]⟩) jg=True:=eq_true (jd _)
theorem ap1 (v0:Value):Apart (.string ⟨#[107,105,110,100]⟩) (bput jg (.string ⟨#[116,97,98,108,101]⟩) v0)=True:=eq_true (zZ rfl (jd _))
theorem ap2 (v0 v1:Value):Apart (.string ⟨#[97,108,108]⟩) (bput (bput jg (.string ⟨#[116,97,98,108,101]⟩) v0) (.string ⟨#[107,105,110,100]⟩) v1)=True:=eq_true (zZ rfl (zZ rfl (jd _)))
theorem ap3 (v0 v1 v2:Value):Apart (.string ⟨#[99,111,110,100]⟩) (bput (bput (bput jg (.string ⟨#[116,97,98,108,101]⟩) v0) (.string ⟨#[107,105,110,100]⟩) v1) (.string ⟨#[97,108,108]⟩) v2)=True:=eq_true (zZ rfl (zZ rfl (zZ rfl (jd _))))
theorem ap4 (v0 v1 v2 v3:Value):Apart (.string ⟨#[101,120,112,114,115]⟩) (bput (bput (bput (bput jg (.string ⟨#[116,97,98,108,101]⟩) v0) (.string ⟨#[107,105,110,100]⟩) v1) (.string ⟨#[97,108,108]⟩) v2) (.string ⟨#[99,111,110,100]⟩) v3)=True:=eq_true (zZ rfl (zZ rfl (zZ rfl (zZ rfl (jd _)))))
theorem ap5 (v0 v1 v2 v3 v4:Value):Apart (.string ⟨#[97,103,103,115]⟩) (bput (bput (bput (bput (bput jg (.string ⟨#[116,97,98,108,101]⟩) v0) (.string ⟨#[107,105,110,100]⟩) v1) (.string ⟨#[97,108,108]⟩) v2) (.string ⟨#[99,111,110,100]⟩) v3) (.string ⟨#[101,120,112,114,115]⟩) v4)=True:=eq_true (zZ rfl (zZ rfl (zZ rfl (zZ rfl (zZ rfl (jd _))))))
theorem ap6 (v0 v1 v2 v3 v4 v5:Value):Apart (.string ⟨#[116,121,112,101,115]⟩) (bput (bput (bput (bput (bput (bput jg (.string ⟨#[116,97,98,108,101]⟩) v0) (.string ⟨#[107,105,110,100]⟩) v1) (.string ⟨#[97,108,108]⟩) v2) (.string ⟨#[99,111,110,100]⟩) v3) (.string ⟨#[101,120,112,114,115]⟩) v4) (.string ⟨#[97,103,103,115]⟩) v5)=True:=eq_true (zZ rfl (zZ rfl (zZ rfl (zZ rfl (zZ rfl (zZ rfl (jd _)))))))
theorem ap7 (v0 v1 v2 v3 v4 v5 v6:Value):Apart (.string ⟨#[114,111,119,115]⟩) (bput (bput (bput (bput (bput (bput (bput jg (.string ⟨#[116,97,98,108,101]⟩) v0) (.string ⟨#[107,105,110,100]⟩) v1) (.string ⟨#[97,108,108]⟩) v2) (.string ⟨#[99,111,110,100]⟩) v3) (.string ⟨#[101,120,112,114,115]⟩) v4) (.string ⟨#[97,103,103,115]⟩) v5) (.string ⟨#[116,121,112,101,115]⟩) v6)=True:=eq_true (zZ rfl (zZ rfl (zZ rfl (zZ rfl (zZ rfl (zZ rfl (zZ rfl (jd _))))))))
def uq (q:Qr):List (ByteArray×Bool):=[(⟨#[116,97,98,108,101]⟩, !q.table.toList==[]),(⟨#[107,105,110,100]⟩,q.kind !=0),(⟨#[97,108,108]⟩,q.all),(⟨#[99,111,110,100]⟩, !jJ q.cond),(⟨#[101,120,112,114,115]⟩,decide ((q.exprs.length:Int)>0)),(⟨#[97,103,103,115]⟩,decide ((q.aggs.length:Int)>0)),(⟨#[116,121,112,101,115]⟩,decide ((q.types.length:Int)>0)),(⟨#[114,111,119,115]⟩,decide ((q.rows.length:Int)>0))]
def kH (b:ByteArray):ByteArray:=⟨#[32]⟩++b++⟨#[32]⟩
def badU (o:FmD) (p:ByteArray×Bool):Bool:=p.2&& !(Lib.contains (kH o.uses).data.toList (kH p.1).data.toList)
def vo (q:Qr) (o:FmD):Bool:=(uq q).all fun p=> !badU o p
def bagQ (q:Qr):Value->Option Value:=bput (bput (bput (bput (bput (bput (bput (bput (jg) (.string ⟨#[116,97,98,108,101]⟩) (.bool ((uq q).getD 0 default).2)) (.string ⟨#[107,105,110,100]⟩) (.bool ((uq q).getD 1 default).2)) (.string ⟨#[97,108,108]⟩) (.bool ((uq q).getD 2 default).2)) (.string ⟨#[99,111,110,100]⟩) (.bool ((uq q).getD 3 default).2)) (.string ⟨#[101,120,112,114,115]⟩) (.bool ((uq q).getD 4 default).2)) (.string ⟨#[97,103,103,115]⟩) (.bool ((uq q).getD 5 default).2)) (.string ⟨#[116,121,112,101,115]⟩) (.bool ((uq q).getD 6 default).2)) (.string ⟨#[114,111,119,115]⟩) (.bool ((uq q).getD 7 default).2)
theorem un {S:Value->Option Value} {k v x y:Value} (h:bput S k v x=some y):(x,y)=(k,v)\/S x=some y:=by
 unfold bput at h
 split at h
 ·rename_i e;cases h;rw [jI e];exact .inl rfl
 ·exact .inr h
theorem bag_uses {q:Qr} {x y:Value} (h:bagQ q x=some y): ∃p∈uq q,(x,y)=(.string p.1,.bool p.2):=by
 have key: ∀i,i<8->(x,y)=(.string ((uq q).getD i default).1,.bool ((uq q).getD i default).2)-> ∃p∈uq q,(x,y)=(.string p.1,.bool p.2):=fun i hi e=>⟨_,zk (show i<(uq q).length from hi),e⟩
 unfold bagQ at h;rcases un h with h | h
 ·exact key 7 Za h
 rcases un h with h | h
 ·exact key 6 Za h
 rcases un h with h | h
 ·exact key 5 Za h
 rcases un h with h | h
 ·exact key 4 Za h
 rcases un h with h | h
 ·exact key 3 Za h
 rcases un h with h | h
 ·exact key 2 Za h
 rcases un h with h | h
 ·exact key 1 Za h
 rcases un h with h | h
 ·exact key 0 Za h
 cases h
theorem uses_bag {q:Qr} {p:ByteArray×Bool} (h:p∈uq q):bagQ q (.string p.1)=some (.bool p.2):=by
 simp only [uq,YB,List.not_mem_nil,or_false] at h;rcases h with rfl | rfl | rfl | rfl | rfl | rfl | rfl | rfl<;>rfl
theorem uses_size {q:Qr} {p:ByteArray×Bool} (h:p∈uq q):p.1.size<=5:=by
 simp only [uq,YB,List.not_mem_nil,or_false] at h;rcases h with rfl | rfl | rfl | rfl | rfl | rfl | rfl | rfl<;>exact Nat.le_of_ble_eq_true rfl
theorem nodup_lt: ∀(n:Nat) (l:List Nat),l.Nodup→(∀i∈l,i<n)→l.length≤n
 | 0,[],_,_=>Ys _
 | 0,x::l,_,h=>by have:=h x (by simp);omega
 | n+1,l,hd,h=>by
   by_cases hn:n∈l
   ·have:=nodup_lt n (l.erase n) (hd.erase n) fun i hi=>by
     have h1:=h i (List.mem_of_mem_erase hi);have h2:i≠n:=fun e=>by subst e;exact (List.Nodup.not_mem_erase hd) hi
     omega
    rw [List.length_erase_of_mem hn] at this;omega
   ·have:=nodup_lt n l hd fun i hi=>by
     have h1:=h i hi;have h2:i≠n:=fun e=>hn (e ▸ hi);omega
    omega
def badE (o:FmD):Value×Value->Bool
 | (.string a,.bool b)=>badU o (a,b)
 | _=>false
def okSn (o:FmD) (es:List (Value×Value)) (sn:List Nat):Prop:=sn.Nodup/\ ∀i∈sn,∃p,es[i]? =some p/\badE o p=false
theorem okSn.few {o:FmD} {es:List (Value×Value)} {sn:List Nat} (h:okSn o es sn):sn.length<=es.length:=
 nodup_lt _ _ h.1 fun i hi=>by
  obtain ⟨p,hp,_⟩:=h.2 i hi;exact (List.getElem?_eq_some_iff.1 hp).1
theorem okSn.add {o:FmD} {es:List (Value×Value)} {sn:List Nat} (h:okSn o es sn) {i:Nat} {p:Value×Value} (hi:i ∉ sn) (hp:es[i]? =some p) (hb:badE o p=false):okSn o es (sn++[i]):=by
 refine ⟨List.nodup_append.2 ⟨h.1,Zd,fun a ha b hb e=>?_⟩,fun j hj=>?_⟩
 ·simp at hb;subst hb;subst e;exact hi ha
 ·rcases Yr.1 hj with hj | hj
  ·exact h.2 j hj
  ·simp at hj;subst hj;exact ⟨p,hp,hb⟩
theorem WC {p q:Prop} (h:q) (e:p=q:=by conv=>lhs;simp -implicitDefEqProofs only [setT,↓zb,push_cast,simprocAttr,tt]):p:=(e).mpr h
theorem KH{p:Prop}(h:p:=by
 exact zi hI (sn++[i]) (okSn.add hi hin hik hb) (by simp only [Yb,Y5,Ui];omega) (Ya Zb Zb Zb)):p:=h
theorem c_qclean (q:Qr) (o:FmD) (hq:OkQ1 q) (ho:o.uses.size≤1000):ACall Tryz.prog 97 [aQ q,aFm o] [] (boo (vo q o)) []:=by
 have hcl:=hq.cond;have hc:=c_same0 q.cond (Y3 hcl.kids Za);rw [yt,aE_e0] at hc;rw [zW];refine zn mixed ttok Tryz.func97 Tryz.ntmps97 Tryz.results97 ?_;generalize hr:boo (vo q o)=R;have he:(ByteArray.mk #[]).toList=[]:=ZZ;simp -implicitDefEqProofs only [argT,aFm,he,ap0,ap1,ap2,ap3,ap4,ap5,ap6,ap7,↓zb,push_cast,simprocAttr,tt];refine zg [[0,0,0,0,0,6],[0,0,0,0,0,6]] [] (hc) ?_;simp -implicitDefEqProofs only [ap0,ap1,ap2,ap3,ap4,ap5,ap6,ap7,↓zb,push_cast,simprocAttr,tt];refine ⟨ze Zg,?_⟩;refine bag_open (q:=7) (io:=38) (S:=bagQ q) (n:=8) rfl rfl fun es stm hbl hes=>?_;refine zx mixed ttok (fun sn:List Nat=>(⟨[(38,.xo false 38),(3,.ptr 3 0)],[(38,.x (.mi stm 8 sn) [.mp 7]),(7,.mp es (some (stm,8))),(3,.var [.d (.lit (.string o.word)),.d (.lit (.int .i64 o.kids)),.d (.lit (.string o.uses))])]⟩:SL)) (fun sn=>es.length-sn.length) (okSn o es) [] ⟨List.nodup_nil,fun _ h=>by cases h⟩ ?_ ?_
 ·exact Ya Zb Zb Zb
 intro I hI sn hi;refine Zf ?_;refine map_next (io:=38) (om:=7) rfl rfl (fun i k v hik hin=>?_) (fun hall=>?_)
 ·have hlt:sn.length<es.length:=by
   have h1:=(okSn.few (o:=o) (es:=es) (sn:=sn) hi)
   rcases YL sn.length es.length with h2 | h2
   ·exact h2
   ·exfalso;have h3:=nodup_lt es.length (sn++[i]) (List.nodup_append.2 ⟨hi.1,Zd,fun a ha b hb e=>by simp at hb;subst hb;subst e;exact hin ha⟩) fun j hj=>by
     rcases Yr.1 hj with hj | hj
     ·obtain ⟨p,hp,_⟩:=hi.2 j hj;exact (List.getElem?_eq_some_iff.1 hp).1
     ·simp at hj;subst hj;exact (List.getElem?_eq_some_iff.1 hik).1
    simp at h3;omega
  refine WC ?_;refine map_entry (io:=38) (om:=7) rfl rfl hik ?_;obtain ⟨p,hp,hkv⟩:=bag_uses ((hes k v).1 (List.mem_of_getElem? hik));cases hkv;refine WC ?_;have hps:=uses_size hp;have h32:(ByteArray.mk #[32]).size=1:=rfl;refine za (fun g=>?_) fun g=>?_
  ·simp only [ByteArray.size_append,h32];refine ⟨Za,Za,Za,Za,?_⟩;have hcc:=c_contains (kH o.uses) (kH p.1) (by simp only [kH,ByteArray.size_append,h32];omega);simp only [kH] at hcc;refine zg [[0],[0]] [] (hcc) ?_;refine Zf ?_;refine za (fun g2=>?_) fun g2=>?_
   ·have hb:badU o p=true:=by simp only [badU,kH,g,Yo];simpa using g2
    have hcf:vo q o=false:=by
     cases hcq:vo q o with
     | false=>rfl
     | true=>
       have:=Ua.1 hcq p hp;rw [hb] at this;cases this
    exact zm trivial (Zo hr hcf) Zb
   ·have hb:badU o p=false:=by simp only [badU,kH,g,Yo];simpa using g2
    exact KH
  ·have hb:badU o p=false:=by simp only [badU,g,Yl]
   exact KH
 ·refine WC ?_;have hct:vo q o=true:=by
   refine Ua.2 fun p hp=>?_;obtain ⟨i,hil,hie⟩:=Uq ((hes _ _).2 (uses_bag hp));obtain ⟨p',hp',hb⟩:=hi.2 i (hall i hil);rw [List.getElem?_eq_getElem hil,hie] at hp';cases hp';have hb':badU o p=false:=hb;rw [hb'];rfl
  exact zm trivial (Zo hr hct) Zb
end
section
attribute [local simp, local push_cast] Ta yx yA yM zQ
def z7 (p:List Int×Int):A:= .tup [ints p.1,num p.2]
attribute [local simp, local push_cast] z7
def uk (ts:List Int) (e:Ex):Int:=if (yb (ownM ts) e).2=0/\(yb (ownM ts) e).1≠2 then 4 else (yb (ownM ts) e).2
theorem c_cond (ts:List Int) (e:Ex) (hts:ts.length<=1000000) (ho:Ok12 e):ACall Tryz.prog 101 [ints ts,aE e] [] (num (uk ts e)) []:=by
 have hc:=c_type ts Za e ho;rw [yt] at hc ⊢;refine zn mixed ttok Tryz.func101 Tryz.ntmps101 Tryz.results101 ?_;generalize hr:num (uk ts e)=R;unfold uk at hr;refine Zn ?_;refine zg [[1],[0,0,0,0,0,6]] [] (hc) ?_;generalize yb (ownM ts) e=p at hr ⊢;refine ZW ?_;refine za (fun h1=>?_) fun h1=>?_
 ·have h1':p.2=0:=Zc h1;refine za (fun h2=>?_) fun h2=>?_
  ·have h2':p.1≠2:=by simpa using h2
   exact zm trivial (by rw [<-hr,if_pos ⟨h1',h2'⟩];rfl) (by simp [ends])
  ·have h2': ¬p.1≠2:=by simpa using h2
   exact zm trivial (by rw [<-hr,if_neg (fun h=>h2' h.2)];rfl) (by simp [ends])
 ·have h1': ¬p.2=0:=by simpa using h1
  exact zm trivial (by rw [<-hr,if_neg (fun h=>h1' h.1)];rfl) (by simp [ends])
def vG {α:Type} (f:α->Int×Int) (l:List α):List Int×Int:=if ferr (fun e=>(f e).2) l=0 then (l.map fun e=>(f e).1,0) else ([],ferr (fun e=>(f e).2) l)
theorem gW {α:Type} [Inhabited α] (f:α->Int×Int) (l:List α) (n:Nat) (h':n<l.length) (hi: ∀i,i<n->(f (l.getD i default)).2=0) (g:(f (l.getD n default)).2≠0):vG f l=([],(f (l.getD n default)).2):=by
 have:=xV (fun e=>(f e).2) l n h' hi g;rw [vG,this,if_neg g]
theorem uD {α:Type} [Inhabited α] (f:α->Int×Int) (l:List α) (hi: ∀i,i<l.length->(f (l.getD i default)).2=0):vG f l=(l.map fun e=>(f e).1,0):=by
 have:=yQ (fun e=>(f e).2) l hi;rw [vG,this,if_pos rfl]
theorem wp {α β:Type} [Inhabited α] (f:α->β) (l:List α) (n:Nat) (h:n<l.length):(l.take (n+1)).map f=(l.take n).map f++[f (l.getD n default)]:=by
 rw [zy _ _ h,YE];rfl
def wh (ts:List Int) (l:List Ex):List Int×Int:=vG (yb (ownM ts)) l
theorem ZF {p P0 P1 P2 P3:Prop} (zf_:P0) (zg_:P1) (zh_:P2) (zi_:P3) (h:P0->P1->P2->P3->p:=by intro zf_ zg_ zh_ zi_;simp [zf_,zg_,zh_,zi_,zf,ends]):p:=h zf_ zg_ zh_ zi_
theorem Xu {p:Prop} (h:p:=by rw [Y2,Yh];omega):p:=h
theorem Nv{p:Prop}(h:p:=by
 have g':(yb (ownM ts) (l.getD n default)).2=0:=Zc g;refine ⟨⟨hl2.symm,Z2 hl2⟩,?_⟩;exact zp hI n rfl h' (fun i h2=>if h3:i=n then by rw [h3];exact g' else hi i Za) (ZF hw hs hl2 (Yt hn)) (ZF hw hs hl2 (Yt hn)) (ZF hw hs hl2 (Yt hn)) (ZF hw hs hl2 (Yt hn))):p:=h
theorem c_cols (ts:List Int) (l:List Ex) (hts:ts.length<=1000000) (hl:l.length<=1000) (ho: ∀e∈l,Ok12 e):ACall Tryz.prog 102 [ints ts,.d (.sl 6 (zd rE l))] [] (z7 (wh ts l)) []:=by
 refine zn mixed ttok Tryz.func102 Tryz.ntmps102 Tryz.results102 ?_;generalize hr:z7 (wh ts l)=R;unfold wh at hr;refine Zn ?_;refine zq mixed ttok 13 [0,11,12] [] Zv Zw l.length (fun n=> ∀i,i<n->(yb (ownM ts) (l.getD i default)).2=0) (fun n=>[(6,.vec 500 n)]) (fun n=>[(500,.vec 3 1 (zd rI ((l.take n).map fun e=>(yb (ownM ts) e).1)) 0)]) (fun i h=>absurd h (Yu _)) ?_ ?_
 ·exact (YU 6 500 3 1 rfl rfl).trans (Ya Zh Zh Zh)
 intro I hI n hn hi;have hl2:((l.take n).map fun e=>(yb (ownM ts) e).1).length=n:=Xu;refine Zx ?_;refine za (fun h=>?_) fun h=>?_
 ·have h':n<l.length:=Zq h;have hw:=zh h' Za;have hs:=wp (fun e=>(yb (ownM ts) e).1) l n h';refine ⟨Zs,?_⟩;refine zg [[1],[0,0,0,0,0,6]] [] (c_type ts Za _ (ho _ (zk h'))) ?_;refine ZW ?_;refine za (fun g=>?_) fun g=>?_
  ·have g':(yb (ownM ts) (l.getD n default)).2≠0:=Zc g;rw [<-hr,gW _ _ n h' hi g',z7];exact Mg
  ·exact Nv
 obtain rfl:n=l.length:=Zp h;rw [<-hr,uD _ _ hi,Yk,z7];exact Mg
def x3 (ts:List Int) (a:Agg):Int×Int:=
 if a.fn<1\/a.fn>6\/(a.fn=1/\jJ a.arg=false) then (0,1)
 else if a.fn=1 then (1,0)
 else if (yb (ownM ts) a.arg).2≠0 then (0,(yb (ownM ts) a.arg).2)
 else if a.fn=5\/a.fn=6 then ((yb (ownM ts) a.arg).1,0)
 else if a.fn=4/\(yb (ownM ts) a.arg).1≠1 then (0,4) else (1,0)
def aAgg (a:Agg):A:= .agg [.d (.lit (.int .i64 a.fn)),.d (.lit (.int .i64 a.arg.op)),.d (.lit (.int .i64 a.arg.type)),.d (.lit (.int .i64 a.arg.num)),.d (.lit (.string a.arg.text)),.d (.lit (.int .i64 a.arg.col)),.d (.sl 6 (zd rE a.arg.kids))]
theorem c_aggT (ts:List Int) (a:Agg) (hts:ts.length≤1000000) (ho:Ok12 a.arg):ACall Tryz.prog 163 [ints ts,aAgg a] [] (zQ (x3 ts a)) []:=by
 have hc:=c_type ts Za a.arg ho;have hs:=c_same0 a.arg (Y3 ho.kids Za);rw [yt] at hc hs;rw [aE_e0] at hs;refine zn mixed ttok Tryz.func163 Tryz.ntmps163 Tryz.results163 ?_;generalize hr:zQ (x3 ts a)=R;unfold x3 at hr;simp -implicitDefEqProofs only [argT,aAgg,↓zb,push_cast,simprocAttr,tt];refine za (fun k1=>?_) fun k1=>?_
 ·exact zP trivial (by rw [<-hr,if_pos (.inl (of_decide_eq_true k1))];rfl) (by simp [ends])
 refine za (fun k2=>?_) fun k2=>?_
 ·exact zP trivial (by rw [<-hr,if_pos (.inr (.inl (of_decide_eq_true k2)))];rfl) (by simp [ends])
 have k1':=Yc k1;have k2':=Yc k2;refine za (fun k3=>?_) fun k3=>?_
 ·have k3':a.fn=1:=Zc k3;refine zg [[0,0,0,0,0,6],[0,0,0,0,0,6]] [] (hs) ?_;refine Zy k3 ?_;refine za (fun k4=>?_) fun k4=>?_
  ·have k4':jJ a.arg=false:=by simpa using k4
   exact zP trivial (by rw [<-hr,if_pos (.inr (.inr ⟨k3',k4'⟩))];rfl) (by simp [ends])
  ·have k4': ¬jJ a.arg=false:=by simpa using k4
   exact zP trivial (by rw [<-hr,if_neg (fun h=>h.elim k1' fun h=>h.elim k2' fun h=>k4' h.2),if_pos k3'];rfl) (by simp [ends])
 ·have k3': ¬a.fn=1:=Zc k3;refine Zy k3 ?_;refine zg [[1],[0,0,0,0,0,6]] [] (hc) ?_;rw [if_neg (fun h=>h.elim k1' fun h=>h.elim k2' fun h=>k3' h.1),if_neg k3'] at hr;generalize yb (ownM ts) a.arg=p at hr ⊢;refine ZW ?_;refine za (fun k5=>?_) fun k5=>?_
  ·have k5':p.2≠0:=Zc k5;exact zP trivial (Zo hr (if_pos k5')) Zb
  have k5': ¬p.2≠0:=Zc k5;rw [if_neg k5'] at hr;refine za (fun k6=>?_) fun k6=>?_
  ·have k6':a.fn=5:=by simpa using k6
   exact zP trivial (by rw [<-hr,if_pos (.inl k6')];rfl) (by simp [ends])
  have k6': ¬a.fn=5:=Zc k6;refine za (fun k7=>?_) fun k7=>?_
  ·have k7':a.fn=6:=by simpa using k7
   exact zP trivial (by rw [<-hr,if_pos (.inr k7')];rfl) (by simp [ends])
  have k7': ¬a.fn=6:=Zc k7;rw [if_neg (fun h=>h.elim k6' k7')] at hr;refine za (fun k8=>?_) fun k8=>?_
  ·have k8':a.fn=4:=Zc k8;refine za (fun k9=>?_) fun k9=>?_
   ·have k9':p.1≠1:=by simpa using k9
    exact zP trivial (by rw [<-hr,if_pos ⟨k8',k9'⟩];rfl) (by simp [ends])
   ·have k9': ¬p.1≠1:=by simpa using k9
    exact zP trivial (by rw [<-hr,if_neg (fun h=>k9' h.2)];rfl) (by simp [ends])
  ·have k8': ¬a.fn=4:=by simpa using k8
   exact zP trivial (by rw [<-hr,if_neg (fun h=>k8' h.1)];rfl) (by simp [ends])
def vE (ts:List Int) (r:List Val) (i:Nat):Bool:= !zO (r.getD i default) || ((r.getD i default).kind !=0&&(r.getD i default).kind !=ts.getD i default)
def xn (ts:List Int) (r:List Val):Int:=if r.length≠ts.length then 9 else if (List.range r.length).any (vE ts r) then 4 else 0
def xm (q:Qr):Int:=if q.types.length=0\/q.types.length>24\/q.types.any (fun t=> !xf t)=true then 4 else ferr (xn q.types) q.rows
theorem c_vals1 (k:Int):ACall Tryz.prog 161 [num k] [] (boo (!xf k)) []:=by
 refine zn mixed ttok Tryz.func161 Tryz.ntmps161 Tryz.results161 ?_;generalize hr:boo (!xf k)=R;unfold xf at hr;refine Zn ?_;refine za (fun h1=>?_) fun h1=>?_
 ·refine za (fun h2=>?_) fun h2=>?_
  ·have e1:(k==1)=false:=by simpa [bne] using h1
   have e2:(k==2)=false:=by simpa [bne] using h2
   exact zm trivial (ZI hr e1 e2) Zb
  ·have e2:(k==2)=true:=by simpa [bne] using h2
   exact zm trivial (by rw [<-hr,e2,Y4,Yz];rfl) Zb
 ·have e1:(k==1)=true:=by simpa [bne] using h1
  exact zm trivial (by rw [<-hr,e1,Yz,Yz];rfl) Zb
theorem c_idxT1 (l:List Int) (hl:l.length<=1000000):
 ACall Tryz.prog 197 [ints l,.clo 161 []] [] (num (fidx (fun t=> !xf t) l)) []:=by
 refine zn mixed ttok Tryz.func197 Tryz.ntmps197 Tryz.results197 ?_;generalize hr:num (fidx (fun t=> !xf t) l)=R;refine Zn ?_;refine zq mixed ttok 8 [0,1,6,7] [] Zv Zw l.length (fun n=> ∀i,i<n->(!xf (l.getD i default))=false) (fun _=>[]) (fun _=>[]) (fun i h=>absurd h (Yu _)) ?_ ?_
 ·exact Ya Zh Zh Zh
 intro I hI n hn hi;refine Zx ?_;refine za (fun h=>?_) fun h=>?_
 ·have h':n<l.length:=Zq h;have hw:=zh h' Za;refine ⟨Zs,?_⟩;refine zg [[0]] [] (c_vals1 (l.getD n default)) ?_;refine Zf ?_;exact Mt
 ·obtain rfl:n=l.length:=Zp h;refine zv [0] rfl Zd Zj ?_ Zk Zb Zb;rw [<-hr,xE _ l hi];rfl
theorem c_anyT1 (l:List Int) (hl:l.length<=1000000):ACall Tryz.prog 160 [ints l,.clo 161 []] [] (boo (l.any fun t=> !xf t)) []:=by
 refine zn mixed ttok Tryz.func160 Tryz.ntmps160 Tryz.results160 ?_;generalize hr:boo (l.any fun t=> !xf t)=R;refine Zn ?_;refine zg [[1],[]] [] (c_idxT1 l hl) ?_;exact J3
theorem Xe {p P0:Prop} (zf_:P0) (h:P0->p:=by intro zf_;simp [zf_,vQ,ends]):p:=h zf_
theorem c_values (q:Qr) (hq:OkQ1 q):ACall Tryz.prog 99 [aQ q] [] (num (xm q)) []:=by
 have htl:=hq.types;have hrl:=hq.rows;rw [zW];refine zn mixed ttok Tryz.func99 Tryz.ntmps99 Tryz.results99 ?_;generalize hr:num (xm q)=R;unfold xm at hr;refine Zn ?_;refine za (fun k1=>?_) fun k1=>?_
 ·have k1':q.types.length=0:=by simpa using k1
  exact zm trivial (by rw [<-hr,if_pos (.inl k1')];rfl) (by simp [ends])
 have k1': ¬q.types.length=0:=Zc k1;refine za (fun k2=>?_) fun k2=>?_
 ·have k2':q.types.length>24:=by have:=of_decide_eq_true k2;omega
  exact zm trivial (by rw [<-hr,if_pos (.inr (.inl k2'))];rfl) (by simp [ends])
 have k2': ¬q.types.length>24:=Zp k2;refine zg [[1],[]] [] (c_anyT1 q.types Za) ?_;refine Zf ?_;refine za (fun k3=>?_) fun k3=>?_
 ·exact zm trivial (by rw [<-hr,if_pos (.inr (.inr k3))];rfl) (by simp [ends])
 rw [if_neg (fun h=>h.elim k1' fun h=>h.elim k2' fun h=>by rw [k3] at h;cases h)] at hr;refine zq mixed ttok 25 [1,23,24] [] Zv Zw q.rows.length (fun n=> ∀i,i<n->xn q.types (q.rows.getD i default)=0) (fun _=>[]) (fun _=>[(1,vQ q)]) (fun i h=>absurd h (Yu _)) ?_ ?_
 ·exact Ya Zh Xt Zh
 intro I hI n hn hi;refine Xs ?_;refine za (fun h=>?_) fun h=>?_
 ·have h':n<q.rows.length:=Zq h;have hw:=zh h' Za;have hrow:=hq.row _ (zk h');refine ⟨Zs,?_⟩;have hbad:xn q.types (q.rows.getD n default)≠0->num (xn q.types (q.rows.getD n default))=R:=fun hne=>by rw [<-hr,xV _ _ n h' hi hne]
  have hgood:xn q.types (q.rows.getD n default)=0-> ∀i,i<n+1->xn q.types (q.rows.getD i default)=0:=fun h0 i h2=>if h3:i=n then by rw [h3];exact h0 else hi i Za
  generalize q.rows.getD n default=r at hbad hgood hrow ⊢;refine za (fun k4=>?_) fun k4=>?_
  ·have k4': ¬r.length=q.types.length:=ne_nat k4;have hv:xn q.types r=9:=if_pos k4';exact zm trivial (by rw [<-hbad (by rw [hv];decide),hv];rfl) Zb
  have k4':r.length=q.types.length:=kd k4;refine zq mixed ttok 37 [1,23,24,25,35,36] [] Zv Zw r.length (fun m=> ∀i,i<m->vE q.types r i=false) (fun _=>[]) (fun _=>[(1,vQ q)]) (fun i h=>absurd h (Yu _)) ?_ ?_
  ·exact Ya Zh Xt Zh
  intro J hJ m hm hj;refine Xs ?_;refine za (fun g=>?_) fun g=>?_
  ·have g':m<r.length:=Zq g;have gw:=zh g' Za;have hb4:vE q.types r m=true->num 4=R:=fun hc=>by
    have hany:(List.range r.length).any (vE q.types r)=true:=U4.2 ⟨m,UC.2 g',hc⟩;have hv:xn q.types r=4:=by rw [xn,if_neg (fun e=>e k4'),if_pos hany]
    rw [<-hbad (Z8 hv),hv]
   have hg0:vE q.types r m=false-> ∀i,i<m+1->vE q.types r i=false:=fun h0 i h2=>if h3:i=m then by rw [h3];exact h0 else hj i Za
   refine ⟨Zs,?_⟩;refine zg [[0,0,0]] [] (u0 (r.getD m default)) ?_;refine Zf ?_;unfold vE at hb4;have hg1:(!zO (r.getD m default) || ((r.getD m default).kind !=0&&(r.getD m default).kind !=q.types.getD m default))=false-> ∀i,i<m+1->vE q.types r i=false:=hg0;clear hg0;refine za (fun c1=>?_) fun c1=>?_
   ·refine ⟨ze Zg,?_⟩;exact zm trivial (hb4 (Z4 c1)) Zb
   rw [c1,Yx] at hb4 hg1;refine za (fun c2=>?_) fun c2=>?_
   ·refine ⟨Za,ze Zg,?_⟩;rw [c2,Yo] at hb4 hg1;refine za (fun c3=>?_) fun c3=>?_
    ·exact zm trivial (hb4 c3) Zb
    ·exact zp hJ m rfl g' (hg1 c3) (Xe gw) (Xe gw) (Xe gw) (Xe gw)
   ·rw [c2,Yl] at hg1;refine ⟨ze Zg,?_⟩;exact zp hJ m rfl g' (hg1 rfl) (Xe gw) (Xe gw) (Xe gw) (Xe gw)
  ·obtain rfl:m=r.length:=Zp g;have hany: ¬(List.range r.length).any (vE q.types r)=true:=fun e=>by
    obtain ⟨i,hi2,hc⟩:=U4.1 e;rw [hj i (UC.1 hi2)] at hc;cases hc
   have hv:xn q.types r=0:=by rw [xn,if_neg (fun e=>e k4'),if_neg hany]
   exact zp hI n rfl h' (hgood hv) (Xe hw) (Xe hw) (Xe hw) (Xe hw)
 ·obtain rfl:n=q.rows.length:=Zp h;exact zm trivial (Zo hr (yQ _ _ hi)) Zb
end
section
attribute [local simp, local push_cast] Ta aRow rRow vecV aAgg
def y6 (e:Ex) (rows:List Row):List Val:=(rows.map fun r=>zG r e).filter fun v=>v.kind !=0
theorem valsM_succ (e:Ex) (rows:List Row) (n:Nat) (h:n<rows.length):
 y6 e (rows.take (n+1))=if (zG (rows.getD n default) e).kind !=0 then y6 e (rows.take n)++[zG (rows.getD n default) e] else y6 e (rows.take n):=by
 unfold y6;rw [zy _ _ h,YE,Uy];generalize rows.getD n default=r;cases hk:(zG r e).kind !=0<;>simp [hk]
theorem kP (e:Ex) (rows:List Row):(y6 e rows).length<=rows.length:=by
 unfold y6;exact Y3 (YX _ _) Zd
def aggM (fn:Int) (e:Ex) (rows:List Row):Val:=
 if fn=1 then ⟨1,rows.length,ByteArray.empty⟩
 else if fn=2 then ⟨1,(sortV (y6 e rows)).length,ByteArray.empty⟩
 else if fn=3 then ⟨1,(ddTo (sortV (y6 e rows)) (sortV (y6 e rows)).length).length,ByteArray.empty⟩
 else if fn=4 then sumS (sortV (y6 e rows))
 else if (sortV (y6 e rows)).length=0 then zl
 else if fn=5 then (sortV (y6 e rows)).getD 0 default
 else if fn=6 then (sortV (y6 e rows)).getD ((sortV (y6 e rows)).length-1) default
 else zl
theorem c_agg1 (n:Int):ACall Tryz.prog 207 [num n] [] (aV ⟨1,n,ByteArray.empty⟩) []:=by
 refine zn mixed ttok Tryz.func207 Tryz.ntmps207 Tryz.results207 ?_;generalize hr:aV ⟨1,n,ByteArray.empty⟩=R;refine Zn ?_;exact zw Zm (Zr hr) Zb
theorem Gh{p:Prop}(h:p:=by
 rw [g,if_neg Zi] at hs;exact zi hI (n+1) h' Zl (Ya (Z0 hw hs) (Ze hs) Zb)):p:=h
theorem GR{p:Prop}(h:p:=by
 have hf:fn=1:=Zc h1;have hM:aggM fn e rows=⟨1,rows.length,ByteArray.empty⟩:=if_pos hf;exact Nf):p:=h
theorem c_aggregate (fn:Int) (e:Ex) (ho:Ok12 e) (rows:List Row) (hl:rows.length<=1000) (hv: ∀v∈y6 e rows,okV v):
 ACall Tryz.prog 179 [aAgg ⟨fn,e⟩,aTab rows] [] (aV (aggM fn e rows)) []:=by
 refine zn mixed ttok Tryz.func179 Tryz.ntmps179 Tryz.results179 ?_;generalize hr:aV (aggM fn e rows)=R;refine Zn ?_;refine za (fun h1=>?_) fun h1=>?_
 ·refine zg [[0]] [] (c_agg1 rows.length) ?_;refine Z5 ?_;exact GR
 have hf1: ¬fn=1:=Zc h1;refine zx mixed ttok (fun n:Nat=>(⟨[(19,.d (.lit (.int .i64 n))),(6,.vec 500 (y6 e (rows.take n)).length),(2,.ptr 2 0),(4,.ptr 4 0),(5,.clo 207 []),(17,aTab rows),(18,num rows.length)],
  [(500,vecV (y6 e (rows.take n))),(2,.var [.d (.lit (.int .i64 fn)),.d (.lit (.int .i64 e.op)),.d (.lit (.int .i64 e.type)),.d (.lit (.int .i64 e.num)),.d (.lit (.string e.text)),.d (.lit (.int .i64 e.col)),.d (.sl 6 (zd rE e.kids))]),
   (4,.var [.d (.lit (.int .i64 0)),.d (.lit (.int .i64 0)),.d (.lit (.string ByteArray.empty))])]⟩:SL)) (fun n=>rows.length-n) (fun n=>n<=rows.length) 0 (Yj _) ?_ ?_
 ·exact (Weak.nilL 6 500 71 3 rfl rfl).trans (Weak.keepL (by simp [y6,ends]) (by simp [y6,ends]) (by simp [ends]))
 intro I hI n hn;refine Zf ?_;refine za (fun h=>?_) fun h=>?_
 ·simp only [Yg] at h;have h':n<rows.length:=Za;have hw:=zh h' Za;have hs:=valsM_succ e rows n h';have hvl:=kP e (rows.take n);have hvl2:(y6 e (rows.take n)).length<=1000:=by simp at hvl;omega
  refine ⟨⟨Za,h⟩,?_⟩;refine zg [[0,0,0,0,0,6],[3]] [] (c_eval (rows.getD n default) e ho) ?_;refine Z5 ?_;refine za (fun g=>?_) fun g=>?_
  ·rw [g,if_pos rfl] at hs;generalize zG (rows.getD n default) e=v at hs g ⊢;have hrows:zd rV (y6 e (rows.take n))++[[D.lit (.int .i64 v.kind),D.lit (.int .i64 v.num),D.lit (.string v.text)]]=zd rV (y6 e (rows.take n)++[v]):=rowsV_snoc _ v.kind v.num v.text;refine ⟨Za,?_⟩;exact zi hI (n+1) h' Zl (Ya (Z0 hw hs) (Z0 hs hrows) Zb)
  ·exact Gh
 ·simp only [Ye] at h;obtain rfl:n=rows.length:=Za;rw [Yk];have hvl:=kP e rows;unfold aggM at hr;rw [if_neg hf1] at hr;generalize y6 e rows=L at hr hvl hv ⊢;refine callx_fn (fn_sort (o:=500) (e:=71) (vs:=L) (by simp [lookO,vecV]) Za) rfl ?_;have hSl:=jw L;have hSv: ∀v∈sortV L,okV v:=fun v h=>hv v ((vV L).mem_iff.1 h);generalize sortV L=S at hr hSl hSv ⊢;rw [<-hSl];have hS1:S.length<=1000:=Za;refine Zf ?_;refine za (fun h2=>?_) fun h2=>?_
  ·rw [if_pos (Zc h2)] at hr;refine zg [[0]] [] (c_agg1 S.length) ?_;exact NX
  rw [if_neg (Zc h2)] at hr;refine za (fun h3=>?_) fun h3=>?_
  ·rw [if_pos (Zc h3)] at hr;refine xl [(1000,500)] (view_sub (o:=500) (e:=71) (wd:=3) (fz:=0) (rows:=zd rV S) (by simp [lookO]) (zc _ _).symm) (c_compact S Za) (by simp [vecV,ends,bs]) (ZU bs) (by simp [vecV,ends]) ZV ?_;refine Zf ?_;have hcl:(cpM S).length=S.length:=by simp only [cpM,Yb,YQ];have:=ddTo_len S S.length;omega
   refine ⟨hcl.symm,?_⟩;refine zg [[0]] [] (c_agg1 (ddTo S S.length).length) ?_;exact NX
  rw [if_neg (Zc h3)] at hr;refine za (fun h4=>?_) fun h4=>?_
  ·rw [if_pos (Zc h4)] at hr;refine xl [(1000,500)] (view_sub (o:=500) (e:=71) (wd:=3) (fz:=0) (rows:=zd rV S) (by simp [lookO]) (zc _ _).symm) (c_sum S hS1 hSv) (by simp [vecV,ends,bs]) (ZU bs) (by simp [vecV,ends]) ZV ?_;exact NX
  rw [if_neg (Zc h4)] at hr;refine za (fun h5=>?_) fun h5=>?_
  ·rw [if_pos (Zc h5)] at hr;exact zw Zm (Zr hr) Zb
  have h5': ¬S.length=0:=Zc h5;rw [if_neg h5'] at hr;refine za (fun h6=>?_) fun h6=>?_
  ·rw [if_pos (Zc h6)] at hr;refine ⟨Za,Za,?_⟩;exact zw Zm (Zr hr) Zb
  rw [if_neg (Zc h6)] at hr;have hwS:IntKind.i64.wrap ((S.length:Int)-1)=((S.length-1:Nat):Int):=Z9;simp only [hwS];refine za (fun h7=>?_) fun h7=>?_
  ·rw [if_pos (Zc h7)] at hr;simp only [YA];refine ⟨⟨Za,Za⟩,Za,?_⟩;exact zw Zm (Zr hr) Zb
  ·rw [if_neg (Zc h7)] at hr;exact zw Zm (Zr hr) Zb
theorem Kl{p:Prop}(h:p:=by
 refine za (fun h=>absurd h (by simp only [gt_iff_lt,Yg];omega)) fun _=>?_;exact zw Zm (Zr hr) Zb):p:=h
theorem c_raggregate (fn:Int) (e:Ex) (ho:Ok12 e) (rows:List Row) (hl:rows.length≤1000) (hv: ∀v∈y6 e rows,okV v):
 ACall Tryz.prog 142 [aAgg ⟨fn,e⟩,aTab rows] [] (aV (aggM fn e rows)) []:=by
 refine zn mixed ttok Tryz.func142 Tryz.ntmps142 Tryz.results142 ?_;generalize hr:aV (aggM fn e rows)=R;refine Zn ?_;refine za (fun h1=>?_) fun h1=>?_
 ·exact GR
 have hf1: ¬fn=1:=Zc h1;refine zx mixed ttok (fun n:Nat=>(⟨[(6,.d (.lit (.int .i64 n))),(5,.vec 500 (y6 e (rows.take n)).length),(2,.ptr 2 0),(4,.ptr 4 0),(1,aTab rows)],
  [(500,.vec 53 1 (zd rRow (sing (y6 e (rows.take n)))) 0),(2,.var [.d (.lit (.int .i64 fn)),.d (.lit (.int .i64 e.op)),.d (.lit (.int .i64 e.type)),.d (.lit (.int .i64 e.num)),.d (.lit (.string e.text)),.d (.lit (.int .i64 e.col)),.d (.sl 6 (zd rE e.kids))]),
   (4,.var [.d (.lit (.int .i64 0)),.d (.lit (.int .i64 0)),.d (.lit (.string ByteArray.empty))])]⟩:SL)) (fun n=>rows.length-n) (fun n=>n<=rows.length) 0 (Yj _) ?_ ?_
 ·exact (Weak.nilL 5 500 53 1 rfl rfl).trans (Weak.keepL (by simp [y6,ends]) (by simp [y6,sing,ends]) (by simp [ends]))
 intro I hI n hn;refine Zf ?_;refine za (fun h=>?_) fun h=>?_
 ·simp only [Yg] at h;have h':n<rows.length:=Za;have hw:=zh h' Za;have hs:=valsM_succ e rows n h';have hvl:=kP e (rows.take n);have hvl2:(y6 e (rows.take n)).length<=1000:=by simp at hvl;omega
  refine ⟨⟨Za,h⟩,?_⟩;refine zg [[0,0,0,0,0,6],[3]] [] (c_reval (rows.getD n default) e ho) ?_;refine Z5 ?_;refine ⟨ze Zg,?_⟩;refine za (fun g=>?_) fun g=>?_
  ·rw [g,if_pos rfl] at hs;generalize zG (rows.getD n default) e=v at hs g ⊢;have hrows:zd rRow (sing (y6 e (rows.take n)))++[[D.sl 3 [[D.lit (.int .i64 v.kind),D.lit (.int .i64 v.num),D.lit (.string v.text)]]]]=zd rRow (sing (y6 e (rows.take n)++[v])):=by
    have:sing (y6 e (rows.take n)++[v])=sing (y6 e (rows.take n))++[[v]]:=by simp [sing]
    rw [this,<-zf];rfl
   refine ⟨⟨(xQ _).symm,by rw [xQ];omega⟩,?_⟩;exact zi hI (n+1) h' Zl (Ya (by simp [hw,hs,xQ,ends]) (Z0 hs hrows) Zb)
  ·exact Gh
 ·simp only [Ye] at h;obtain rfl:n=rows.length:=Za;rw [Yk];have hvl:=kP e rows;unfold aggM at hr;rw [if_neg hf1] at hr;generalize y6 e rows=L at hr hvl hv ⊢;have hcan:=c_canon (sing L).length (sing L) Za (by rw [xQ];omega) (sing_small L);rw [can_sing] at hcan;refine zg [[1]] [] (hcan) ?_;have hSl:=jw L;have hSv: ∀v∈sortV L,okV v:=fun v h=>hv v ((vV L).mem_iff.1 h);have hso:=jv L;generalize sortV L=S at hr hSl hSv hso ⊢;have hS1:S.length<=1000:=Za;simp -implicitDefEqProofs only [xQ,↓zb,push_cast,simprocAttr,tt];refine za (fun h2=>?_) fun h2=>?_
  ·rw [if_pos (Zc h2)] at hr;exact zw Zm (Zr hr) Zb
  rw [if_neg (Zc h2)] at hr;refine za (fun h3=>?_) fun h3=>?_
  ·rw [if_pos (Zc h3)] at hr;refine zg [[1]] [] (c_distinct (sing S) (by rw [xQ];exact (Y3 hS1 (by decide))) (sing_small S)) ?_;refine Zf ?_;have hdl:(jb (sing S)).length=(ddTo S S.length).length:=by
    rw [<-dist_len,distM_eq,Y2,<-gC _ (sing S) (Nat.le_succ _),can_sing,sortV_eq,List.mergeSort_of_pairwise hso];rfl
   exact zw Zm (by rw [<-hr]<;>first | rfl | (simp [hdl];done) | (simp_all [hdl];done)) Zb
  rw [if_neg (Zc h3)] at hr;refine za (fun h4=>?_) fun h4=>?_
  ·rw [if_pos (Zc h4)] at hr;refine zg [[1]] [] (c_rsum S hS1 hSv) ?_;exact NX
  rw [if_neg (Zc h4)] at hr;have hwS:0<S.length->IntKind.i64.wrap ((S.length:Int)-1)=((S.length-1:Nat):Int):=fun h=>Z9;by_cases h0:S.length=0
  ·rw [if_pos h0] at hr;refine za (fun h6=>?_) fun h6=>?_
   ·exact Kl
   refine za (fun h7=>?_) fun h7=>?_
   ·exact Kl
   ·exact zw Zm (Zr hr) Zb
  rw [if_neg h0] at hr;have h0':0<S.length:=Za;refine za (fun h6=>?_) fun h6=>?_
  ·rw [if_pos (Zc h6)] at hr;refine za (fun _=>?_) fun h=>absurd h (by simp only [gt_iff_lt,Ye];omega);simp only [sing_get S h0',List.getD_cons_zero];refine ⟨Za,Zd,?_⟩;exact zw Zm (Zr hr) Zb
  rw [if_neg (Zc h6)] at hr;refine za (fun h7=>?_) fun h7=>?_
  ·rw [if_pos (Zc h7)] at hr;refine za (fun _=>?_) fun h=>absurd h (by simp only [gt_iff_lt,Ye];omega);simp only [hwS h0',YA,sing_get S (show S.length-1<S.length from Za),List.getD_cons_zero];refine ⟨⟨Za,Za⟩,Zd,?_⟩;exact zw Zm (Zr hr) Zb
  rw [if_neg (Zc h7)] at hr;exact zw Zm (Zr hr) Zb
end
section
open Go.Am Go.Proofs Go.Shelf Go.RowKit
attribute [local simp, local push_cast] Ta yx yA yM z7 zQ
theorem Vg {p:Prop} (h:p:=by rw [<-hG];exact grownCap_le_maxLen w _ _ _ (by unfold maxLen;omega)):p:=h
theorem fn_grow {h:UJ} {d n:Nat} (ho:h d=none) (hn:n≤1000000):
 FnCall Tryz.prog 198 [.snil,num n] h ⟨True,.vec d 0,[(d,.vec 3 1 [] 0)],[d]⟩ where
 fn:=⟨_,Tryz.func198,Zg,Zg⟩
 keyed:=Z3
 calls:=fun h2 hr cx β w us rel hus=>by
  have ho2:h2 d=none:=(hr d Zd).trans ho;simp only [num,repL,A.rep,D.rep] at hus;obtain ⟨u1,_,rfl,rfl,u2,_,rfl,⟨rfl,_⟩,rfl⟩:=hus;by_cases h0:n=0
  ·subst h0
   refine (show Calls Tryz.prog 198 #[.slice none 0 0,.int .i64 ((0:Nat):Int)] w _ from Any8.slices_Grow_room Tryz.growI none 0 0 0 w (by omega) (by omega) (by omega) (by omega)).mono ?_
   rintro e' w' ⟨rfl,rfl⟩
   obtain ⟨r1,L1⟩:=rel.nil d 3 1 ho2
   refine ⟨_,_,rfl,r1,L1,?_⟩
   simp only [A.rep,zj]
   exact ⟨3,1,[],0,by simp [upds],by simp,rfl,fun _=> .inl ⟨by simp,trivial⟩⟩
  ·obtain ⟨i0,hi,his,hib,z,hz,hzc⟩:=(ttok 3 _ rfl).info;refine (show Calls Tryz.prog 198 #[.slice none 0 0,.int .i64 (n:Int)] w _ from Any8.slices_Grow_grow Tryz.growI i0 z hi hz (Z8 his) none 0 0 n [] w Za Za (by rw [hib];show (0+n) * 8<=_;omega) Za Zd (fun _=>rfl) (fun _ h=>by cases h)).mono ?_
   rintro e' w' ⟨rfl,rfl⟩
   generalize hG:grownCap w (0+n) 0 (Tryz.growI_ren.t 25)=G;generalize hC: #[]++Builtin.zeroCells z.cells (0+n-0)++Builtin.zeroCells z.cells (G-(0+n))=C;have hGn:0+n<=G:=by rw [<-hG];exact grownCap_ge w _ _ _
   have hGm:G<=maxLen:=Vg;obtain ⟨r0,L0⟩:=rel.drew;obtain ⟨r1,L1⟩:=r0.alloc d (.vec 3 1 [] 0) C 3 ho2 (fun L=>by
    simp only [Ob.rep];exact ⟨Yj _,fun _ h=>(by cases h),.inr ⟨_,C,rfl,zV w.drew _,Xx,Zd⟩⟩)
   have hCs:C.size=G:=by
    rw [<-hC];have:z.cells.size=1:=Z4 hzc;simp only [U5,size_zeroCells,this];simp;omega
   refine ⟨_,_,rfl,r1,L0.trans L1,?_⟩
   simp only [A.rep,zj]
   refine ⟨3,1,[],0,by simp [upds],by simp,rfl,fun _=> .inr ⟨w.heap.size,G,by simp,rfl,Nat.zero_le _,hGm,C,3,zV w.drew _,by rw [hCs,Nat.mul_one]⟩⟩
theorem flat_snoc (ll:List (List Int)) (n:Nat) (h:n<ll.length):(ll.take (n+1)).flatten=(ll.take n).flatten++ll.getD n default:=by
 rw [zy _ _ h,List.flatten_append];simp
theorem flat_len: ∀(ll:List (List Int)) (b:Nat),(∀l∈ll,l.length<=b)->ll.flatten.length<=ll.length * b
 | [],_,_=>Zd
 | l::ll,b,h=>by
   have h1:=h l Zd;have h2:=flat_len ll b fun x hx=>h x (Zu hx);rw [List.flatten_cons,Yb,Y5,YY];omega
theorem Na{p:Prop}(h:p:=by
 have h1:=hfl n;have h2:=hb _ (zk h');have hws:IntKind.i64.wrap (((ll.take n).flatten.length:Nat)+((ll.getD n default).length:Nat):Int)=(((ll.take (n+1)).flatten.length:Nat):Int):=by
  rw [hs,Yb,zt Za Za];omega
 refine ⟨Zs,?_⟩;rw [hws];refine za (fun h=>absurd (Yd h) Za) (fun _=>?_);exact zp hI n rfl h' trivial (Ze hw) (Ze hw) (Ze hw) (Ze hw)):p:=h
theorem Nm{p:Prop}(h:p:=by
 have h1:=hfl n;have h2:=hb _ (zk h');have hz:(ll.take n++[ll.getD n default]).flatten.length=(ll.take n).flatten.length+(ll.getD n default).length:=by rw [List.flatten_append,Yb];simp
 refine ⟨Zs,?_⟩;refine ⟨Za,?_⟩;exact zp hI n rfl h' trivial (ZE hw hs hz) (ZE hw hs hz) (ZE hw hs hz) (ZE hw hs hz)):p:=h
theorem Kh{p:Prop}(h:p:=by
 have h2:(ll.take n).length<=1000:=Y3 (by rw [Yh];exact Nat.min_le_right _ _) hl;have:=YJ 1000 h2;omega):p:=h
theorem c_concat (ll:List (List Int)) (hl:ll.length<=1000) (hb: ∀l∈ll,l.length<=1000):ACall Tryz.prog 162 [.d (.sl 1 (zd rIs ll))] [] (ints ll.flatten) []:=by
 refine zn mixed ttok Tryz.func162 Tryz.ntmps162 Tryz.results162 ?_;generalize hr:ints ll.flatten=R;have hfl: ∀n,(ll.take n).flatten.length<=1000000:=fun n=>by
  have h1:=flat_len (ll.take n) 1000 fun l h=>hb l (YH h);exact Kh
 refine Zn ?_;refine zq mixed ttok 11 [0,9,10] [] Zv Zw ll.length (fun _=>True) (fun n=>[(3,num ((ll.take n).flatten.length:Nat))]) (fun _=>[]) trivial ?_ ?_
 ·exact Ya Zh Zh Zh
 intro I hI n hn hi;refine Zx ?_;refine za (fun h=>?_) fun h=>?_
 ·have h':n<ll.length:=Zq h;have hw:=zh h' Za;have hs:=flat_snoc ll n h';exact Na
 obtain rfl:n=ll.length:=Zp h;clear hI;refine callx_fn (fn_grow (d:=600) (n:=(ll.take ll.length).flatten.length) rfl (hfl _)) rfl ?_;refine Zf ?_;refine zq mixed ttok 27 [25,26] [] Zv Zw ll.length (fun _=>True) (fun n=>[(6,.vec 600 (ll.take n).flatten.length)]) (fun n=>[(600,.vec 3 1 (zd rI (ll.take n).flatten) 0)]) trivial ?_ ?_
 ·exact Ya Zh (by simp [cst,zd,ends]) Zh
 intro I hI n hn hi;refine Zx ?_;refine za (fun h=>?_) fun h=>?_
 ·have h':n<ll.length:=Zq h;have hw:=zh h' Za;have hs:=flat_snoc ll n h';exact Nm
 obtain rfl:n=ll.length:=Zp h;rw [Yk];exact MO
theorem c_cloneI' (l:List Int) (R:A) (hr:ints l=R) (hl:l.length<=1000000):ACall Tryz.prog 100 [ints l] [] R []:=by
 refine zn mixed ttok Tryz.func100 Tryz.ntmps100 Tryz.results100 ?_;cases l with
 | nil=>
   simp -implicitDefEqProofs only [argT,zC,List.isEmpty_nil,if_true,↓zb,push_cast,simprocAttr,tt]
   refine ⟨?_,?_⟩
   ·exact MO
   ·exact MO
 | cons x l=>
   simp only [Y5] at hl;refine Wr ?_;refine ⟨Za,?_⟩;exact MO
theorem c_cloneI (l:List Int) (hl:l.length<=1000000):ACall Tryz.prog 100 [ints l] [] (ints l) []:=c_cloneI' l _ rfl hl
theorem c_eqI (a b:List Int) (hl:a.length≤1000000) (hm:b.length≤1000000):ACall Tryz.prog 105 [ints a,ints b] [] (boo (a==b)) []:=by
 refine zn mixed ttok Tryz.func105 Tryz.ntmps105 Tryz.results105 ?_;generalize hr:boo (a==b)=R;refine Zn ?_;refine za (fun h0=>?_) fun h0=>?_
 ·have h0': ¬a.length=b.length:=ne_nat h0;have he:(a==b)=false:=by
   cases hq:a==b with
   | false=>rfl
   | true=>exact absurd (congrArg List.length (beq_iff_eq.1 hq)) h0'
  exact zm trivial (Zo hr he) Zb
 have h0':a.length=b.length:=kd h0;refine zq mixed ttok 13 [0,1,11,12] [] Zv Zw a.length (fun n=> ∀i,i<n->a.getD i default=b.getD i default) (fun _=>[]) (fun _=>[]) (fun i h=>absurd h (Yu _)) ?_ ?_
 ·exact Ya Zh Zh Zh
 intro I hI n hn hi;refine Zx ?_;refine za (fun h=>?_) fun h=>?_
 ·have h':n<a.length:=Zq h;have hw:=zh h' Za;refine ⟨Za,Za,ze Zg,?_⟩;refine za (fun g=>?_) fun g=>?_
  ·have g': ¬a.getD n default=b.getD n default:=Zc g;have he:(a==b)=false:=by
    cases hq:a==b with
    | false=>rfl
    | true=>exact absurd (ZA (beq_iff_eq.1 hq)) g'
   exact zm trivial (Zo hr he) Zb
  ·have g':a.getD n default=b.getD n default:=Zc g;exact M5
 ·obtain rfl:n=a.length:=Zp h;have he:a=b:=by
   apply List.ext_getElem h0';intro i h1 h2;have:=hi i h1;rwa [Yf,Yf,List.getElem?_eq_getElem h1,List.getElem?_eq_getElem h2] at this
  exact zm trivial (ZI hr he beq_self_eq_true) Zb
end
section
attribute [local simp, local push_cast] Ta yx yA yM z7 zQ aAgg
theorem ret_vec2 {p:Prop} {t:UL} {o:UM} {n e wd fz:Nat} {y:D} {rows:UN} (a:Nat) (hp:p) (ha:a<1000) (ho:lookO o a=some (.vec e wd rows fz)) (hb:lookO o 1000=none)
 (hin:keepIn (fun _=>false) o):retx (some (p,.tup [.vec a n,.d y])) ⟨t,o⟩ (.tup [.vec 1000 n,.d y]) [(1000,.vec e wd rows fz)]:=by
 refine ⟨hp,?_⟩;have h1:Weak (SL.mk [(0,.tup [.vec a n,.d y])] o).st (SL.mk [(0,.tup [.vec a n,.d y])] [(a,.vec e wd rows fz)]).st:=by
  refine Ya ⟨⟨rfl,by simp [A.closed,closedL,inO,lookO]⟩,trivial⟩ ⟨⟨ho,rfl⟩,trivial⟩ ?_;exact GJ
 have h2:=Weak.ren (t:=[(0,.tup [.vec a n,.d y])]) (o:=[(a,.vec e wd rows fz)]) a 1000 Za ha (by simp only [lookO];rw [if_neg (by omega)]);simp only [renT,renO,A.ren,renL,Ob.ren,zT,if_true] at h2;exact h1.trans h2
theorem gV {α:Type} [Inhabited α] (f:α->Int×Int) (l:List α) (h:(vG f l).2=0): ∀i,i<l.length->(f (l.getD i default)).2=0:=by
 intro i hi;have h0:ferr (fun e=>(f e).2) l=0:=by
  unfold vG at h
  split at h
  ·assumption
  ·exact h
 clear h
 induction l generalizing i with
 | nil=>simp at hi
 | cons x l ih=>
   have hx:(f x).2=0:=by
    simp only [ferr] at h0
    split at h0
    ·assumption
    ·exact h0
   cases i with
   | zero=>simpa using hx
   | succ i=>
     have:=ih i (Zc hi) (by simpa only [ferr,hx,if_true] using h0);simpa using this
theorem N5{p:Prop}(h:p:=by
 refine ZW ?_;refine za (fun g=>absurd (hall n h') (Zc g)) (fun _=>?_);refine ⟨⟨hl2.symm,Z2 hl2⟩,?_⟩;exact zp hI n rfl h' trivial (ZF hw hs hl2 (Yt hn)) (ZF hw hs hl2 (Yt hn)) (ZF hw hs hl2 (Yt hn)) (ZF hw hs hl2 (Yt hn))):p:=h
theorem Gl{p:Prop}(h:p:=by
 obtain rfl:n=l.length:=Zp h;rw [Yk];exact ret_vec2 500 trivial Za rfl rfl Zb):p:=h
theorem c_colsV (ts:List Int) (l:List Ex) (hts:ts.length<=1000000) (hl:l.length<=1000) (ho: ∀e∈l,Ok12 e) (h0:(wh ts l).2=0):
 ACall Tryz.prog 102 [ints ts,.d (.sl 6 (zd rE l))] [] (.tup [.vec 1000 l.length,num 0]) [(1000,.vec 3 1 (zd rI (l.map fun e=>(yb (ownM ts) e).1)) 0)]:=by
 have hall:=gV _ l h0;refine zn mixed ttok Tryz.func102 Tryz.ntmps102 Tryz.results102 ?_;refine Zn ?_;refine zq mixed ttok 13 [0,11,12] [] Zv Zw l.length (fun _=>True) (fun n=>[(6,.vec 500 n)]) (fun n=>[(500,.vec 3 1 (zd rI ((l.take n).map fun e=>(yb (ownM ts) e).1)) 0)]) trivial ?_ ?_
 ·exact (YU 6 500 3 1 rfl rfl).trans (Ya Zh Zh Zh)
 intro I hI n hn hi;have hl2:((l.take n).map fun e=>(yb (ownM ts) e).1).length=n:=Xu;refine Zx ?_;refine za (fun h=>?_) fun h=>?_
 ·have h':n<l.length:=Zq h;have hw:=zh h' Za;have hs:=wp (fun e=>(yb (ownM ts) e).1) l n h';refine ⟨Zs,?_⟩;refine zg [[1],[0,0,0,0,0,6]] [] (c_type ts Za _ (ho _ (zk h'))) ?_;exact N5
 exact Gl
def kL (ts:List Int) (q:Qr):List Int×Int:=
 if q.exprs.length+q.aggs.length<1\/q.exprs.length+q.aggs.length>24 then ([],9)
 else if (wh ts q.exprs).2≠0 then ([],(wh ts q.exprs).2)
 else if (vG (x3 ts) q.aggs).2≠0 then ([],(vG (x3 ts) q.aggs).2)
 else ((wh ts q.exprs).1++(vG (x3 ts) q.aggs).1,0)
theorem ZG {p P0 P1 P2 P3:Prop} (zf_:P0) (zg_:P1) (zh_:P2) (zi_:P3) (h:P0->P1->P2->P3->p:=by intro zf_ zg_ zh_ zi_;simp [zf_,zg_,zh_,zi_,zf,Y6,Yn,ends]):p:=h zf_ zg_ zh_ zi_
theorem Xf {p q:Prop} (h:q) (e:p=q:=by conv=>lhs;simp -implicitDefEqProofs only [z7,↓zb,push_cast,simprocAttr,tt]):p:=(e).mpr h
theorem Kj{p:Prop}(h:p:=by
 unfold wh vG at hc0 ⊢
 split
 ·rename_i h;rw [if_pos h] at hc0;exact absurd rfl hc0
 ·rfl):p:=h
theorem GA{p:Prop}(h:p:=by
 obtain rfl:n=q.aggs.length:=Zp h;have hg:=uD (x3 ts) q.aggs hi;rw [hg] at hr;rw [<-hr,if_neg (fun h=>h rfl),Yk,z7];exact Mg):p:=h
theorem GV{p:Prop}(h:p:=by
 have k2':q.exprs.length+q.aggs.length>24:=Zq k2;rw [<-hr,if_pos (.inr k2'),z7];exact Mg):p:=h
theorem GW{p:Prop}(h:p:=by
 have k1':q.exprs.length+q.aggs.length<1:=Zq k1;rw [<-hr,if_pos (.inl k1'),z7];exact Mg):p:=h
theorem GZ{p:Prop}(h:p:=by
 refine za (fun _=>?_) (fun h=>absurd (Zc h) hc0);rw [<-hr,if_pos hc0,z7];exact Mg):p:=h
theorem c_group (ts:List Int) (q:Qr) (hts:ts.length≤1000000) (hq:OkQ1 q):ACall Tryz.prog 104 [ints ts,aQ q] [] (z7 (kL ts q)) []:=by
 have hel:=hq.exprs;have hal:=hq.aggs;rw [zW];refine zn mixed ttok Tryz.func104 Tryz.ntmps104 Tryz.results104 ?_;generalize hr:z7 (kL ts q)=R;have hwr:IntKind.i64.wrap ((q.exprs.length:Nat)+(q.aggs.length:Nat):Int)=((q.exprs.length+q.aggs.length:Nat):Int):=Z9;unfold kL at hr;refine Zn ?_;rw [hwr];have hM:(vG (x3 ts) q.aggs).1.length<=q.aggs.length:=by
  unfold vG;split
  ·simp
  ·simp
 refine za (fun k1=>?_) fun k1=>?_
 ·exact GW
 have k1': ¬q.exprs.length+q.aggs.length<1:=Zp k1;refine za (fun k2=>?_) fun k2=>?_
 ·exact GV
 have k2': ¬q.exprs.length+q.aggs.length>24:=Zp k2;rw [if_neg (fun h=>h.elim k1' k2')] at hr;by_cases hc0:(wh ts q.exprs).2=0
 ·rw [if_neg (fun h=>h hc0)] at hr;have hcv:(wh ts q.exprs).1=q.exprs.map fun e=>(yb (ownM ts) e).1:=by
   rw [wh,uD _ _ (gV _ _ hc0)]
  rw [hcv] at hr;refine zg [[1],[6]] [(1000,700)] (c_colsV ts q.exprs hts hel hq.ex hc0) ?_;refine Zf ?_;refine zq mixed ttok 39 [0,37,38] [] Zv Zw q.aggs.length (fun n=> ∀i,i<n->(x3 ts (q.aggs.getD i default)).2=0) (fun n=>[(7,.vec 700 (q.exprs.length+n))]) (fun n=>[(700,.vec 3 1 (zd rI ((q.exprs.map fun e=>(yb (ownM ts) e).1)++(q.aggs.take n).map fun e=>(x3 ts e).1)) 0)]) (fun i h=>absurd h (Yu _)) ?_ ?_
  ·exact Ya Zh Zh Zh
  intro I hI n hn hi;have hl2:((q.exprs.map fun e=>(yb (ownM ts) e).1)++(q.aggs.take n).map fun e=>(x3 ts e).1).length=q.exprs.length+n:=by rw [Yb,Y2,Y2,Yh];omega
  refine Zx ?_;refine za (fun h=>?_) fun h=>?_
  ·have h':n<q.aggs.length:=Zq h;have hw:=zh h' Za;have hs:=wp (fun e=>(x3 ts e).1) q.aggs n h';refine ⟨Zs,?_⟩;have hca:=c_aggT ts (q.aggs.getD n default) hts (hq.ag _ (zk h'));simp only [aAgg] at hca;refine zg [[1],[0,0,0,0,0,0,6]] [] (hca) ?_;refine ZW ?_;refine za (fun g=>?_) fun g=>?_
   ·have g':(x3 ts (q.aggs.getD n default)).2≠0:=Zc g;have hb:=gW (x3 ts) q.aggs n h' hi g';rw [<-hr,hb,if_pos g',z7];exact Mg
   ·have g':(x3 ts (q.aggs.getD n default)).2=0:=Zc g;refine ⟨⟨hl2.symm,Z2 hl2⟩,?_⟩;exact zp hI n rfl h' (fun i h2=>if h3:i=n then by rw [h3];exact g' else hi i Za) (ZG hw hs hl2 (Yt hn)) (ZG hw hs hl2 (Yt hn)) (ZG hw hs hl2 (Yt hn)) (ZG hw hs hl2 (Yt hn))
  ·exact GA
 ·have hb:wh ts q.exprs=([],(wh ts q.exprs).2):=Kj;refine zg [[1],[6]] [] (c_cols ts q.exprs hts hel hq.ex) ?_;refine Xf ?_;exact GZ
def joinM (a b:List Int) (q:Qr):List Int×Int:=
 if q.kind<1\/q.kind>6 then ([],1)
 else if (a++b).length>24 then ([],9)
 else if uk (a++b) q.cond≠0 then ([],uk (a++b) q.cond)
 else if q.kind=5\/q.kind=6 then (a,0) else (a++b,0)
theorem Hk{p:Prop}(h:p:=by
 have k4':uk (a++b) q.cond≠0:=Zc k4;rw [<-hr,if_pos k4',z7];exact Mg):p:=h
theorem c_join (a b:List Int) (q:Qr) (ha:a.length<=1000) (hb:b.length<=1000) (hq:OkQ1 q):ACall Tryz.prog 103 [ints a,ints b,aQ q] [] (z7 (joinM a b q)) []:=by
 have hcc:=c_concat [a,b] Zd (by intro l hl;simp at hl;rcases hl with rfl | rfl<;>assumption);have hfl:[a,b].flatten=a++b:=Zd;rw [hfl] at hcc;simp only [z6,rIs] at hcc;rw [zW];refine zn mixed ttok Tryz.func103 Tryz.ntmps103 Tryz.results103 ?_;generalize hr:z7 (joinM a b q)=R;unfold joinM at hr;refine Zn ?_;refine zg [[1]] [] (hcc) ?_;refine Zf ?_;refine za (fun k1=>?_) fun k1=>?_
 ·rw [←hr,if_pos (.inl (Yd k1)),z7];exact Mg
 refine za (fun k2=>?_) fun k2=>?_
 ·rw [←hr,if_pos (.inr (Yd k2)),z7];exact Mg
 rw [if_neg (fun h=>h.elim (Yc k1) (Yc k2))] at hr;refine za (fun k3=>?_) fun k3=>?_
 ·have k3':(a++b).length>24:=Zq k3;rw [<-hr,if_pos k3',z7];exact Mg
 have k3': ¬(a++b).length>24:=Zp k3;rw [if_neg k3'] at hr;have hcd:=c_cond (a++b) q.cond Za hq.cond;rw [yt] at hcd;refine zg [[1],[0,0,0,0,0,6]] [] (hcd) ?_;refine Zf ?_;refine za (fun k4=>?_) fun k4=>?_
 ·exact Hk
 have k4': ¬uk (a++b) q.cond≠0:=Zc k4;rw [if_neg k4'] at hr;refine za (fun k5=>?_) fun k5=>?_
 ·have k5':q.kind=5:=Zc k5;rw [<-hr,if_pos (.inl k5'),z7];exact Mg
 have k5': ¬q.kind=5:=Zc k5;refine za (fun k6=>?_) fun k6=>?_
 ·have k6':q.kind=6:=Zc k6;rw [<-hr,if_pos (.inr k6'),z7];exact Mg
 have k6': ¬q.kind=6:=Zc k6;rw [<-hr,if_neg (fun h=>h.elim k5' k6'),z7];exact Mg
end
section
attribute [local simp, local push_cast] Ta yx yA yM z7 zQ aAgg aFm yj
def ownQ (s:Sch) (q:Qr) (ks:List (List Int)):List Int×Int:=
 if isFm q.op=false\/vo q (y9 q.op)=false then ([],1)
 else if (ks.length:Int)≠(y9 q.op).kids then ([],9)
 else if q.op=1 then (if byT s q.table≥0 then (yd (s.getD (byT s q.table).toNat default),0) else ([],11))
 else if q.op=2 then (if xm q≠0 then ([],xm q) else (q.types,0))
 else if q.op=3 then (if uk (ks.getD 0 default) q.cond≠0 then ([],uk (ks.getD 0 default) q.cond) else (ks.getD 0 default,0))
 else if q.op=4 then (if q.exprs.length=0\/q.exprs.length>24 then ([],9) else wh (ks.getD 0 default) q.exprs)
 else if q.op=5 then joinM (ks.getD 0 default) (ks.getD 1 default) q
 else if q.op=10 then kL (ks.getD 0 default) q
 else if q.op=6\/q.op=7\/q.op=8 then (if (ks.getD 0 default==ks.getD 1 default)=true then (ks.getD 0 default,0) else ([],4))
 else (ks.getD 0 default,0)
def typQK (s:Sch) (q:Qr) (rs:List (List Int×Int)):List Int×Int:=if ferr Prod.snd rs=0 then ownQ s q (rs.map Prod.fst) else ([],ferr Prod.snd rs)
mutual
def typQ (s:Sch):Qr->List Int×Int
 | .mk a b c d e f g h i ks=>typQK s (.mk a b c d e f g h i ks) (typQs s ks)
def typQs (s:Sch):List Qr->List (List Int×Int)
 | []=>[]
 | q::l=>typQ s q::typQs s l
end
theorem typQs_eq (s:Sch): ∀l,typQs s l=l.map (typQ s)
 | []=>rfl
 | q::l=>by rw [typQs,typQs_eq s l];rfl
theorem gJ (s:Sch) (q:Qr):typQ s q=typQK s q (q.kids.map (typQ s)):=by cases q;rw [typQ,typQs_eq];rfl
theorem listM_len {α:Type} (f:α->Int×Int) (l:List α):(vG f l).1.length<=l.length:=by
 unfold vG;split<;>simp
theorem JW{p:Prop}(h:p:=by
 rw [Yf,List.getElem?_eq_none Za];exact Yj _):p:=h
theorem ownQ_len {s:Sch} {q:Qr} {ks:List (List Int)} (hs:SmallS s) (hq:OkQ1 q) (hk: ∀l∈ks,l.length<=1000):(ownQ s q ks).1.length<=1000:=by
 have hg: ∀i,(ks.getD i default).length<=1000:=fun i=>by
  by_cases h:i<ks.length
  ·exact hk _ (zk h)
  ·exact JW
 have h0:=hg 0;have htl:=hq.types;have hel:=hq.exprs;unfold ownQ
 split
 ·exact Yj _
 split
 ·exact Yj _
 split
 ·split
  ·rename_i hb;have h1:=xU (fun t:Tbl=>t.name.toList==q.table.toList) s;have hm:=zk (l:=s) (n:=(byT s q.table).toNat) (by unfold byT at hb ⊢;omega);have:=(hs.tab _ hm).cols;simpa [yd] using this
  ·exact Yj _
 split
 ·split
  ·exact Yj _
  ·exact htl
 split
 ·split
  ·exact Yj _
  ·exact h0
 split
 ·split
  ·exact Yj _
  ·exact Y3 (listM_len _ _) hel
 split
 ·unfold joinM
  split
  ·exact Yj _
  split
  ·exact Yj _
  rename_i h24
  split
  ·exact Yj _
  split
  ·exact h0
  ·simp only;omega
 split
 ·unfold kL
  split
  ·exact Yj _
  split
  ·exact Yj _
  split
  ·exact Yj _
  rename_i h24 _ _;have h1:=listM_len (yb (ownM (ks.getD 0 default))) q.exprs;have h2:=listM_len (x3 (ks.getD 0 default)) q.aggs;simp only [Yb,wh];omega
 split
 ·split
  ·exact h0
  ·exact Yj _
 ·exact h0
theorem jG {s:Sch} (hs:SmallS s): ∀q:Qr,OkQ q->(typQ s q).1.length<=1000:=
 ku (p:=fun q=>OkQ q->(typQ s q).1.length<=1000) fun q ih ho=>by
 rw [gJ,typQK]
 split
 ·refine ownQ_len hs ho.one fun l hl=>?_;simp only [Ux,Yv] at hl;obtain ⟨k,hk,rfl⟩:=hl;exact ih k hk (ho.kid hk)
 ·exact Yj _
theorem formM_uses (op:Int):(y9 op).uses.size<=1000:=by
 unfold y9
 split
 ·rename_i h;simp only [isFm,Yy,Yg] at h;have key:(List.range 11).all (fun n=>decide ((fmTab.getD n default).uses.size<=1000))=true:=Zi;have:=all_range.1 key op.toNat Za;simpa [fmAt] using this
 ·exact Yj _
def kidT (s:Sch) (q:Qr) (n:Nat):List (List Int):=(q.kids.take n).map fun k=>(typQ s k).1
theorem XT {p q P0:Prop} (zf_:P0) (h:q) (e:P0->p=q:=by intro zf_;conv=>lhs;simp -implicitDefEqProofs only [yj,zf_,↓zb,push_cast,simprocAttr,tt]):p:=(e zf_).mpr h
theorem Ni{p:Prop}(h:p:=by
 have g':(typQ s (q.kids.getD n default)).2=0:=Zc g;have hk2:kidT s q (n+1)=kidT s q n++[(typQ s (q.kids.getD n default)).1]:=hst;refine ⟨⟨hl2.symm,Z2 hl2⟩,?_⟩;exact zp hI n rfl h' (fun i h2=>if h3:i=n then by rw [h3];exact g' else hi i Za) (ZE hw hk2 hl2) (ZE hw hk2 hl2) (ZE hw hk2 hl2) (ZE hw hk2 hl2)):p:=h
theorem KW{p:Prop}(h:p:=by
 simp only [kidT,Yk,Yv] at hl;obtain ⟨k,hk,rfl⟩:=hl;exact jG hs k (ho.kid hk)):p:=h
theorem Gu{p:Prop}(h:p:=by
 refine Zf ?_;refine ⟨ze Zg,?_⟩;refine za (fun g=>?_) fun g=>?_
 ·have g': ¬(ks.getD 0 default==ks.getD 1 default)=true:=Zc g;rw [<-hr,if_neg g',z7];exact Mg
 ·have g':(ks.getD 0 default==ks.getD 1 default)=true:=Zc g;refine ⟨Za,Za,?_⟩;rw [<-hr,if_pos g',z7];exact Mg):p:=h
theorem Gv{p:Prop}(h:p:=by
 rw [yt] at hcd;refine ⟨Za,Za,?_⟩;refine zg [[1],[0,0,0,0,0,6]] [] (hcd) ?_;refine Zf ?_;refine ⟨ze Zg,?_⟩;refine za (fun g=>?_) fun g=>?_
 ·have g':uk (ks.getD 0 default) q.cond≠0:=Zc g;rw [<-hr,if_pos g',z7];exact Mg
 ·have g': ¬uk (ks.getD 0 default) q.cond≠0:=Zc g;rw [if_neg g'] at hr;refine ⟨Za,Za,?_⟩;rw [<-hr,z7];exact Mg):p:=h
theorem Gw{p:Prop}(h:p:=by
 refine za (fun g=>?_) fun g=>?_
 ·have g':(typQ s (q.kids.getD n default)).2≠0:=Zc g;have hf:ferr Prod.snd (q.kids.map (typQ s))=(typQ s (q.kids.getD n default)).2:=Wv;have hE:typQ s q=([],(typQ s (q.kids.getD n default)).2):=by rw [gJ s q,typQK,hf,if_neg g']
  rw [<-hr,hE,z7];exact Mg
 ·exact Ni):p:=h
theorem G3{p:Prop}(h:p:=by
 refine Xf ?_;refine ⟨ze Zg,?_⟩;rw [<-hr,z7];exact Mg):p:=h
theorem GL{p:Prop}(h:p:=by
 have hb3:decide (b≥0)=false:=YS hb;rw [if_neg hb] at hr;refine XT hb3 ?_;rw [<-hr,z7];exact Mg):p:=h
theorem GM{p:Prop}(h:p:=by
 simp only [aT] at hct;refine zg [[0,3,1,1,2,6]] [] (hct) ?_;refine Zf ?_;rw [<-hr,z7];exact Mg):p:=h
theorem GS{p:Prop}(h:p:=by
 have hk1:ks.length=1:=Za;rw [if_neg Za] at hr;refine ⟨Za,Za,?_⟩;rw [<-hr,z7];exact Mg):p:=h
theorem GX{p:Prop}(h:p:=by
 have k3':(ks.length:Int)≠(y9 q.op).kids:=Zc k3;rw [<-hr,if_pos k3',z7];exact Mg):p:=h
theorem Hb{p:Prop}(h:p:=by
 have g2':q.exprs.length>24:=Zq g2;rw [<-hr,if_pos (.inr g2'),z7];exact Mg):p:=h
theorem Hl{p:Prop}(h:p:=by
 refine ⟨Za,Za,Za,Za,?_⟩;refine zg [[1],[1]] [] (c_eqI (ks.getD 0 default) (ks.getD 1 default) (Y3 (hg 0) Za) (Y3 (hg 1) Za)) ?_;exact Gu):p:=h
theorem Hn{p:Prop}(h:p:=by
 rw [zW] at hj;refine zg [[1],[1],[0,0,0,0,0,0,0,0,0,6,6,7,1,1,15]] [] (hj) ?_;exact G3):p:=h
theorem Ho{p:Prop}(h:p:=by
 rw [zW] at hj;refine zg [[1],[0,0,0,0,0,0,0,0,0,6,6,7,1,1,15]] [] (hj) ?_;exact G3):p:=h
theorem c_typQ (s:Sch) (hs:SmallS s): ∀q:Qr,OkQ q->ACall Tryz.prog 58 [aS s,aQ q] [] (z7 (typQ s q)) []:=
 ku (p:=fun q=>OkQ q->ACall Tryz.prog 58 [aS s,aQ q] [] (z7 (typQ s q)) []) fun q ih ho=>by
 have hq:=ho.one;have hkl:=hq.kids;have hsl:=hs.len;rw [zW];refine zn mixed ttok Tryz.func58 Tryz.ntmps58 Tryz.results58 ?_;generalize hr:z7 (typQ s q)=R;refine Zn ?_;refine zq mixed ttok 20 [2,3,18,19] [2,3] Zv Zw q.kids.length (fun n=> ∀i,i<n->(typQ s (q.kids.getD i default)).2=0) (fun n=>[(6,.vec 500 n)]) (fun n=>[(500,.vec 22 1 (zd rIs (kidT s q n)) 0)]) (fun i h=>absurd h (Yu _)) ?_ ?_
 ·exact (Weak.nilL 6 500 22 1 rfl rfl).trans (Weak.keepL (by simp [cst,ends]) (by simp [cst,kidT,zd,ends]) (by simp [cst,ends]))
 intro I hI n hn hi;have hl2:(kidT s q n).length=n:=by rw [kidT,Y2,Yh];omega
 refine Zx ?_;refine za (fun h=>?_) fun h=>?_
 ·have h':n<q.kids.length:=Zq h;have hw:=zh h' Za;have hst:=wp (fun k=>(typQ s k).1) q.kids n h';have hc:=ih _ (zk h') (ho.kid (zk h'));rw [zW] at hc;refine ⟨Zs,?_⟩;refine zg [[6],[0,0,0,0,0,0,0,0,0,6,6,7,1,1,15]] [] (hc) ?_;refine Xf ?_;exact Gw
 obtain rfl:n=q.kids.length:=Zp h;clear hI;have hf:ferr Prod.snd (q.kids.map (typQ s))=0:=Ww;have hT:kidT s q q.kids.length=(q.kids.map (typQ s)).map Prod.fst:=by rw [kidT,Yk,Ux];rfl
 have hM:typQ s q=ownQ s q (kidT s q q.kids.length):=by rw [gJ s q,typQK,if_pos hf,hT]
 have hks: ∀l∈kidT s q q.kids.length,l.length<=1000:=fun l hl=>by
  exact KW
 rw [hM] at hr;clear hM hT hf hi;generalize kidT s q q.kids.length=ks at hr hks hl2 ⊢;have hg: ∀i,(ks.getD i default).length<=1000:=fun i=>by
  by_cases h:i<ks.length
  ·exact hks _ (zk h)
  ·exact JW
 rw [<-hl2];refine zg [[0]] [] (c_form q.op) ?_;simp -implicitDefEqProofs only [aFm,↓zb,push_cast,simprocAttr,tt];unfold ownQ at hr;refine za (fun k1=>?_) fun k1=>?_
 ·have k1':isFm q.op=false:=Zc k1;rw [<-hr,if_pos (.inl k1'),z7];exact Mg
 have k1':isFm q.op=true:=Zc k1;have hcl:=c_qclean q (y9 q.op) hq (formM_uses q.op);rw [zW] at hcl;simp only [aFm] at hcl;refine zg [[0,0,0,0,0,0,0,0,0,6,6,7,1,1,15],[0,0,0]] [] (hcl) ?_;refine Zf ?_;refine za (fun k2=>?_) fun k2=>?_
 ·have k2':vo q (y9 q.op)=false:=Zc k2;rw [<-hr,if_pos (.inr k2'),z7];exact Mg
 have k2': ¬(isFm q.op=false\/vo q (y9 q.op)=false):=by
  have:vo q (y9 q.op)=true:=Zc k2;rw [k1',this];simp
 rw [if_neg k2'] at hr;refine za (fun k3=>?_) fun k3=>?_
 ·exact GX
 have k3': ¬(ks.length:Int)≠(y9 q.op).kids:=Zc k3;rw [if_neg k3'] at hr;have k3'':(ks.length:Int)=(y9 q.op).kids:=Zc k3;refine za (fun o1=>?_) fun o1=>?_
 ·have o1':q.op=1:=Zc o1;have hkn:(y9 q.op).kids=0:=Z4 o1';rw [if_pos o1'] at hr;refine zg [[6],[0]] [] (c_find s q.table Za) ?_;have hlt:=xU (fun t:Tbl=>t.name.toList==q.table.toList) s;have hbd:byT s q.table=fidx (fun t:Tbl=>t.name.toList==q.table.toList) s:=rfl;rw [<-hbd] at hlt;generalize byT s q.table=b at hr hlt ⊢;by_cases hb:b≥0
  ·have hb2:(if 0>b then (0:Int) else b)=b:=if_neg Za;have hb3:decide (b≥0)=true:=YV hb;rw [if_pos hb] at hr;simp -implicitDefEqProofs only [yj,hb2,hb3,↓zb,push_cast,simprocAttr,tt];refine ⟨⟨hb,Za⟩,?_⟩;have hm:=zk (l:=s) (n:=b.toNat) Za;have hct:=c_types (s.getD b.toNat default) (by have:=(hs.tab _ hm).cols;omega);exact GM
  ·exact GL
 have o1': ¬q.op=1:=Zc o1;rw [if_neg o1'] at hr;refine za (fun o2=>?_) fun o2=>?_
 ·have o2':q.op=2:=Zc o2;have hkn:(y9 q.op).kids=0:=Z4 o2';rw [if_pos o2'] at hr;have hv:=c_values q hq;rw [zW] at hv;refine zg [[0,0,0,0,0,0,0,0,0,6,6,7,1,1,15]] [] (hv) ?_;refine Zf ?_;refine za (fun g=>?_) fun g=>?_
  ·have g':xm q≠0:=Zc g;rw [<-hr,if_pos g',z7];exact Mg
  ·have g': ¬xm q≠0:=Zc g;rw [if_neg g'] at hr;refine zg [[1]] [] (c_cloneI q.types (by have:=hq.types;omega)) ?_;refine Zf ?_;rw [<-hr,z7];exact Mg
 have o2': ¬q.op=2:=Zc o2;rw [if_neg o2'] at hr;refine za (fun o3=>?_) fun o3=>?_
 ·have o3':q.op=3:=Zc o3;have hkn:(y9 q.op).kids=1:=Z4 o3';rw [if_pos o3'] at hr;have hk1:ks.length=1:=Za;have hcd:=c_cond (ks.getD 0 default) q.cond (Y3 (hg 0) Za) hq.cond;exact Gv
 have o3': ¬q.op=3:=Zc o3;rw [if_neg o3'] at hr;refine za (fun o4=>?_) fun o4=>?_
 ·have o4':q.op=4:=Zc o4;have hkn:(y9 q.op).kids=1:=Z4 o4';rw [if_pos o4'] at hr;have hk1:ks.length=1:=Za;have hel:=hq.exprs;refine za (fun g1=>?_) fun g1=>?_
  ·have g1':q.exprs.length=0:=Zc g1;rw [<-hr,if_pos (.inl g1'),z7];exact Mg
  have g1': ¬q.exprs.length=0:=Zc g1;refine za (fun g2=>?_) fun g2=>?_
  ·exact Hb
  have g2': ¬q.exprs.length>24:=Zp g2;rw [if_neg (fun h=>h.elim g1' g2')] at hr;refine ⟨Za,Za,?_⟩;refine zg [[1],[6]] [] (c_cols (ks.getD 0 default) q.exprs (Y3 (hg 0) Za) hel hq.ex) ?_;exact G3
 have o4': ¬q.op=4:=Zc o4;rw [if_neg o4'] at hr;refine za (fun o5=>?_) fun o5=>?_
 ·have o5':q.op=5:=Zc o5;have hkn:(y9 q.op).kids=2:=Z4 o5';rw [if_pos o5'] at hr;have hk1:ks.length=2:=Za;refine ⟨Za,Za,Za,Za,?_⟩;have hj:=c_join (ks.getD 0 default) (ks.getD 1 default) q (hg 0) (hg 1) hq;exact Hn
 have o5': ¬q.op=5:=Zc o5;rw [if_neg o5'] at hr;refine za (fun o10=>?_) fun o10=>?_
 ·have o10':q.op=10:=Zc o10;have hkn:(y9 q.op).kids=1:=Z4 o10';rw [if_pos o10'] at hr;have hk1:ks.length=1:=Za;refine ⟨Za,Za,?_⟩;have hj:=c_group (ks.getD 0 default) q (Y3 (hg 0) Za) hq;exact Ho
 have o10': ¬q.op=10:=Zc o10;rw [if_neg o10'] at hr;refine za (fun o6=>?_) fun o6=>?_
 ·have o6':q.op=6:=Zc o6;have hkn:(y9 q.op).kids=2:=Z4 o6';have hk1:ks.length=2:=Za;rw [if_pos Za] at hr;refine za (fun _=>?_) (fun h=>absurd (o6.symm.trans h) Zi);exact Hl
 have o6': ¬q.op=6:=Zc o6;refine za (fun o7=>?_) fun o7=>?_
 ·have o7':q.op=7:=Zc o7;have hkn:(y9 q.op).kids=2:=Z4 o7';have hk1:ks.length=2:=Za;rw [if_pos Za] at hr;refine za (fun _=>?_) (fun h=>absurd (o7.symm.trans h) Zi);exact Hl
 have o7': ¬q.op=7:=Zc o7;refine za (fun o8=>?_) fun o8=>?_
 ·have o8':q.op=8:=Zc o8;have hkn:(y9 q.op).kids=2:=Z4 o8';have hk1:ks.length=2:=Za;rw [if_pos Za] at hr;exact Hl
 have o8': ¬q.op=8:=Zc o8;have o9:q.op=9:=by
  simp only [isFm,Yy,Yg] at k1';omega
 have hkn:(y9 q.op).kids=1:=Z4 o9;exact GS
def wJ (s:Sch) (q:Qr):List Int×Int:=if vF q>200 then ([],8) else if yZ q>24 then ([],13) else typQ s q
theorem c_Type (s:Sch) (hs:SmallS s) (q:Qr) (ho:OkQ q):ACall Tryz.prog 34 [aS s,aQ q] [] (z7 (wJ s q)) []:=by
 have h1:=c_qsize q ho;have h2:=c_qdepth q ho;have h3:=c_typQ s hs q ho;rw [zW] at h1 h2 h3 ⊢;refine zn mixed ttok Tryz.func34 Tryz.ntmps34 Tryz.results34 ?_;generalize hr:z7 (wJ s q)=R;unfold wJ at hr;refine Zn ?_;refine zg [[0,0,0,0,0,0,0,0,0,6,6,7,1,1,15]] [] (h1) ?_;refine Zf ?_;refine za (fun k1=>?_) fun k1=>?_
 ·rw [←hr,if_pos (Yd k1),z7];exact Mg
 rw [if_neg (Yc k1)] at hr;refine zg [[0,0,0,0,0,0,0,0,0,6,6,7,1,1,15]] [] (h2) ?_;refine Zf ?_;refine za (fun k2=>?_) fun k2=>?_
 ·rw [←hr,if_pos (Yd k2),z7];exact Mg
 rw [if_neg (Yc k2)] at hr;refine zg [[6],[0,0,0,0,0,0,0,0,0,6,6,7,1,1,15]] [] (h3) ?_;refine Xf ?_;rw [<-hr,z7];exact Mg
end
end Go.Proofs.YtnmibokjpedkiaaGreatDoor
