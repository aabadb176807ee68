/- Queries over made schemas answer as specified (part Wf) -/
import Derived.Test.YtnmibokjpedkiaaGreatDoorWe
set_option maxRecDepth 100000
set_option maxHeartbeats 4000000
set_option linter.all false
namespace Go.Proofs.YtnmibokjpedkiaaGreatDoor
open Go.Am
section
attribute [local simp, local push_cast] Wq yF xZ xD
theorem uS {p:Qr->Prop} (h: ∀q:Qr,(∀k∈q.kids,p k)->p q): ∀q,p q:=by
 intro q;exact Qr.rec (motive_1:=p) (motive_2:=fun l=> ∀k∈l,p k) (fun a b c d e f g t r ks ih=>h _ ih) Zd (fun k l h1 h2=>by simpa using ⟨h1,h2⟩) q
structure OkQ1 (q:Qr):Prop where
 cond:Ok12 q.cond
 exprs:q.exprs.length<=1000
 ex: ∀e∈q.exprs,Ok12 e
 aggs:q.aggs.length<=1000
 ag: ∀a∈q.aggs,Ok12 a.arg
 types:q.types.length<=1000
 rows:q.rows.length<=1000
 row: ∀r∈q.rows,r.length<=1000
 kids:q.kids.length<=1000
inductive OkQ:Qr->Prop
 | mk (q:Qr) (h:OkQ1 q) (hk: ∀k∈q.kids,OkQ k):OkQ q
theorem OkQ.one {q:Qr} (h:OkQ q):OkQ1 q:=by cases h;assumption
theorem OkQ.kid {q k:Qr} (h:OkQ q) (hk:k∈q.kids):OkQ k:=by cases h with | mk _ _ h2=>exact h2 k hk
def xx (l:List Agg):List Ex:=(l.filter fun a=>a.fn !=1).map (·.arg)
def yU (q:Qr):List Ex:=
 (if q.op==3 || q.op==5 then [q.cond] else if q.op==4 || q.op==10 then q.exprs else [])++(if q.op==10 then xx q.aggs else [])
def vQ (q:Qr):Ob:= .var [num q.op,str q.table,num q.kind,boo q.all,num q.cond.op,num q.cond.type,num q.cond.num,str q.cond.text,num q.cond.col,.d (.sl 6 (zd rE q.cond.kids)),
    .d (.sl 6 (zd rE q.exprs)),.d (.sl 7 (zd rAgg q.aggs)),.d (.sl 1 (zd rI q.types)),.d (.sl 1 (zd xD q.rows)),.d (.sl 15 (zd rQ q.kids))]
theorem argsQ_snoc (l:List Agg) (a:Agg):xx (l++[a])=xx l++(if a.fn==1 then [] else [a.arg]):=by
 unfold xx;rw [Ux,YC];by_cases h:a.fn==1
 ·simp [h,bne]
 ·simp [h,bne]
theorem exprsQ_len {q:Qr} (hq:OkQ1 q):(yU q).length<=2000:=by
 have h1:=hq.exprs;have h2:=hq.aggs;have h3:(xx q.aggs).length<=q.aggs.length:=by unfold xx;rw [Y2];exact YW _ _
 unfold yU;rw [Yd]
 split<;>split<;>(try split)<;>simp<;>omega
theorem Xa {p:Prop} (h:p:=by rw [Yd];rfl):p:=h
theorem Xm {p q:Prop} (h:q) (e:p=q:=by conv=>lhs;simp -implicitDefEqProofs only [cst,vQ,↓zb,push_cast,simprocAttr,tt]):p:=(e).mpr h
theorem c_exprs (q:Qr) (hq:OkQ1 q):ACall Tryz.prog 94 [aQ q] [] (.d (.sl 6 (zd rE (yU q)))) []:=by
 rw [ye];refine zn mixed ttok Tryz.func94 Tryz.ntmps94 Tryz.results94 ?_;generalize hr:A.d (.sl 6 (zd rE (yU q)))=R;have hel:=hq.exprs;have hal:=hq.aggs;by_cases h10:q.op=10
 ·have e3:(q.op==3)=false:=Z5 h10;have e5:(q.op==5)=false:=Z5 h10;have e4:(q.op==4)=false:=Z5 h10;have e10:(q.op==10)=true:=Z5 h10;have hX:yU q=q.exprs++xx q.aggs:=by simp [yU,e3,e5,e4,e10]
  simp -implicitDefEqProofs only [argT,e3,e4,e5,e10,↓zb,push_cast,simprocAttr,tt];refine ⟨Za,?_⟩;refine zp mixed ttok 29 [1,27,28] [] Zv Zw q.aggs.length (fun _=>True) (fun n=>[(3,.vec 22 (q.exprs++xx (q.aggs.take n)).length)]) (fun n=>[(1,vQ q),(22,.vec 36 6 (zd rE (q.exprs++xx (q.aggs.take n))) 0)]) trivial ?_ ?_
  ·exact Ya (by simp [cst,xx,ends]) (by simp [cst,vQ,xx,ends]) Zh
  intro I hI n hn hi;refine Xm ?_;refine za (fun h=>?_) fun h=>?_
  ·have h':n<q.aggs.length:=Zp h;have hw:=zh h' Za;have ht:xx (q.aggs.take (n+1))=xx (q.aggs.take n)++(if (q.aggs.getD n default).fn==1 then [] else [(q.aggs.getD n default).arg]):=by
    rw [<-argsQ_snoc,zw _ _ h']
   have hlen:(xx (q.aggs.take n)).length<=n:=by
    unfold xx;rw [Y2];exact Y3 (YW _ _) ZA
   have hlen2:(q.exprs++xx (q.aggs.take n)).length<=2000:=Xj;refine ⟨Zt,?_⟩;refine za (fun g=>?_) fun g=>?_
   ·have g':((q.aggs.getD n default).fn==1)=false:=by simpa [bne] using g
    rw [g',if_neg (by decide),<-List.append_nil [(q.aggs.getD n default).arg]] at ht
    have ht2:q.exprs++xx (q.aggs.take (n+1))=(q.exprs++xx (q.aggs.take n))++[(q.aggs.getD n default).arg]:=by rw [ht,Yv,Yo]
    refine ⟨Za,?_⟩;have hz:(q.exprs++xx (q.aggs.take n)++[(q.aggs.getD n default).arg]).length=(q.exprs++xx (q.aggs.take n)).length+1:=Xa;generalize (q.exprs++xx (q.aggs.take n))=L at *;exact zo hI n rfl h' trivial (by simp [hw,ht2,hz,zg,vQ,ends]) (by simp [hw,ht2,hz,zg,vQ,ends]) (by simp [hw,ht2,hz,zg,vQ,ends]) (by simp [hw,ht2,hz,zg,vQ,ends])
   ·have g':((q.aggs.getD n default).fn==1)=true:=by simpa [bne] using g
    rw [g',if_pos rfl,List.append_nil] at ht
    exact zo hI n rfl h' trivial (by simp [hw,ht,vQ,ends]) (by simp [hw,ht,vQ,ends]) (by simp [hw,ht,vQ,ends]) (by simp [hw,ht,vQ,ends])
  ·obtain rfl:n=q.aggs.length:=Zo h;rw [Yl];refine zu [6] rfl Zd Zk ?_ Zl Zb Zb;rw [<-hr,hX]
 ·have e10:(q.op==10)=false:=Zc h10;refine ZN e10 ?_;refine za (fun h3=>?_) fun h3=>?_
  ·have hX:yU q=[q.cond]:=by simp [yU,h3,e10]
   refine za (fun _=>?_) (fun h=>absurd (h3.symm.trans h) Zi);refine zu [6] rfl Zd Zk ?_ Zl Zb Zb;rw [<-hr,hX,zF,yX];rfl
  refine za (fun h5=>?_) fun h5=>?_
  ·have hX:yU q=[q.cond]:=by simp [yU,h5,e10]
   refine zu [6] rfl Zd Zk ?_ Zl Zb Zb;rw [<-hr,hX,zF,yX];rfl
  refine za (fun h4=>?_) fun h4=>?_
  ·have hX:yU q=q.exprs:=by simp [yU,h3,h5,h4,e10]
   refine za (fun _=>?_) (fun h=>absurd (h4.symm.trans h) Zi);refine ⟨Za,?_⟩;refine zu [6] rfl Zd Zk ?_ Zl Zb Zb;rw [<-hr,hX]
  ·have hX:yU q=[]:=by simp [yU,h3,h5,h4,e10]
   refine zu [6] rfl Zd Zk ?_ Zl Zb Zb;rw [<-hr,hX];rfl
def uR (n:Int):List (List Val)->Int
 | []=>n
 | r::l=>uR (IntKind.i64.wrap (n+r.length)) l
mutual
def wL:Qr->Int
 | .mk a b c d e f g h i ks=>sizeQs (uR (sizeL 1 (yU (.mk a b c d e f g h i ks))) i) ks
def sizeQs (n:Int):List Qr->Int
 | []=>n
 | q::l=>sizeQs (IntKind.i64.wrap (n+wL q)) l
end
theorem sizeQ_eq (q:Qr):wL q=sizeQs (uR (sizeL 1 (yU q)) q.rows) q.kids:=by cases q;rw [wL];rfl
mutual
def yP:Qr->Int
 | .mk a b c d e f g h i ks=>IntKind.i64.wrap (depthQs 0 ks+1)
def depthQs (n:Int):List Qr->Int
 | []=>n
 | q::l=>depthQs (if n<yP q then yP q else n) l
end
theorem depthQ_eq (q:Qr):yP q=IntKind.i64.wrap (depthQs 0 q.kids+1):=by cases q;rw [yP];rfl
theorem gE (r:List Val): ∀(l:List (List Val)) (n:Int),uR n (l++[r])=IntKind.i64.wrap (uR n l+r.length)
 | [],n=>rfl
 | x::l,n=>by simp only [YL,uR];exact gE r l _
theorem qs (q:Qr): ∀(l:List Qr) (n:Int),sizeQs n (l++[q])=IntKind.i64.wrap (sizeQs n l+wL q)
 | [],n=>by simp [sizeQs]
 | x::l,n=>by simp only [YL,sizeQs];exact qs q l _
theorem qj (q:Qr): ∀(l:List Qr) (n:Int),depthQs n (l++[q])=(if depthQs n l<yP q then yP q else depthQs n l)
 | [],n=>rfl
 | x::l,n=>by simp only [YL,depthQs];exact qj q l _
theorem exprsQ_ok {q:Qr} (hq:OkQ1 q): ∀e∈yU q,Ok12 e:=by
 intro e he;unfold yU at he;rcases Yz.1 he with h | h
 ·split at h
  ·rw [Uf.1 h];exact hq.cond
  ·split at h
   ·exact hq.ex e h
   ·simp at h
 ·split at h
  ·unfold xx at h;obtain ⟨a,ha,rfl⟩:=Y4.1 h;exact hq.ag a (U7.1 ha).1
  ·simp at h
theorem ZC {p P0 P1:Prop} (zf_:P0) (zg_:P1) (h:P0->P1->p:=by intro zf_ zg_;simp [zf_,zg_,vQ,ends]):p:=h zf_ zg_
theorem Xn {p:Prop} (h:p:=by simp [cst,vQ,ends]):p:=h
theorem c_qsize: ∀q:Qr,OkQ q->ACall Tryz.prog 56 [aQ q] [] (num (wL q)) []:=
 uS (p:=fun q=>OkQ q->ACall Tryz.prog 56 [aQ q] [] (num (wL q)) []) fun q ih ho=>by
 have hq:=ho.one;have hce:=c_exprs q hq;have hex:=exprsQ_ok hq;have hel:=exprsQ_len hq;have hrl:=hq.rows;have hkl:=hq.kids;rw [ye] at hce ⊢;refine zn mixed ttok Tryz.func56 Tryz.ntmps56 Tryz.results56 ?_;generalize hr:num (wL q)=R;refine Zn ?_;refine zf [[0,0,0,0,0,0,0,0,0,6,6,7,1,1,15]] [] (hce) ?_;refine Zg ?_;generalize hE:yU q=E at *;refine zp mixed ttok 13 [1,11,12] [] Zv Zw E.length (fun _=>True) (fun n=>[(3,num (sizeL 1 (E.take n)))]) (fun _=>[(1,vQ q)]) trivial ?_ ?_
 ·exact Weak.keepL (by simp [cst,sizeL,ends]) (by simp [cst,vQ,ends]) (by simp [cst,ends])
 intro I hI n hn hi;refine Xm ?_;refine za (fun h=>?_) fun h=>?_
 ·have h':n<E.length:=Zp h;have hw:=zh h' Za;have ht:=um (E.getD n default) (E.take n) 1;rw [<-zw _ _ h'] at ht;refine ⟨Zt,?_⟩;refine zf [[0,0,0,0,0,6]] [] (c_size _ (hex _ (zm h'))) ?_;refine Zg ?_;exact zo hI n rfl h' trivial (ZC hw ht) (ZC hw ht) (ZC hw ht) (ZC hw ht)
 obtain rfl:n=E.length:=Zo h;clear hI;rw [Yl];generalize hs1:sizeL 1 E=s1;refine zp mixed ttok 25 [1,23,24] [] Zv Zw q.rows.length (fun _=>True) (fun n=>[(3,num (uR s1 (q.rows.take n)))]) (fun _=>[(1,vQ q)]) trivial ?_ ?_
 ·exact Weak.keepL (by simp [cst,uR,ends]) (by simp [cst,vQ,ends]) (by simp [cst,ends])
 intro I hI n hn hi;refine Xm ?_;refine za (fun h=>?_) fun h=>?_
 ·have h':n<q.rows.length:=Zp h;have hw:=zh h' Za;have ht:=gE (q.rows.getD n default) (q.rows.take n) s1;rw [<-zw _ _ h'] at ht;refine ⟨Zt,?_⟩;exact zo hI n rfl h' trivial (ZC hw ht) (ZC hw ht) (ZC hw ht) (ZC hw ht)
 obtain rfl:n=q.rows.length:=Zo h;clear hI;rw [Yl];generalize hs2:uR s1 q.rows=s2;refine zp mixed ttok 37 [1,35,36] [] Zv Zw q.kids.length (fun _=>True) (fun n=>[(3,num (sizeQs s2 (q.kids.take n)))]) (fun _=>[(1,vQ q)]) trivial ?_ ?_
 ·exact Ya (by simp [cst,sizeQs,ends]) Xn Zh
 intro I hI n hn hi;refine Xm ?_;refine za (fun h=>?_) fun h=>?_
 ·have h':n<q.kids.length:=Zp h;have hw:=zh h' Za;have ht:=qs (q.kids.getD n default) (q.kids.take n) s2;rw [<-zw _ _ h'] at ht;refine ⟨Zt,?_⟩;have hc:=ih _ (zm h') (ho.kid (zm h'));rw [ye] at hc;refine zf [[0,0,0,0,0,0,0,0,0,6,6,7,1,1,15]] [] (hc) ?_;refine Zg ?_;exact zo hI n rfl h' trivial (ZC hw ht) (ZC hw ht) (ZC hw ht) (ZC hw ht)
 obtain rfl:n=q.kids.length:=Zo h;exact zk trivial (by rw [<-hr,sizeQ_eq,Yl,hE,hs1,hs2];rfl) Zb
theorem c_qdepth: ∀q:Qr,OkQ q->ACall Tryz.prog 57 [aQ q] [] (num (yP q)) []:=
 uS (p:=fun q=>OkQ q->ACall Tryz.prog 57 [aQ q] [] (num (yP q)) []) fun q ih ho=>by
 have hq:=ho.one;have hkl:=hq.kids;rw [ye];refine zn mixed ttok Tryz.func57 Tryz.ntmps57 Tryz.results57 ?_;generalize hr:num (yP q)=R;refine Zn ?_;refine zp mixed ttok 9 [7,8] [] Zv Zw q.kids.length (fun _=>True) (fun n=>[(3,num (depthQs 0 (q.kids.take n)))]) (fun _=>[]) trivial ?_ ?_
 ·exact Ya (by simp [cst,depthQs,ends]) Xn Zh
 intro I hI n hn hi;refine Xm ?_;refine za (fun h=>?_) fun h=>?_
 ·have h':n<q.kids.length:=Zp h;have hw:=zh h' Za;have ht:=qj (q.kids.getD n default) (q.kids.take n) 0;rw [<-zw _ _ h'] at ht;refine ⟨Zt,?_⟩;have hc:=ih _ (zm h') (ho.kid (zm h'));rw [ye] at hc;refine zf [[0,0,0,0,0,0,0,0,0,6,6,7,1,1,15]] [] (hc) ?_;refine Zg ?_;exact zo hI n rfl h' trivial (Z3 hw ht) (Z3 hw ht) (Z3 hw ht) (Z3 hw ht)
 obtain rfl:n=q.kids.length:=Zo h;exact zk trivial (by rw [<-hr,depthQ_eq,Yl];rfl) Zb
def fmAt (op:Int):FmD:=fmTab.getD op.toNat default
def isFm (op:Int):Bool:=decide (1<=op)&&decide (op<=10)
def yt (op:Int):FmD:=if isFm op then fmAt op else default
def aFm (o:FmD):A:= .agg [.d (.lit (.string o.word)),.d (.lit (.int .i64 o.kids)),.d (.lit (.string o.uses))]
theorem fmRow_at: ∀n:Nat,n<11->(List.map A.d fmRow)[n * 3]? =some (.d (.lit (.string (fmTab.getD n default).word)))/\((List.map A.d fmRow).drop (n * 3)).take 3=[.d (.lit (.string (fmTab.getD n default).word)),.d (.lit (.int .i64 (fmTab.getD n default).kids)),.d (.lit (.string (fmTab.getD n default).uses))]:=by
 intro n hn
 match n,hn with
 | 0,_=>exact ⟨rfl,rfl⟩
 | 1,_=>exact ⟨rfl,rfl⟩
 | 2,_=>exact ⟨rfl,rfl⟩
 | 3,_=>exact ⟨rfl,rfl⟩
 | 4,_=>exact ⟨rfl,rfl⟩
 | 5,_=>exact ⟨rfl,rfl⟩
 | 6,_=>exact ⟨rfl,rfl⟩
 | 7,_=>exact ⟨rfl,rfl⟩
 | 8,_=>exact ⟨rfl,rfl⟩
 | 9,_=>exact ⟨rfl,rfl⟩
 | 10,_=>exact ⟨rfl,rfl⟩
 | n+11,h=>omega
theorem fm_some: ∀n:Nat,1<=n->n<11->((fmTab.getD n default).word.toList==[])=false:=by
 have h:(List.range 11).all (fun n=>decide (n=0) || !(fmTab.getD n default).word.data.toList.isEmpty)=true:=Zi;intro n h1 h2;have:=all_range.1 h n h2;rw [YO Za,Yx] at this;rw [YM];cases hw:(fmTab.getD n default).word.data.toList with
 | nil=>rw [hw] at this;cases this
 | cons _ _=>rfl
theorem c_form (op:Int):ACall Tryz.prog 96 [num op] [] (.tup [aFm (yt op),boo (isFm op)]) []:=by
 refine zn mixed ttok Tryz.func96 Tryz.ntmps96 Tryz.results96 ?_;generalize hr:A.tup [aFm (yt op),boo (isFm op)]=R;have he:(ByteArray.mk #[]).toList=[]:=ZX;have hlen:(List.map A.d fmRow).length=33:=rfl;by_cases ho:0<=op/\op<11
 ·obtain ⟨h0,h29⟩:=ho;obtain ⟨h1,h3⟩:=fmRow_at op.toNat Za;simp -implicitDefEqProofs only [argT,tabFm,he,h1,h3,↓zb,push_cast,simprocAttr,tt];refine za (fun h=>absurd h Zs) fun _=>za (fun h=>absurd h Zs) fun _=>?_;refine ⟨⟨h0,Za⟩,?_⟩;subst hr;by_cases hz:op=0
  ·subst hz;have hw:((fmTab.getD (0:Int).toNat default).word.toList==[])=true:=by rw [YM];rfl
   refine za (fun _=>?_) fun h=>absurd h (Z0 hw);refine zt [[0,0,0],[0]] rfl Zd Zk ?_ Zl Zb Zb;rfl
  ·have hw:((fmTab.getD op.toNat default).word.toList==[])=false:=fm_some op.toNat Za Za;refine za (fun h=>absurd h (Z0 hw)) fun _=>?_;have hy:isFm op=true:=by rw [isFm,YN (by omega),YN (by omega)];rfl
   refine ⟨⟨h0,Za⟩,Z4 hlen,?_⟩;rw [yt,hy];refine zt [[0,0,0],[0]] rfl Zd Zk ?_ Zl Zb Zb;rfl
 ·have hn:isFm op=false:=by
   rw [isFm,U2,Ye,Ye];omega
  simp -implicitDefEqProofs only [argT,tabFm,he,↓zb,push_cast,simprocAttr,tt];have hf:A.tup [aFm default,boo false]=R:=by rw [<-hr,yt,hn];rfl
  subst hf;refine za (fun g=>?_) fun g=>?_
  ·refine zt [[0,0,0],[0]] rfl Zd Zk ?_ Zl Zb Zb;rfl
  ·refine za (fun _=>?_) fun h=>absurd h (by simp at g;simp;omega);refine zt [[0,0,0],[0]] rfl Zd Zk ?_ Zl Zb Zb;rfl
theorem c_eqE0 (l:List Ex) (hl:l.length<=1000):ACall Tryz.prog 196 [.d (.sl 6 (zd rE l)),.d (.sl 6 (zd rE [])),.clo 159 []] [] (boo (l.length==0)) []:=by
 refine zn mixed ttok Tryz.func196 Tryz.ntmps196 Tryz.results196 ?_;generalize hr:boo (l.length==0)=R;refine Zn ?_;have hz: ∀K σ,wp Tryz.prog K σ=wp Tryz.prog K σ:=fun _ _=>rfl;refine za (fun h0=>?_) fun h0=>?_
 ·have h1: ¬l.length=0:=Zc h0;exact zk trivial (Zq hr (beq_false_of_ne h1)) Zb
 have h1:l.length=0:=Zc h0;rw [h1];refine zp mixed ttok 17 [15,16] [] Zv Zw 0 (fun _=>True) (fun _=>[]) (fun _=>[]) trivial ?_ ?_
 ·exact Ya Zh Zh Zh
 intro I hI n hn hi;obtain rfl:n=0:=Za;refine Zy ?_;exact zk trivial (Zq hr h1) Zb
def e0:Ex:= .mk 0 0 0 ByteArray.empty 0 []
theorem aE_e0:aE e0= .agg [num 0,num 0,num 0,str ByteArray.empty,num 0,.d (.sl 6 (zd rE []))]:=by rw [yE];rfl
def ju (e:Ex):Bool:=((((e.op==0&&e.type==0)&&e.num==0)&&e.text.toList==[])&&e.col==0)&&(e.kids.length==0)
theorem c_same0 (e:Ex) (hl:e.kids.length≤1000):ACall Tryz.prog 159 [aE e,aE e0] [] (boo (ju e)) []:=by
 have hc:=c_eqE0 e.kids hl;rw [yE,aE_e0];refine zn mixed ttok Tryz.func159 Tryz.ntmps159 Tryz.results159 ?_;generalize hr:boo (ju e)=R;have he:ByteArray.empty.toList=[]:=ZX;refine ZN he ?_;unfold ju at hr;refine za (fun h1=>?_) fun h1=>?_
 ·refine za (fun h2=>?_) fun h2=>?_
  ·refine za (fun h3=>?_) fun h3=>?_
   ·refine za (fun h4=>?_) fun h4=>?_
    ·refine za (fun h5=>?_) fun h5=>?_
     ·refine zf [[6],[6],[]] [] (hc) ?_;refine Zg ?_;exact zk trivial (by rw [<-hr];simp only [h1,h2,h3,h4,h5,Yj];rfl) Zb
     ·exact zk trivial (by rw [<-hr];simp only [h1,h2,h3,h4,h5,Yj,Yk];rfl) Zb
    ·exact zk trivial (by rw [<-hr];simp only [h1,h2,h3,h4,Yj,Yk];rfl) Zb
   ·exact zk trivial (by rw [<-hr];simp only [h1,h2,h3,Yj,Yk];rfl) Zb
  ·exact zk trivial (by rw [<-hr];simp only [h1,h2,Yj,Yk];rfl) Zb
 ·exact zk trivial (by rw [<-hr];simp only [h1,Yk];rfl) Zb
theorem ap0:Apart (.string ⟨#[116,97,98,108,101]⟩) uK=True:=eq_true (uG _)
theorem ap1 (v0:Value):Apart (.string ⟨#[107,105,110,100]⟩) (bput uK (.string ⟨#[116,97,98,108,101]⟩) v0)=True:=eq_true (zT rfl (uG _))
theorem ap2 (v0 v1:Value):Apart (.string ⟨#[97,108,108]⟩) (bput (bput uK (.string ⟨#[116,97,98,108,101]⟩) v0) (.string ⟨#[107,105,110,100]⟩) v1)=True:=eq_true (zT rfl (zT rfl (uG _)))
theorem ap3 (v0 v1 v2:Value):Apart (.string ⟨#[99,111,110,100]⟩) (bput (bput (bput uK (.string ⟨#[116,97,98,108,101]⟩) v0) (.string ⟨#[107,105,110,100]⟩) v1) (.string ⟨#[97,108,108]⟩) v2)=True:=eq_true (zT rfl (zT rfl (zT rfl (uG _))))
theorem ap4 (v0 v1 v2 v3:Value):Apart (.string ⟨#[101,120,112,114,115]⟩) (bput (bput (bput (bput uK (.string ⟨#[116,97,98,108,101]⟩) v0) (.string ⟨#[107,105,110,100]⟩) v1) (.string ⟨#[97,108,108]⟩) v2) (.string ⟨#[99,111,110,100]⟩) v3)=True:=eq_true (zT rfl (zT rfl (zT rfl (zT rfl (uG _)))))
theorem ap5 (v0 v1 v2 v3 v4:Value):Apart (.string ⟨#[97,103,103,115]⟩) (bput (bput (bput (bput (bput uK (.string ⟨#[116,97,98,108,101]⟩) v0) (.string ⟨#[107,105,110,100]⟩) v1) (.string ⟨#[97,108,108]⟩) v2) (.string ⟨#[99,111,110,100]⟩) v3) (.string ⟨#[101,120,112,114,115]⟩) v4)=True:=eq_true (zT rfl (zT rfl (zT rfl (zT rfl (zT rfl (uG _))))))
theorem ap6 (v0 v1 v2 v3 v4 v5:Value):Apart (.string ⟨#[116,121,112,101,115]⟩) (bput (bput (bput (bput (bput (bput uK (.string ⟨#[116,97,98,108,101]⟩) v0) (.string ⟨#[107,105,110,100]⟩) v1) (.string ⟨#[97,108,108]⟩) v2) (.string ⟨#[99,111,110,100]⟩) v3) (.string ⟨#[101,120,112,114,115]⟩) v4) (.string ⟨#[97,103,103,115]⟩) v5)=True:=eq_true (zT rfl (zT rfl (zT rfl (zT rfl (zT rfl (zT rfl (uG _)))))))
theorem ap7 (v0 v1 v2 v3 v4 v5 v6:Value):Apart (.string ⟨#[114,111,119,115]⟩) (bput (bput (bput (bput (bput (bput (bput uK (.string ⟨#[116,97,98,108,101]⟩) v0) (.string ⟨#[107,105,110,100]⟩) v1) (.string ⟨#[97,108,108]⟩) v2) (.string ⟨#[99,111,110,100]⟩) v3) (.string ⟨#[101,120,112,114,115]⟩) v4) (.string ⟨#[97,103,103,115]⟩) v5) (.string ⟨#[116,121,112,101,115]⟩) v6)=True:=eq_true (zT rfl (zT rfl (zT rfl (zT rfl (zT rfl (zT rfl (zT rfl (uG _))))))))
def vV (q:Qr):List (ByteArray×Bool):=[(⟨#[116,97,98,108,101]⟩, !q.table.toList==[]),(⟨#[107,105,110,100]⟩,q.kind !=0),(⟨#[97,108,108]⟩,q.all),(⟨#[99,111,110,100]⟩, !ju q.cond),(⟨#[101,120,112,114,115]⟩,decide ((q.exprs.length:Int)>0)),(⟨#[97,103,103,115]⟩,decide ((q.aggs.length:Int)>0)),(⟨#[116,121,112,101,115]⟩,decide ((q.types.length:Int)>0)),(⟨#[114,111,119,115]⟩,decide ((q.rows.length:Int)>0))]
def kf (b:ByteArray):ByteArray:=⟨#[32]⟩++b++⟨#[32]⟩
def badU (o:FmD) (p:ByteArray×Bool):Bool:=p.2&& !(Lib.contains (kf o.uses).data.toList (kf p.1).data.toList)
def wY (q:Qr) (o:FmD):Bool:=(vV q).all fun p=> !badU o p
def bagQ (q:Qr):Value->Option Value:=bput (bput (bput (bput (bput (bput (bput (bput (uK) (.string ⟨#[116,97,98,108,101]⟩) (.bool ((vV q).getD 0 default).2)) (.string ⟨#[107,105,110,100]⟩) (.bool ((vV q).getD 1 default).2)) (.string ⟨#[97,108,108]⟩) (.bool ((vV q).getD 2 default).2)) (.string ⟨#[99,111,110,100]⟩) (.bool ((vV q).getD 3 default).2)) (.string ⟨#[101,120,112,114,115]⟩) (.bool ((vV q).getD 4 default).2)) (.string ⟨#[97,103,103,115]⟩) (.bool ((vV q).getD 5 default).2)) (.string ⟨#[116,121,112,101,115]⟩) (.bool ((vV q).getD 6 default).2)) (.string ⟨#[114,111,119,115]⟩) (.bool ((vV q).getD 7 default).2)
theorem vR {S:Value->Option Value} {k v x y:Value} (h:bput S k v x=some y):(x,y)=(k,v)\/S x=some y:=by
 unfold bput at h
 split at h
 ·rename_i e;cases h;rw [jt e];exact .inl rfl
 ·exact .inr h
theorem bag_uses {q:Qr} {x y:Value} (h:bagQ q x=some y): ∃p∈vV q,(x,y)=(.string p.1,.bool p.2):=by
 have key: ∀i,i<8->(x,y)=(.string ((vV q).getD i default).1,.bool ((vV q).getD i default).2)-> ∃p∈vV q,(x,y)=(.string p.1,.bool p.2):=fun i hi e=>⟨_,zm (show i<(vV q).length from hi),e⟩
 unfold bagQ at h;rcases vR h with h | h
 ·exact key 7 Za h
 rcases vR h with h | h
 ·exact key 6 Za h
 rcases vR h with h | h
 ·exact key 5 Za h
 rcases vR h with h | h
 ·exact key 4 Za h
 rcases vR h with h | h
 ·exact key 3 Za h
 rcases vR h with h | h
 ·exact key 2 Za h
 rcases vR h with h | h
 ·exact key 1 Za h
 rcases vR h with h | h
 ·exact key 0 Za h
 cases h
theorem uses_bag {q:Qr} {p:ByteArray×Bool} (h:p∈vV q):bagQ q (.string p.1)=some (.bool p.2):=by
 simp only [vV,YJ,List.not_mem_nil,or_false] at h;rcases h with rfl | rfl | rfl | rfl | rfl | rfl | rfl | rfl<;>rfl
theorem uses_size {q:Qr} {p:ByteArray×Bool} (h:p∈vV q):p.1.size<=5:=by
 simp only [vV,YJ,List.not_mem_nil,or_false] at h;rcases h with rfl | rfl | rfl | rfl | rfl | rfl | rfl | rfl<;>exact Nat.le_of_ble_eq_true rfl
theorem nodup_lt: ∀(n:Nat) (l:List Nat),l.Nodup→(∀i∈l,i<n)→l.length≤n
 | 0,[],_,_=>Yt _
 | 0,x::l,_,h=>by have:=h x Zd;omega
 | n+1,l,hd,h=>by
   by_cases hn:n∈l
   ·have:=nodup_lt n (l.erase n) (hd.erase n) fun i hi=>by
     have h1:=h i (List.mem_of_mem_erase hi);have h2:i≠n:=fun e=>by subst e;exact (List.Nodup.not_mem_erase hd) hi
     omega
    rw [List.length_erase_of_mem hn] at this;omega
   ·have:=nodup_lt n l hd fun i hi=>by
     have h1:=h i hi;have h2:i≠n:=fun e=>hn (e ▸ hi);omega
    omega
def badE (o:FmD):Value×Value->Bool
 | (.string a,.bool b)=>badU o (a,b)
 | _=>false
def okSn (o:FmD) (es:List (Value×Value)) (sn:List Nat):Prop:=sn.Nodup/\ ∀i∈sn,∃p,es[i]? =some p/\badE o p=false
theorem okSn.few {o:FmD} {es:List (Value×Value)} {sn:List Nat} (h:okSn o es sn):sn.length<=es.length:=
 nodup_lt _ _ h.1 fun i hi=>by
  obtain ⟨p,hp,_⟩:=h.2 i hi;exact (List.getElem?_eq_some_iff.1 hp).1
theorem okSn.add {o:FmD} {es:List (Value×Value)} {sn:List Nat} (h:okSn o es sn) {i:Nat} {p:Value×Value} (hi:i ∉ sn) (hp:es[i]? =some p) (hb:badE o p=false):okSn o es (sn++[i]):=by
 refine ⟨List.nodup_append.2 ⟨h.1,Zd,fun a ha b hb e=>?_⟩,fun j hj=>?_⟩
 ·simp at hb;subst hb;subst e;exact hi ha
 ·rcases Yz.1 hj with hj | hj
  ·exact h.2 j hj
  ·simp at hj;subst hj;exact ⟨p,hp,hb⟩
theorem XO {p q:Prop} (h:q) (e:p=q:=by conv=>lhs;simp -implicitDefEqProofs only [setT,↓zb,push_cast,simprocAttr,tt]):p:=(e).mpr h
theorem c_qclean (q:Qr) (o:FmD) (hq:OkQ1 q) (ho:o.uses.size≤1000):ACall Tryz.prog 97 [aQ q,aFm o] [] (boo (wY q o)) []:=by
 have hcl:=hq.cond;have hc:=c_same0 q.cond (Y3 hcl.kids Za);rw [yE,aE_e0] at hc;rw [ye];refine zn mixed ttok Tryz.func97 Tryz.ntmps97 Tryz.results97 ?_;generalize hr:boo (wY q o)=R;have he:(ByteArray.mk #[]).toList=[]:=ZX;simp -implicitDefEqProofs only [argT,aFm,he,ap0,ap1,ap2,ap3,ap4,ap5,ap6,ap7,↓zb,push_cast,simprocAttr,tt];refine zf [[0,0,0,0,0,6],[0,0,0,0,0,6]] [] (hc) ?_;simp -implicitDefEqProofs only [ap0,ap1,ap2,ap3,ap4,ap5,ap6,ap7,↓zb,push_cast,simprocAttr,tt];refine ⟨ze Zf,?_⟩;refine bag_open (q:=7) (io:=38) (S:=bagQ q) (n:=8) rfl rfl fun es stm hbl hes=>?_;refine zz mixed ttok (fun sn:List Nat=>(⟨[(38,.xo false 38),(3,.ptr 3 0)],[(38,.x (.mi stm 8 sn) [.mp 7]),(7,.mp es (some (stm,8))),(3,.var [.d (.lit (.string o.word)),.d (.lit (.int .i64 o.kids)),.d (.lit (.string o.uses))])]⟩:SL)) (fun sn=>es.length-sn.length) (okSn o es) [] ⟨List.nodup_nil,fun _ h=>by cases h⟩ ?_ ?_
 ·exact Ya Zb Zb Zb
 intro I hI sn hi;refine Zg ?_;refine map_next (io:=38) (om:=7) rfl rfl (fun i k v hik hin=>?_) (fun hall=>?_)
 ·have hlt:sn.length<es.length:=by
   have h1:=(okSn.few (o:=o) (es:=es) (sn:=sn) hi)
   rcases YK sn.length es.length with h2 | h2
   ·exact h2
   ·exfalso;have h3:=nodup_lt es.length (sn++[i]) (List.nodup_append.2 ⟨hi.1,Zd,fun a ha b hb e=>by simp at hb;subst hb;subst e;exact hin ha⟩) fun j hj=>by
     rcases Yz.1 hj with hj | hj
     ·obtain ⟨p,hp,_⟩:=hi.2 j hj;exact (List.getElem?_eq_some_iff.1 hp).1
     ·simp at hj;subst hj;exact (List.getElem?_eq_some_iff.1 hik).1
    simp at h3;omega
  refine XO ?_;refine map_entry (io:=38) (om:=7) rfl rfl hik ?_;obtain ⟨p,hp,hkv⟩:=bag_uses ((hes k v).1 (List.mem_of_getElem? hik));cases hkv;refine XO ?_;have hps:=uses_size hp;have h32:(ByteArray.mk #[32]).size=1:=rfl;refine za (fun g=>?_) fun g=>?_
  ·simp only [ByteArray.size_append,h32];refine ⟨Za,Za,Za,Za,?_⟩;have hcc:=c_contains (kf o.uses) (kf p.1) (by simp only [kf,ByteArray.size_append,h32];omega);simp only [kf] at hcc;refine zf [[0],[0]] [] (hcc) ?_;refine Zg ?_;refine za (fun g2=>?_) fun g2=>?_
   ·have hb:badU o p=true:=by simp only [badU,kf,g,Yj];simpa using g2
    have hcf:wY q o=false:=by
     cases hcq:wY q o with
     | false=>rfl
     | true=>
       have:=YT.1 hcq p hp;rw [hb] at this;cases this
    exact zk trivial (Zq hr hcf) Zb
   ·have hb:badU o p=false:=by simp only [badU,kf,g,Yj];simpa using g2
    exact zi hI (sn++[i]) (okSn.add hi hin hik hb) (by simp only [Yd,Y6,Uy];omega) (Ya Zb Zb Zb)
  ·have hb:badU o p=false:=by simp only [badU,g,Yk]
   exact zi hI (sn++[i]) (okSn.add hi hin hik hb) (by simp only [Yd,Y6,Uy];omega) (Ya Zb Zb Zb)
 ·refine XO ?_;have hct:wY q o=true:=by
   refine YT.2 fun p hp=>?_;obtain ⟨i,hil,hie⟩:=Ur ((hes _ _).2 (uses_bag hp));obtain ⟨p',hp',hb⟩:=hi.2 i (hall i hil);rw [List.getElem?_eq_getElem hil,hie] at hp';cases hp';have hb':badU o p=false:=hb;rw [hb'];rfl
  exact zk trivial (Zq hr hct) Zb
end
section
attribute [local simp, local push_cast] Wq yF xZ xD zL
def z6 (p:List Int×Int):A:= .tup [ints p.1,num p.2]
attribute [local simp, local push_cast] z6
def vN (ts:List Int) (e:Ex):Int:=if (zU (ownM ts) e).2=0/\(zU (ownM ts) e).1≠2 then 4 else (zU (ownM ts) e).2
theorem c_cond (ts:List Int) (e:Ex) (hts:ts.length<=1000000) (ho:Ok12 e):ACall Tryz.prog 101 [ints ts,aE e] [] (num (vN ts e)) []:=by
 have hc:=c_type ts Za e ho;rw [yE] at hc ⊢;refine zn mixed ttok Tryz.func101 Tryz.ntmps101 Tryz.results101 ?_;generalize hr:num (vN ts e)=R;unfold vN at hr;refine Zn ?_;refine zf [[1],[0,0,0,0,0,6]] [] (hc) ?_;generalize zU (ownM ts) e=p at hr ⊢;refine ZU ?_;refine za (fun h1=>?_) fun h1=>?_
 ·have h1':p.2=0:=Zc h1;refine za (fun h2=>?_) fun h2=>?_
  ·have h2':p.1≠2:=by simpa using h2
   exact zk trivial (by rw [<-hr,if_pos ⟨h1',h2'⟩];rfl) (by simp [ends])
  ·have h2': ¬p.1≠2:=by simpa using h2
   exact zk trivial (by rw [<-hr,if_neg (fun h=>h2' h.2)];rfl) (by simp [ends])
 ·have h1': ¬p.2=0:=by simpa using h1
  exact zk trivial (by rw [<-hr,if_neg (fun h=>h1' h.1)];rfl) (by simp [ends])
def vm {α:Type} (f:α->Int×Int) (l:List α):List Int×Int:=if ferr (fun e=>(f e).2) l=0 then (l.map fun e=>(f e).1,0) else ([],ferr (fun e=>(f e).2) l)
theorem gc {α:Type} [Inhabited α] (f:α->Int×Int) (l:List α) (n:Nat) (h':n<l.length) (hi: ∀i,i<n->(f (l.getD i default)).2=0) (g:(f (l.getD n default)).2≠0):vm f l=([],(f (l.getD n default)).2):=by
 have:=xK (fun e=>(f e).2) l n h' hi g;rw [vm,this,if_neg g]
theorem un {α:Type} [Inhabited α] (f:α->Int×Int) (l:List α) (hi: ∀i,i<l.length->(f (l.getD i default)).2=0):vm f l=(l.map fun e=>(f e).1,0):=by
 have:=yJ (fun e=>(f e).2) l hi;rw [vm,this,if_pos rfl]
theorem xU {α β:Type} [Inhabited α] (f:α->β) (l:List α) (n:Nat) (h:n<l.length):(l.take (n+1)).map f=(l.take n).map f++[f (l.getD n default)]:=by
 rw [zw _ _ h,YC];rfl
def xQ (ts:List Int) (l:List Ex):List Int×Int:=vm (zU (ownM ts)) l
theorem ZS {p P0 P1 P2 P3:Prop} (zf_:P0) (zg_:P1) (zh_:P2) (zi_:P3) (h:P0->P1->P2->P3->p:=by intro zf_ zg_ zh_ zi_;simp [zf_,zg_,zh_,zi_,zg,ends]):p:=h zf_ zg_ zh_ zi_
theorem Xp {p:Prop} (h:p:=by rw [Y2,Yh];omega):p:=h
theorem c_cols (ts:List Int) (l:List Ex) (hts:ts.length<=1000000) (hl:l.length<=1000) (ho: ∀e∈l,Ok12 e):ACall Tryz.prog 102 [ints ts,.d (.sl 6 (zd rE l))] [] (z6 (xQ ts l)) []:=by
 refine zn mixed ttok Tryz.func102 Tryz.ntmps102 Tryz.results102 ?_;generalize hr:z6 (xQ ts l)=R;unfold xQ at hr;refine Zn ?_;refine zp mixed ttok 13 [0,11,12] [] Zv Zw l.length (fun n=> ∀i,i<n->(zU (ownM ts) (l.getD i default)).2=0) (fun n=>[(6,.vec 500 n)]) (fun n=>[(500,.vec 3 1 (zd rI ((l.take n).map fun e=>(zU (ownM ts) e).1)) 0)]) (fun i h=>absurd h (Yu _)) ?_ ?_
 ·exact (YV 6 500 3 1 rfl rfl).trans (Ya Zh Zh Zh)
 intro I hI n hn hi;have hl2:((l.take n).map fun e=>(zU (ownM ts) e).1).length=n:=Xp;refine Zy ?_;refine za (fun h=>?_) fun h=>?_
 ·have h':n<l.length:=Zp h;have hw:=zh h' Za;have hs:=xU (fun e=>(zU (ownM ts) e).1) l n h';refine ⟨Zt,?_⟩;refine zf [[1],[0,0,0,0,0,6]] [] (c_type ts Za _ (ho _ (zm h'))) ?_;refine ZU ?_;refine za (fun g=>?_) fun g=>?_
  ·have g':(zU (ownM ts) (l.getD n default)).2≠0:=Zc g;rw [<-hr,gc _ _ n h' hi g',z6];refine zt [[1],[0]] rfl Zd Zk ?_ Zl Zb Zb;rfl
  ·have g':(zU (ownM ts) (l.getD n default)).2=0:=Zc g;refine ⟨⟨hl2.symm,Z4 hl2⟩,?_⟩;exact zo hI n rfl h' (fun i h2=>if h3:i=n then by rw [h3];exact g' else hi i Za) (ZS hw hs hl2 (Yr hn)) (ZS hw hs hl2 (Yr hn)) (ZS hw hs hl2 (Yr hn)) (ZS hw hs hl2 (Yr hn))
 obtain rfl:n=l.length:=Zo h;rw [<-hr,un _ _ hi,Yl,z6];refine zt [[1],[0]] rfl Zd Zk ?_ Zl Zb Zb;rfl
def xr (ts:List Int) (a:Agg):Int×Int:=
 if a.fn<1\/a.fn>6\/(a.fn=1/\ju a.arg=false) then (0,1)
 else if a.fn=1 then (1,0)
 else if (zU (ownM ts) a.arg).2≠0 then (0,(zU (ownM ts) a.arg).2)
 else if a.fn=5\/a.fn=6 then ((zU (ownM ts) a.arg).1,0)
 else if a.fn=4/\(zU (ownM ts) a.arg).1≠1 then (0,4) else (1,0)
def aAgg (a:Agg):A:= .agg [.d (.lit (.int .i64 a.fn)),.d (.lit (.int .i64 a.arg.op)),.d (.lit (.int .i64 a.arg.type)),.d (.lit (.int .i64 a.arg.num)),.d (.lit (.string a.arg.text)),.d (.lit (.int .i64 a.arg.col)),.d (.sl 6 (zd rE a.arg.kids))]
theorem c_aggT (ts:List Int) (a:Agg) (hts:ts.length≤1000000) (ho:Ok12 a.arg):ACall Tryz.prog 163 [ints ts,aAgg a] [] (zL (xr ts a)) []:=by
 have hc:=c_type ts Za a.arg ho;have hs:=c_same0 a.arg (Y3 ho.kids Za);rw [yE] at hc hs;rw [aE_e0] at hs;refine zn mixed ttok Tryz.func163 Tryz.ntmps163 Tryz.results163 ?_;generalize hr:zL (xr ts a)=R;unfold xr at hr;simp -implicitDefEqProofs only [argT,aAgg,↓zb,push_cast,simprocAttr,tt];refine za (fun k1=>?_) fun k1=>?_
 ·exact zK trivial (by rw [<-hr,if_pos (.inl (of_decide_eq_true k1))];rfl) (by simp [ends])
 refine za (fun k2=>?_) fun k2=>?_
 ·exact zK trivial (by rw [<-hr,if_pos (.inr (.inl (of_decide_eq_true k2)))];rfl) (by simp [ends])
 have k1':=Yb k1;have k2':=Yb k2;refine za (fun k3=>?_) fun k3=>?_
 ·have k3':a.fn=1:=Zc k3;refine zf [[0,0,0,0,0,6],[0,0,0,0,0,6]] [] (hs) ?_;refine Zx k3 ?_;refine za (fun k4=>?_) fun k4=>?_
  ·have k4':ju a.arg=false:=by simpa using k4
   exact zK trivial (by rw [<-hr,if_pos (.inr (.inr ⟨k3',k4'⟩))];rfl) (by simp [ends])
  ·have k4': ¬ju a.arg=false:=by simpa using k4
   exact zK trivial (by rw [<-hr,if_neg (fun h=>h.elim k1' fun h=>h.elim k2' fun h=>k4' h.2),if_pos k3'];rfl) (by simp [ends])
 ·have k3': ¬a.fn=1:=Zc k3;refine Zx k3 ?_;refine zf [[1],[0,0,0,0,0,6]] [] (hc) ?_;rw [if_neg (fun h=>h.elim k1' fun h=>h.elim k2' fun h=>k3' h.1),if_neg k3'] at hr;generalize zU (ownM ts) a.arg=p at hr ⊢;refine ZU ?_;refine za (fun k5=>?_) fun k5=>?_
  ·have k5':p.2≠0:=Zc k5;exact zK trivial (Zq hr (if_pos k5')) Zb
  have k5': ¬p.2≠0:=Zc k5;rw [if_neg k5'] at hr;refine za (fun k6=>?_) fun k6=>?_
  ·have k6':a.fn=5:=by simpa using k6
   exact zK trivial (by rw [<-hr,if_pos (.inl k6')];rfl) (by simp [ends])
  have k6': ¬a.fn=5:=Zc k6;refine za (fun k7=>?_) fun k7=>?_
  ·have k7':a.fn=6:=by simpa using k7
   exact zK trivial (by rw [<-hr,if_pos (.inr k7')];rfl) (by simp [ends])
  have k7': ¬a.fn=6:=Zc k7;rw [if_neg (fun h=>h.elim k6' k7')] at hr;refine za (fun k8=>?_) fun k8=>?_
  ·have k8':a.fn=4:=Zc k8;refine za (fun k9=>?_) fun k9=>?_
   ·have k9':p.1≠1:=by simpa using k9
    exact zK trivial (by rw [<-hr,if_pos ⟨k8',k9'⟩];rfl) (by simp [ends])
   ·have k9': ¬p.1≠1:=by simpa using k9
    exact zK trivial (by rw [<-hr,if_neg (fun h=>k9' h.2)];rfl) (by simp [ends])
  ·have k8': ¬a.fn=4:=by simpa using k8
   exact zK trivial (by rw [<-hr,if_neg (fun h=>k8' h.1)];rfl) (by simp [ends])
def vl (ts:List Int) (r:List Val) (i:Nat):Bool:= !zJ (r.getD i default) || ((r.getD i default).kind !=0&&(r.getD i default).kind !=ts.getD i default)
def xh (ts:List Int) (r:List Val):Int:=if r.length≠ts.length then 9 else if (List.range r.length).any (vl ts r) then 4 else 0
def xg (q:Qr):Int:=if q.types.length=0\/q.types.length>24\/q.types.any (fun t=> !yW t)=true then 4 else ferr (xh q.types) q.rows
theorem c_vals1 (k:Int):ACall Tryz.prog 161 [num k] [] (boo (!yW k)) []:=by
 refine zn mixed ttok Tryz.func161 Tryz.ntmps161 Tryz.results161 ?_;generalize hr:boo (!yW k)=R;unfold yW at hr;refine Zn ?_;refine za (fun h1=>?_) fun h1=>?_
 ·refine za (fun h2=>?_) fun h2=>?_
  ·have e1:(k==1)=false:=by simpa [bne] using h1
   have e2:(k==2)=false:=by simpa [bne] using h2
   exact zk trivial (by rw [<-hr,e1,e2];rfl) (by simp [ends])
  ·have e2:(k==2)=true:=by simpa [bne] using h2
   exact zk trivial (by rw [<-hr,e2,Bool.or_true,Bool.true_or];rfl) (by simp [ends])
 ·have e1:(k==1)=true:=by simpa [bne] using h1
  exact zk trivial (by rw [<-hr,e1,Bool.true_or,Bool.true_or];rfl) (by simp [ends])
theorem c_idxT1 (l:List Int) (hl:l.length<=1000000):
 ACall Tryz.prog 197 [ints l,.clo 161 []] [] (num (fidx (fun t=> !yW t) l)) []:=by
 refine zn mixed ttok Tryz.func197 Tryz.ntmps197 Tryz.results197 ?_;generalize hr:num (fidx (fun t=> !yW t) l)=R;refine Zn ?_;refine zp mixed ttok 8 [0,1,6,7] [] Zv Zw l.length (fun n=> ∀i,i<n->(!yW (l.getD i default))=false) (fun _=>[]) (fun _=>[]) (fun i h=>absurd h (Yu _)) ?_ ?_
 ·exact Ya Zh Zh Zh
 intro I hI n hn hi;refine Zy ?_;refine za (fun h=>?_) fun h=>?_
 ·have h':n<l.length:=Zp h;have hw:=zh h' Za;refine ⟨Zt,?_⟩;refine zf [[0]] [] (c_vals1 (l.getD n default)) ?_;refine Zg ?_;refine za (fun g=>?_) fun g=>?_
  ·refine zu [0] rfl Zd Zk ?_ Zl Zb Zb;rw [<-hr,vj _ l n h' hi g];rfl
  ·exact zo hI n rfl h' (fun i h2=>if h3:i=n then by rw [h3];exact g else hi i Za) (Ze hw) (Ze hw) (Ze hw) (Ze hw)
 ·obtain rfl:n=l.length:=Zo h;refine zu [0] rfl Zd Zk ?_ Zl Zb Zb;rw [<-hr,x6 _ l hi];rfl
theorem c_anyT1 (l:List Int) (hl:l.length<=1000000):ACall Tryz.prog 160 [ints l,.clo 161 []] [] (boo (l.any fun t=> !yW t)) []:=by
 refine zn mixed ttok Tryz.func160 Tryz.ntmps160 Tryz.results160 ?_;generalize hr:boo (l.any fun t=> !yW t)=R;refine Zn ?_;refine zf [[1],[]] [] (c_idxT1 l hl) ?_;refine Zg ?_;refine zu [0] rfl Zd Zk ?_ Zl Zb Zb;rw [<-hr,<-any_fidx];rfl
theorem Xc {p P0:Prop} (zf_:P0) (h:P0->p:=by intro zf_;simp [zf_,vQ,ends]):p:=h zf_
theorem c_values (q:Qr) (hq:OkQ1 q):ACall Tryz.prog 99 [aQ q] [] (num (xg q)) []:=by
 have htl:=hq.types;have hrl:=hq.rows;rw [ye];refine zn mixed ttok Tryz.func99 Tryz.ntmps99 Tryz.results99 ?_;generalize hr:num (xg q)=R;unfold xg at hr;refine Zn ?_;refine za (fun k1=>?_) fun k1=>?_
 ·have k1':q.types.length=0:=by simpa using k1
  exact zk trivial (by rw [<-hr,if_pos (.inl k1')];rfl) (by simp [ends])
 have k1': ¬q.types.length=0:=Zc k1;refine za (fun k2=>?_) fun k2=>?_
 ·have k2':q.types.length>24:=by have:=of_decide_eq_true k2;omega
  exact zk trivial (by rw [<-hr,if_pos (.inr (.inl k2'))];rfl) (by simp [ends])
 have k2': ¬q.types.length>24:=Zo k2;refine zf [[1],[]] [] (c_anyT1 q.types Za) ?_;refine Zg ?_;refine za (fun k3=>?_) fun k3=>?_
 ·exact zk trivial (by rw [<-hr,if_pos (.inr (.inr k3))];rfl) (by simp [ends])
 rw [if_neg (fun h=>h.elim k1' fun h=>h.elim k2' fun h=>by rw [k3] at h;cases h)] at hr;refine zp mixed ttok 25 [1,23,24] [] Zv Zw q.rows.length (fun n=> ∀i,i<n->xh q.types (q.rows.getD i default)=0) (fun _=>[]) (fun _=>[(1,vQ q)]) (fun i h=>absurd h (Yu _)) ?_ ?_
 ·exact Ya Zh Xn Zh
 intro I hI n hn hi;refine Xm ?_;refine za (fun h=>?_) fun h=>?_
 ·have h':n<q.rows.length:=Zp h;have hw:=zh h' Za;have hrow:=hq.row _ (zm h');refine ⟨Zt,?_⟩;have hbad:xh q.types (q.rows.getD n default)≠0->num (xh q.types (q.rows.getD n default))=R:=fun hne=>by rw [<-hr,xK _ _ n h' hi hne]
  have hgood:xh q.types (q.rows.getD n default)=0-> ∀i,i<n+1->xh q.types (q.rows.getD i default)=0:=fun h0 i h2=>if h3:i=n then by rw [h3];exact h0 else hi i Za
  generalize q.rows.getD n default=r at hbad hgood hrow ⊢;refine za (fun k4=>?_) fun k4=>?_
  ·have k4': ¬r.length=q.types.length:=gK k4;have hv:xh q.types r=9:=if_pos k4';exact zk trivial (by rw [<-hbad (Z0 hv),hv];rfl) Zb
  have k4':r.length=q.types.length:=jA k4;refine zp mixed ttok 37 [1,23,24,25,35,36] [] Zv Zw r.length (fun m=> ∀i,i<m->vl q.types r i=false) (fun _=>[]) (fun _=>[(1,vQ q)]) (fun i h=>absurd h (Yu _)) ?_ ?_
  ·exact Ya Zh Xn Zh
  intro J hJ m hm hj;refine Xm ?_;refine za (fun g=>?_) fun g=>?_
  ·have g':m<r.length:=Zp g;have gw:=zh g' Za;have hb4:vl q.types r m=true->num 4=R:=fun hc=>by
    have hany:(List.range r.length).any (vl q.types r)=true:=U4.2 ⟨m,List.mem_range.2 g',hc⟩;have hv:xh q.types r=4:=by rw [xh,if_neg (fun e=>e k4'),if_pos hany]
    rw [<-hbad (Z0 hv),hv]
   have hg0:vl q.types r m=false-> ∀i,i<m+1->vl q.types r i=false:=fun h0 i h2=>if h3:i=m then by rw [h3];exact h0 else hj i Za
   refine ⟨Zt,?_⟩;refine zf [[0,0,0]] [] (ud (r.getD m default)) ?_;refine Zg ?_;unfold vl at hb4;have hg1:(!zJ (r.getD m default) || ((r.getD m default).kind !=0&&(r.getD m default).kind !=q.types.getD m default))=false-> ∀i,i<m+1->vl q.types r i=false:=hg0;clear hg0;refine za (fun c1=>?_) fun c1=>?_
   ·refine ⟨ze Zf,?_⟩;exact zk trivial (hb4 (Z5 c1)) Zb
   rw [c1,Yx] at hb4 hg1;refine za (fun c2=>?_) fun c2=>?_
   ·refine ⟨Za,ze Zf,?_⟩;rw [c2,Yj] at hb4 hg1;refine za (fun c3=>?_) fun c3=>?_
    ·exact zk trivial (hb4 c3) Zb
    ·exact zo hJ m rfl g' (hg1 c3) (Xc gw) (Xc gw) (Xc gw) (Xc gw)
   ·rw [c2,Yk] at hg1;refine ⟨ze Zf,?_⟩;exact zo hJ m rfl g' (hg1 rfl) (Xc gw) (Xc gw) (Xc gw) (Xc gw)
  ·obtain rfl:m=r.length:=Zo g;have hany: ¬(List.range r.length).any (vl q.types r)=true:=fun e=>by
    obtain ⟨i,hi2,hc⟩:=U4.1 e;rw [hj i (List.mem_range.1 hi2)] at hc;cases hc
   have hv:xh q.types r=0:=by rw [xh,if_neg (fun e=>e k4'),if_neg hany]
   exact zo hI n rfl h' (hgood hv) (Xc hw) (Xc hw) (Xc hw) (Xc hw)
 ·obtain rfl:n=q.rows.length:=Zo h;exact zk trivial (Zq hr (yJ _ _ hi)) Zb
end
section
attribute [local simp, local push_cast] Wq aRow rRow vecV aAgg
def yy (e:Ex) (rows:List Row):List Val:=(rows.map fun r=>zR r e).filter fun v=>v.kind !=0
theorem valsM_succ (e:Ex) (rows:List Row) (n:Nat) (h:n<rows.length):
 yy e (rows.take (n+1))=if (zR (rows.getD n default) e).kind !=0 then yy e (rows.take n)++[zR (rows.getD n default) e] else yy e (rows.take n):=by
 unfold yy;rw [zw _ _ h,YC,Ux];generalize rows.getD n default=r;cases hk:(zR r e).kind !=0<;>simp [hk]
theorem kq (e:Ex) (rows:List Row):(yy e rows).length<=rows.length:=by
 unfold yy;exact Y3 (YW _ _) Zd
def aggM (fn:Int) (e:Ex) (rows:List Row):Val:=
 if fn=1 then ⟨1,rows.length,ByteArray.empty⟩
 else if fn=2 then ⟨1,(sortV (yy e rows)).length,ByteArray.empty⟩
 else if fn=3 then ⟨1,(ddTo (sortV (yy e rows)) (sortV (yy e rows)).length).length,ByteArray.empty⟩
 else if fn=4 then sumS (sortV (yy e rows))
 else if (sortV (yy e rows)).length=0 then zl
 else if fn=5 then (sortV (yy e rows)).getD 0 default
 else if fn=6 then (sortV (yy e rows)).getD ((sortV (yy e rows)).length-1) default
 else zl
theorem c_agg1 (n:Int):ACall Tryz.prog 207 [num n] [] (aV ⟨1,n,ByteArray.empty⟩) []:=by
 refine zn mixed ttok Tryz.func207 Tryz.ntmps207 Tryz.results207 ?_;generalize hr:aV ⟨1,n,ByteArray.empty⟩=R;refine Zn ?_;exact zv Zm (Zr hr) Zb
theorem c_aggregate (fn:Int) (e:Ex) (ho:Ok12 e) (rows:List Row) (hl:rows.length<=1000) (hv: ∀v∈yy e rows,okV v):
 ACall Tryz.prog 179 [aAgg ⟨fn,e⟩,aTab rows] [] (aV (aggM fn e rows)) []:=by
 refine zn mixed ttok Tryz.func179 Tryz.ntmps179 Tryz.results179 ?_;generalize hr:aV (aggM fn e rows)=R;refine Zn ?_;refine za (fun h1=>?_) fun h1=>?_
 ·refine zf [[0]] [] (c_agg1 rows.length) ?_;refine Z7 ?_;have hf:fn=1:=Zc h1;have hM:aggM fn e rows=⟨1,rows.length,ByteArray.empty⟩:=if_pos hf;rw [hM] at hr;exact zv Zm (Zr hr) Zb
 have hf1: ¬fn=1:=Zc h1;refine zz mixed ttok (fun n:Nat=>(⟨[(19,.d (.lit (.int .i64 n))),(6,.vec 500 (yy e (rows.take n)).length),(2,.ptr 2 0),(4,.ptr 4 0),(5,.clo 207 []),(17,aTab rows),(18,num rows.length)],
  [(500,vecV (yy e (rows.take n))),(2,.var [.d (.lit (.int .i64 fn)),.d (.lit (.int .i64 e.op)),.d (.lit (.int .i64 e.type)),.d (.lit (.int .i64 e.num)),.d (.lit (.string e.text)),.d (.lit (.int .i64 e.col)),.d (.sl 6 (zd rE e.kids))]),
   (4,.var [.d (.lit (.int .i64 0)),.d (.lit (.int .i64 0)),.d (.lit (.string ByteArray.empty))])]⟩:SL)) (fun n=>rows.length-n) (fun n=>n<=rows.length) 0 (Yq _) ?_ ?_
 ·exact (Weak.nilL 6 500 71 3 rfl rfl).trans (Weak.keepL (by simp [yy,ends]) (by simp [yy,ends]) (by simp [ends]))
 intro I hI n hn;refine Zg ?_;refine za (fun h=>?_) fun h=>?_
 ·simp only [Yf] at h;have h':n<rows.length:=Za;have hw:=zh h' Za;have hs:=valsM_succ e rows n h';have hvl:=kq e (rows.take n);have hvl2:(yy e (rows.take n)).length<=1000:=by simp at hvl;omega
  refine ⟨⟨Za,h⟩,?_⟩;refine zf [[0,0,0,0,0,6],[3]] [] (c_eval (rows.getD n default) e ho) ?_;refine Z7 ?_;refine za (fun g=>?_) fun g=>?_
  ·rw [g,if_pos rfl] at hs;generalize zR (rows.getD n default) e=v at hs g ⊢;have hrows:zd rV (yy e (rows.take n))++[[D.lit (.int .i64 v.kind),D.lit (.int .i64 v.num),D.lit (.string v.text)]]=zd rV (yy e (rows.take n)++[v]):=rowsV_snoc _ v.kind v.num v.text;refine ⟨Za,?_⟩;exact zi hI (n+1) h' Zj (Ya (Z3 hw hs) (Z3 hs hrows) Zb)
  ·rw [g,if_neg Zi] at hs;exact zi hI (n+1) h' Zj (Ya (Z3 hw hs) (Ze hs) Zb)
 ·simp only [Ye] at h;obtain rfl:n=rows.length:=Za;rw [Yl];have hvl:=kq e rows;unfold aggM at hr;rw [if_neg hf1] at hr;generalize yy e rows=L at hr hvl hv ⊢;refine callx_fn (fn_sort (o:=500) (e:=71) (vs:=L) (by simp [lookO,vecV]) Za) rfl ?_;have hSl:=jd L;have hSv: ∀v∈sortV L,okV v:=fun v h=>hv v ((uk L).mem_iff.1 h);generalize sortV L=S at hr hSl hSv ⊢;rw [<-hSl];have hS1:S.length<=1000:=Za;refine Zg ?_;refine za (fun h2=>?_) fun h2=>?_
  ·rw [if_pos (Zc h2)] at hr;refine zf [[0]] [] (c_agg1 S.length) ?_;refine Z7 ?_;exact zv Zm (Zr hr) Zb
  rw [if_neg (Zc h2)] at hr;refine za (fun h3=>?_) fun h3=>?_
  ·rw [if_pos (Zc h3)] at hr;refine xf [(1000,500)] (view_sub (o:=500) (e:=71) (wd:=3) (fz:=0) (rows:=zd rV S) (by simp [lookO]) (zc _ _).symm) (c_compact S Za) (by simp [vecV,ends,bs]) (ZV bs) (by simp [vecV,ends]) ZW ?_;refine Zg ?_;have hcl:(cpM S).length=S.length:=by simp only [cpM,Yd,YU];have:=ddTo_len S S.length;omega
   refine ⟨hcl.symm,?_⟩;refine zf [[0]] [] (c_agg1 (ddTo S S.length).length) ?_;refine Z7 ?_;exact zv Zm (Zr hr) Zb
  rw [if_neg (Zc h3)] at hr;refine za (fun h4=>?_) fun h4=>?_
  ·rw [if_pos (Zc h4)] at hr;refine xf [(1000,500)] (view_sub (o:=500) (e:=71) (wd:=3) (fz:=0) (rows:=zd rV S) (by simp [lookO]) (zc _ _).symm) (c_sum S hS1 hSv) (by simp [vecV,ends,bs]) (ZV bs) (by simp [vecV,ends]) ZW ?_;refine Z7 ?_;exact zv Zm (Zr hr) Zb
  rw [if_neg (Zc h4)] at hr;refine za (fun h5=>?_) fun h5=>?_
  ·rw [if_pos (Zc h5)] at hr;exact zv Zm (Zr hr) Zb
  have h5': ¬S.length=0:=Zc h5;rw [if_neg h5'] at hr;refine za (fun h6=>?_) fun h6=>?_
  ·rw [if_pos (Zc h6)] at hr;refine ⟨Za,Za,?_⟩;exact zv Zm (Zr hr) Zb
  rw [if_neg (Zc h6)] at hr;have hwS:IntKind.i64.wrap ((S.length:Int)-1)=((S.length-1:Nat):Int):=Zz;simp only [hwS];refine za (fun h7=>?_) fun h7=>?_
  ·rw [if_pos (Zc h7)] at hr;simp only [YH];refine ⟨⟨Za,Za⟩,Za,?_⟩;exact zv Zm (Zr hr) Zb
  ·rw [if_neg (Zc h7)] at hr;exact zv Zm (Zr hr) Zb
theorem c_raggregate (fn:Int) (e:Ex) (ho:Ok12 e) (rows:List Row) (hl:rows.length≤1000) (hv: ∀v∈yy e rows,okV v):
 ACall Tryz.prog 142 [aAgg ⟨fn,e⟩,aTab rows] [] (aV (aggM fn e rows)) []:=by
 refine zn mixed ttok Tryz.func142 Tryz.ntmps142 Tryz.results142 ?_;generalize hr:aV (aggM fn e rows)=R;refine Zn ?_;refine za (fun h1=>?_) fun h1=>?_
 ·have hf:fn=1:=Zc h1;have hM:aggM fn e rows=⟨1,rows.length,ByteArray.empty⟩:=if_pos hf;rw [hM] at hr;exact zv Zm (Zr hr) Zb
 have hf1: ¬fn=1:=Zc h1;refine zz mixed ttok (fun n:Nat=>(⟨[(6,.d (.lit (.int .i64 n))),(5,.vec 500 (yy e (rows.take n)).length),(2,.ptr 2 0),(4,.ptr 4 0),(1,aTab rows)],
  [(500,.vec 53 1 (zd rRow (sing (yy e (rows.take n)))) 0),(2,.var [.d (.lit (.int .i64 fn)),.d (.lit (.int .i64 e.op)),.d (.lit (.int .i64 e.type)),.d (.lit (.int .i64 e.num)),.d (.lit (.string e.text)),.d (.lit (.int .i64 e.col)),.d (.sl 6 (zd rE e.kids))]),
   (4,.var [.d (.lit (.int .i64 0)),.d (.lit (.int .i64 0)),.d (.lit (.string ByteArray.empty))])]⟩:SL)) (fun n=>rows.length-n) (fun n=>n<=rows.length) 0 (Yq _) ?_ ?_
 ·exact (Weak.nilL 5 500 53 1 rfl rfl).trans (Weak.keepL (by simp [yy,ends]) (by simp [yy,sing,ends]) (by simp [ends]))
 intro I hI n hn;refine Zg ?_;refine za (fun h=>?_) fun h=>?_
 ·simp only [Yf] at h;have h':n<rows.length:=Za;have hw:=zh h' Za;have hs:=valsM_succ e rows n h';have hvl:=kq e (rows.take n);have hvl2:(yy e (rows.take n)).length<=1000:=by simp at hvl;omega
  refine ⟨⟨Za,h⟩,?_⟩;refine zf [[0,0,0,0,0,6],[3]] [] (c_reval (rows.getD n default) e ho) ?_;refine Z7 ?_;refine ⟨ze Zf,?_⟩;refine za (fun g=>?_) fun g=>?_
  ·rw [g,if_pos rfl] at hs;generalize zR (rows.getD n default) e=v at hs g ⊢;have hrows:zd rRow (sing (yy e (rows.take n)))++[[D.sl 3 [[D.lit (.int .i64 v.kind),D.lit (.int .i64 v.num),D.lit (.string v.text)]]]]=zd rRow (sing (yy e (rows.take n)++[v])):=by
    have:sing (yy e (rows.take n)++[v])=sing (yy e (rows.take n))++[[v]]:=by simp [sing]
    rw [this,<-zg];rfl
   refine ⟨⟨(xH _).symm,by rw [xH];omega⟩,?_⟩;exact zi hI (n+1) h' Zj (Ya (by simp [hw,hs,xH,ends]) (Z3 hs hrows) Zb)
  ·rw [g,if_neg Zi] at hs;exact zi hI (n+1) h' Zj (Ya (Z3 hw hs) (Ze hs) Zb)
 ·simp only [Ye] at h;obtain rfl:n=rows.length:=Za;rw [Yl];have hvl:=kq e rows;unfold aggM at hr;rw [if_neg hf1] at hr;generalize yy e rows=L at hr hvl hv ⊢;have hcan:=gm (sing L).length (sing L) Za (by rw [xH];omega) (sing_small L);rw [can_sing] at hcan;refine zf [[1]] [] (hcan) ?_;have hSl:=jd L;have hSv: ∀v∈sortV L,okV v:=fun v h=>hv v ((uk L).mem_iff.1 h);have hso:=jc L;generalize sortV L=S at hr hSl hSv hso ⊢;have hS1:S.length<=1000:=Za;simp -implicitDefEqProofs only [xH,↓zb,push_cast,simprocAttr,tt];refine za (fun h2=>?_) fun h2=>?_
  ·rw [if_pos (Zc h2)] at hr;exact zv Zm (Zr hr) Zb
  rw [if_neg (Zc h2)] at hr;refine za (fun h3=>?_) fun h3=>?_
  ·rw [if_pos (Zc h3)] at hr;refine zf [[1]] [] (c_distinct (sing S) (by rw [xH];exact (Y3 hS1 Zi)) (sing_small S)) ?_;refine Zg ?_;have hdl:(jb (sing S)).length=(ddTo S S.length).length:=by
    rw [<-dist_len,distM_eq,Y2,<-qM _ (sing S) (Nat.le_succ _),can_sing,sortV_eq,List.mergeSort_of_pairwise hso];rfl
   exact zv Zm (by rw [<-hr]<;>first | rfl | (simp [hdl];done) | (simp_all [hdl];done)) Zb
  rw [if_neg (Zc h3)] at hr;refine za (fun h4=>?_) fun h4=>?_
  ·rw [if_pos (Zc h4)] at hr;refine zf [[1]] [] (c_rsum S hS1 hSv) ?_;refine Z7 ?_;exact zv Zm (Zr hr) Zb
  rw [if_neg (Zc h4)] at hr;have hwS:0<S.length->IntKind.i64.wrap ((S.length:Int)-1)=((S.length-1:Nat):Int):=fun h=>Zz;by_cases h0:S.length=0
  ·rw [if_pos h0] at hr;refine za (fun h6=>?_) fun h6=>?_
   ·refine za (fun h=>absurd h (by simp only [gt_iff_lt,Yf];omega)) fun _=>?_;exact zv Zm (Zr hr) Zb
   refine za (fun h7=>?_) fun h7=>?_
   ·refine za (fun h=>absurd h (by simp only [gt_iff_lt,Yf];omega)) fun _=>?_;exact zv Zm (Zr hr) Zb
   ·exact zv Zm (Zr hr) Zb
  rw [if_neg h0] at hr;have h0':0<S.length:=Za;refine za (fun h6=>?_) fun h6=>?_
  ·rw [if_pos (Zc h6)] at hr;refine za (fun _=>?_) fun h=>absurd h (by simp only [gt_iff_lt,Ye];omega);simp only [sing_get S h0',List.getD_cons_zero];refine ⟨Za,Zd,?_⟩;exact zv Zm (Zr hr) Zb
  rw [if_neg (Zc h6)] at hr;refine za (fun h7=>?_) fun h7=>?_
  ·rw [if_pos (Zc h7)] at hr;refine za (fun _=>?_) fun h=>absurd h (by simp only [gt_iff_lt,Ye];omega);simp only [hwS h0',YH,sing_get S (show S.length-1<S.length from Za),List.getD_cons_zero];refine ⟨⟨Za,Za⟩,Zd,?_⟩;exact zv Zm (Zr hr) Zb
  rw [if_neg (Zc h7)] at hr;exact zv Zm (Zr hr) Zb
end
section
open Go.Am Go.Proofs Go.Shelf Go.RowKit
attribute [local simp, local push_cast] Wq yF xZ xD z6 zL
theorem fn_grow {h:UB} {d n:Nat} (ho:h d=none) (hn:n≤1000000):
 FnCall Tryz.prog 198 [.snil,num n] h ⟨True,.vec d 0,[(d,.vec 3 1 [] 0)],[d]⟩ where
 fn:=⟨_,Tryz.func198,Zf,Zf⟩
 keyed:=Z6
 calls:=fun h2 hr cx β w us rel hus=>by
  have ho2:h2 d=none:=(hr d Zd).trans ho;simp only [num,repL,A.rep,D.rep] at hus;obtain ⟨u1,_,rfl,rfl,u2,_,rfl,⟨rfl,_⟩,rfl⟩:=hus;by_cases h0:n=0
  ·subst h0
   refine (show Calls Tryz.prog 198 #[.slice none 0 0,.int .i64 ((0:Nat):Int)] w _ from Any8.slices_Grow_room Tryz.growI none 0 0 0 w (by omega) (by omega) (by omega) (by omega)).mono ?_
   rintro e' w' ⟨rfl,rfl⟩
   obtain ⟨r1,L1⟩:=rel.nil d 3 1 ho2
   refine ⟨_,_,rfl,r1,L1,?_⟩
   simp only [A.rep,zj]
   exact ⟨3,1,[],0,by simp [upds],by simp,rfl,fun _=> .inl ⟨by simp,trivial⟩⟩
  ·obtain ⟨i0,hi,his,hib,z,hz,hzc⟩:=(ttok 3 _ rfl).info;refine (show Calls Tryz.prog 198 #[.slice none 0 0,.int .i64 (n:Int)] w _ from Any8.slices_Grow_grow Tryz.growI i0 z hi hz (Z0 his) none 0 0 n [] w Za Za (by rw [hib];show (0+n) * 8<=_;omega) Za Zd (fun _=>rfl) (fun _ h=>by cases h)).mono ?_
   rintro e' w' ⟨rfl,rfl⟩
   generalize hG:grownCap w (0+n) 0 (Tryz.growI_ren.t 25)=G;generalize hC: #[]++Builtin.zeroCells z.cells (0+n-0)++Builtin.zeroCells z.cells (G-(0+n))=C;have hGn:0+n<=G:=by rw [<-hG];exact grownCap_ge w _ _ _
   have hGm:G<=maxLen:=by rw [<-hG];exact grownCap_le_maxLen w _ _ _ (by unfold maxLen;omega)
   obtain ⟨r0,L0⟩:=rel.drew;obtain ⟨r1,L1⟩:=r0.alloc d (.vec 3 1 [] 0) C 3 ho2 (fun L=>by
    simp only [Ob.rep];exact ⟨Yq _,fun _ h=>(by cases h),.inr ⟨_,C,rfl,zO w.drew _,Xr,Zd⟩⟩)
   have hCs:C.size=G:=by
    rw [<-hC];have:z.cells.size=1:=Z5 hzc;simp only [U5,size_zeroCells,this];simp;omega
   refine ⟨_,_,rfl,r1,L0.trans L1,?_⟩
   simp only [A.rep,zj]
   refine ⟨3,1,[],0,by simp [upds],by simp,rfl,fun _=> .inr ⟨w.heap.size,G,by simp,rfl,Nat.zero_le _,hGm,C,3,zO w.drew _,by rw [hCs,Nat.mul_one]⟩⟩
theorem flat_snoc (ll:List (List Int)) (n:Nat) (h:n<ll.length):(ll.take (n+1)).flatten=(ll.take n).flatten++ll.getD n default:=by
 rw [zw _ _ h,List.flatten_append];simp
theorem flat_len: ∀(ll:List (List Int)) (b:Nat),(∀l∈ll,l.length<=b)->ll.flatten.length<=ll.length * b
 | [],_,_=>Zd
 | l::ll,b,h=>by
   have h1:=h l Zd;have h2:=flat_len ll b fun x hx=>h x (Zu hx);rw [List.flatten_cons,Yd,Y6,YX];omega
theorem c_concat (ll:List (List Int)) (hl:ll.length<=1000) (hb: ∀l∈ll,l.length<=1000):ACall Tryz.prog 162 [.d (.sl 1 (zd rIs ll))] [] (ints ll.flatten) []:=by
 refine zn mixed ttok Tryz.func162 Tryz.ntmps162 Tryz.results162 ?_;generalize hr:ints ll.flatten=R;have hfl: ∀n,(ll.take n).flatten.length<=1000000:=fun n=>by
  have h1:=flat_len (ll.take n) 1000 fun l h=>hb l (YE h);have h2:(ll.take n).length<=1000:=Y3 (by rw [Yh];exact Nat.min_le_right _ _) hl;have:=YP 1000 h2;omega
 refine Zn ?_;refine zp mixed ttok 11 [0,9,10] [] Zv Zw ll.length (fun _=>True) (fun n=>[(3,num ((ll.take n).flatten.length:Nat))]) (fun _=>[]) trivial ?_ ?_
 ·exact Ya Zh Zh Zh
 intro I hI n hn hi;refine Zy ?_;refine za (fun h=>?_) fun h=>?_
 ·have h':n<ll.length:=Zp h;have hw:=zh h' Za;have hs:=flat_snoc ll n h';have h1:=hfl n;have h2:=hb _ (zm h');have hws:IntKind.i64.wrap (((ll.take n).flatten.length:Nat)+((ll.getD n default).length:Nat):Int)=(((ll.take (n+1)).flatten.length:Nat):Int):=by
   rw [hs,Yd,zr Za Za];omega
  refine ⟨Zt,?_⟩;rw [hws];refine za (fun h=>absurd (Yc h) Za) (fun _=>?_);exact zo hI n rfl h' trivial (Ze hw) (Ze hw) (Ze hw) (Ze hw)
 obtain rfl:n=ll.length:=Zo h;clear hI;refine callx_fn (fn_grow (d:=600) (n:=(ll.take ll.length).flatten.length) rfl (hfl _)) rfl ?_;refine Zg ?_;refine zp mixed ttok 27 [25,26] [] Zv Zw ll.length (fun _=>True) (fun n=>[(6,.vec 600 (ll.take n).flatten.length)]) (fun n=>[(600,.vec 3 1 (zd rI (ll.take n).flatten) 0)]) trivial ?_ ?_
 ·exact Ya Zh (by simp [cst,zd,ends]) Zh
 intro I hI n hn hi;refine Zy ?_;refine za (fun h=>?_) fun h=>?_
 ·have h':n<ll.length:=Zp h;have hw:=zh h' Za;have hs:=flat_snoc ll n h';have h1:=hfl n;have h2:=hb _ (zm h');have hz:(ll.take n++[ll.getD n default]).flatten.length=(ll.take n).flatten.length+(ll.getD n default).length:=by rw [List.flatten_append,Yd];simp
  refine ⟨Zt,?_⟩;refine ⟨Za,?_⟩;exact zo hI n rfl h' trivial (ZD hw hs hz) (ZD hw hs hz) (ZD hw hs hz) (ZD hw hs hz)
 obtain rfl:n=ll.length:=Zo h;rw [Yl];refine zu [1] rfl Zd Zk ?_ Zl Zb Zb;exact hr
theorem c_cloneI' (l:List Int) (R:A) (hr:ints l=R) (hl:l.length<=1000000):ACall Tryz.prog 100 [ints l] [] R []:=by
 refine zn mixed ttok Tryz.func100 Tryz.ntmps100 Tryz.results100 ?_;cases l with
 | nil=>
   simp -implicitDefEqProofs only [argT,yb,List.isEmpty_nil,if_true,↓zb,push_cast,simprocAttr,tt]
   refine ⟨?_,?_⟩
   ·refine zu [1] rfl Zd Zk ?_ Zl Zb Zb;exact hr
   ·refine zu [1] rfl Zd Zk ?_ Zl Zb Zb;exact hr
 | cons x l=>
   simp only [Y6] at hl;refine XG ?_;refine ⟨Za,?_⟩;refine zu [1] rfl Zd Zk ?_ Zl Zb Zb;exact hr
theorem c_cloneI (l:List Int) (hl:l.length<=1000000):ACall Tryz.prog 100 [ints l] [] (ints l) []:=c_cloneI' l _ rfl hl
theorem c_eqI (a b:List Int) (hl:a.length≤1000000) (hm:b.length≤1000000):ACall Tryz.prog 105 [ints a,ints b] [] (boo (a==b)) []:=by
 refine zn mixed ttok Tryz.func105 Tryz.ntmps105 Tryz.results105 ?_;generalize hr:boo (a==b)=R;refine Zn ?_;refine za (fun h0=>?_) fun h0=>?_
 ·have h0': ¬a.length=b.length:=gK h0;have he:(a==b)=false:=by
   cases hq:a==b with
   | false=>rfl
   | true=>exact absurd (congrArg List.length (beq_iff_eq.1 hq)) h0'
  exact zk trivial (Zq hr he) Zb
 have h0':a.length=b.length:=jA h0;refine zp mixed ttok 13 [0,1,11,12] [] Zv Zw a.length (fun n=> ∀i,i<n->a.getD i default=b.getD i default) (fun _=>[]) (fun _=>[]) (fun i h=>absurd h (Yu _)) ?_ ?_
 ·exact Ya Zh Zh Zh
 intro I hI n hn hi;refine Zy ?_;refine za (fun h=>?_) fun h=>?_
 ·have h':n<a.length:=Zp h;have hw:=zh h' Za;refine ⟨Za,Za,ze Zf,?_⟩;refine za (fun g=>?_) fun g=>?_
  ·have g': ¬a.getD n default=b.getD n default:=Zc g;have he:(a==b)=false:=by
    cases hq:a==b with
    | false=>rfl
    | true=>exact absurd (ZB (beq_iff_eq.1 hq)) g'
   exact zk trivial (Zq hr he) Zb
  ·have g':a.getD n default=b.getD n default:=Zc g;exact zo hI n rfl h' (fun i h2=>if h3:i=n then by rw [h3];exact g' else hi i Za) (Ze hw) (Ze hw) (Ze hw) (Ze hw)
 ·obtain rfl:n=a.length:=Zo h;have he:a=b:=by
   apply List.ext_getElem h0';intro i h1 h2;have:=hi i h1;rwa [Yg,Yg,List.getElem?_eq_getElem h1,List.getElem?_eq_getElem h2] at this
  exact zk trivial (ZK hr he beq_self_eq_true) Zb
end
section
attribute [local simp, local push_cast] Wq yF xZ xD z6 zL aAgg
theorem ret_vec2 {p:Prop} {t:UD} {o:UE} {n e wd fz:Nat} {y:D} {rows:UF} (a:Nat) (hp:p) (ha:a<1000) (ho:lookO o a=some (.vec e wd rows fz)) (hb:lookO o 1000=none)
 (hin:keepIn (fun _=>false) o):retx (some (p,.tup [.vec a n,.d y])) ⟨t,o⟩ (.tup [.vec 1000 n,.d y]) [(1000,.vec e wd rows fz)]:=by
 refine ⟨hp,?_⟩;have h1:Weak (SL.mk [(0,.tup [.vec a n,.d y])] o).st (SL.mk [(0,.tup [.vec a n,.d y])] [(a,.vec e wd rows fz)]).st:=by
  refine Ya ⟨⟨rfl,by simp [A.closed,closedL,inO,lookO]⟩,trivial⟩ ⟨⟨ho,rfl⟩,trivial⟩ ?_;have key: ∀(l:UE),keepIn (fun _=>false) l->keepIn (inO [(a,.vec e wd rows fz)]) l:=by
   intro l
   induction l with
   | nil=>intro _;trivial
   | cons x l ih=>intro hl;obtain ⟨k,v⟩:=x;simp only [keepIn] at hl ⊢;exact ⟨.inl (hl.1.resolve_right Zd),ih hl.2⟩
  exact key o hin
 have h2:=Weak.ren (t:=[(0,.tup [.vec a n,.d y])]) (o:=[(a,.vec e wd rows fz)]) a 1000 Za ha (by simp only [lookO];rw [if_neg (by omega)]);simp only [renT,renO,A.ren,renL,Ob.ren,zM,if_true] at h2;exact h1.trans h2
theorem gb {α:Type} [Inhabited α] (f:α->Int×Int) (l:List α) (h:(vm f l).2=0): ∀i,i<l.length->(f (l.getD i default)).2=0:=by
 intro i hi;have h0:ferr (fun e=>(f e).2) l=0:=by
  unfold vm at h
  split at h
  ·assumption
  ·exact h
 clear h
 induction l generalizing i with
 | nil=>simp at hi
 | cons x l ih=>
   have hx:(f x).2=0:=by
    simp only [ferr] at h0
    split at h0
    ·assumption
    ·exact h0
   cases i with
   | zero=>simpa using hx
   | succ i=>
     have:=ih i (Zc hi) (by simpa only [ferr,hx,if_true] using h0);simpa using this
theorem c_colsV (ts:List Int) (l:List Ex) (hts:ts.length<=1000000) (hl:l.length<=1000) (ho: ∀e∈l,Ok12 e) (h0:(xQ ts l).2=0):
 ACall Tryz.prog 102 [ints ts,.d (.sl 6 (zd rE l))] [] (.tup [.vec 1000 l.length,num 0]) [(1000,.vec 3 1 (zd rI (l.map fun e=>(zU (ownM ts) e).1)) 0)]:=by
 have hall:=gb _ l h0;refine zn mixed ttok Tryz.func102 Tryz.ntmps102 Tryz.results102 ?_;refine Zn ?_;refine zp mixed ttok 13 [0,11,12] [] Zv Zw l.length (fun _=>True) (fun n=>[(6,.vec 500 n)]) (fun n=>[(500,.vec 3 1 (zd rI ((l.take n).map fun e=>(zU (ownM ts) e).1)) 0)]) trivial ?_ ?_
 ·exact (YV 6 500 3 1 rfl rfl).trans (Ya Zh Zh Zh)
 intro I hI n hn hi;have hl2:((l.take n).map fun e=>(zU (ownM ts) e).1).length=n:=Xp;refine Zy ?_;refine za (fun h=>?_) fun h=>?_
 ·have h':n<l.length:=Zp h;have hw:=zh h' Za;have hs:=xU (fun e=>(zU (ownM ts) e).1) l n h';refine ⟨Zt,?_⟩;refine zf [[1],[0,0,0,0,0,6]] [] (c_type ts Za _ (ho _ (zm h'))) ?_;refine ZU ?_;refine za (fun g=>absurd (hall n h') (Zc g)) (fun _=>?_);refine ⟨⟨hl2.symm,Z4 hl2⟩,?_⟩;exact zo hI n rfl h' trivial (ZS hw hs hl2 (Yr hn)) (ZS hw hs hl2 (Yr hn)) (ZS hw hs hl2 (Yr hn)) (ZS hw hs hl2 (Yr hn))
 obtain rfl:n=l.length:=Zo h;rw [Yl];exact ret_vec2 500 trivial Za rfl rfl Zb
def ki (ts:List Int) (q:Qr):List Int×Int:=
 if q.exprs.length+q.aggs.length<1\/q.exprs.length+q.aggs.length>24 then ([],9)
 else if (xQ ts q.exprs).2≠0 then ([],(xQ ts q.exprs).2)
 else if (vm (xr ts) q.aggs).2≠0 then ([],(vm (xr ts) q.aggs).2)
 else ((xQ ts q.exprs).1++(vm (xr ts) q.aggs).1,0)
theorem ZT {p P0 P1 P2 P3:Prop} (zf_:P0) (zg_:P1) (zh_:P2) (zi_:P3) (h:P0->P1->P2->P3->p:=by intro zf_ zg_ zh_ zi_;simp [zf_,zg_,zh_,zi_,zg,YG,Yo,ends]):p:=h zf_ zg_ zh_ zi_
theorem Xd {p q:Prop} (h:q) (e:p=q:=by conv=>lhs;simp -implicitDefEqProofs only [z6,↓zb,push_cast,simprocAttr,tt]):p:=(e).mpr h
theorem c_group (ts:List Int) (q:Qr) (hts:ts.length≤1000000) (hq:OkQ1 q):ACall Tryz.prog 104 [ints ts,aQ q] [] (z6 (ki ts q)) []:=by
 have hel:=hq.exprs;have hal:=hq.aggs;rw [ye];refine zn mixed ttok Tryz.func104 Tryz.ntmps104 Tryz.results104 ?_;generalize hr:z6 (ki ts q)=R;have hwr:IntKind.i64.wrap ((q.exprs.length:Nat)+(q.aggs.length:Nat):Int)=((q.exprs.length+q.aggs.length:Nat):Int):=Zz;unfold ki at hr;refine Zn ?_;rw [hwr];have hM:(vm (xr ts) q.aggs).1.length<=q.aggs.length:=by
  unfold vm;split
  ·simp
  ·simp
 refine za (fun k1=>?_) fun k1=>?_
 ·have k1':q.exprs.length+q.aggs.length<1:=Zp k1;rw [<-hr,if_pos (.inl k1'),z6];refine zt [[1],[0]] rfl Zd Zk ?_ Zl Zb Zb;rfl
 have k1': ¬q.exprs.length+q.aggs.length<1:=Zo k1;refine za (fun k2=>?_) fun k2=>?_
 ·have k2':q.exprs.length+q.aggs.length>24:=Zp k2;rw [<-hr,if_pos (.inr k2'),z6];refine zt [[1],[0]] rfl Zd Zk ?_ Zl Zb Zb;rfl
 have k2': ¬q.exprs.length+q.aggs.length>24:=Zo k2;rw [if_neg (fun h=>h.elim k1' k2')] at hr;by_cases hc0:(xQ ts q.exprs).2=0
 ·rw [if_neg (fun h=>h hc0)] at hr;have hcv:(xQ ts q.exprs).1=q.exprs.map fun e=>(zU (ownM ts) e).1:=by
   rw [xQ,un _ _ (gb _ _ hc0)]
  rw [hcv] at hr;refine zf [[1],[6]] [(1000,700)] (c_colsV ts q.exprs hts hel hq.ex hc0) ?_;refine Zg ?_;refine zp mixed ttok 39 [0,37,38] [] Zv Zw q.aggs.length (fun n=> ∀i,i<n->(xr ts (q.aggs.getD i default)).2=0) (fun n=>[(7,.vec 700 (q.exprs.length+n))]) (fun n=>[(700,.vec 3 1 (zd rI ((q.exprs.map fun e=>(zU (ownM ts) e).1)++(q.aggs.take n).map fun e=>(xr ts e).1)) 0)]) (fun i h=>absurd h (Yu _)) ?_ ?_
  ·exact Ya Zh Zh Zh
  intro I hI n hn hi;have hl2:((q.exprs.map fun e=>(zU (ownM ts) e).1)++(q.aggs.take n).map fun e=>(xr ts e).1).length=q.exprs.length+n:=by rw [Yd,Y2,Y2,Yh];omega
  refine Zy ?_;refine za (fun h=>?_) fun h=>?_
  ·have h':n<q.aggs.length:=Zp h;have hw:=zh h' Za;have hs:=xU (fun e=>(xr ts e).1) q.aggs n h';refine ⟨Zt,?_⟩;have hca:=c_aggT ts (q.aggs.getD n default) hts (hq.ag _ (zm h'));simp only [aAgg] at hca;refine zf [[1],[0,0,0,0,0,0,6]] [] (hca) ?_;refine ZU ?_;refine za (fun g=>?_) fun g=>?_
   ·have g':(xr ts (q.aggs.getD n default)).2≠0:=Zc g;have hb:=gc (xr ts) q.aggs n h' hi g';rw [<-hr,hb,if_pos g',z6];refine zt [[1],[0]] rfl Zd Zk ?_ Zl Zb Zb;rfl
   ·have g':(xr ts (q.aggs.getD n default)).2=0:=Zc g;refine ⟨⟨hl2.symm,Z4 hl2⟩,?_⟩;exact zo hI n rfl h' (fun i h2=>if h3:i=n then by rw [h3];exact g' else hi i Za) (ZT hw hs hl2 (Yr hn)) (ZT hw hs hl2 (Yr hn)) (ZT hw hs hl2 (Yr hn)) (ZT hw hs hl2 (Yr hn))
  ·obtain rfl:n=q.aggs.length:=Zo h;have hg:=un (xr ts) q.aggs hi;rw [hg] at hr;rw [<-hr,if_neg (fun h=>h rfl),Yl,z6];refine zt [[1],[0]] rfl Zd Zk ?_ Zl Zb Zb;rfl
 ·have hb:xQ ts q.exprs=([],(xQ ts q.exprs).2):=by
   unfold xQ vm at hc0 ⊢
   split
   ·rename_i h;rw [if_pos h] at hc0;exact absurd rfl hc0
   ·rfl
  refine zf [[1],[6]] [] (c_cols ts q.exprs hts hel hq.ex) ?_;refine Xd ?_;refine za (fun _=>?_) (fun h=>absurd (Zc h) hc0);rw [<-hr,if_pos hc0,z6];refine zt [[1],[0]] rfl Zd Zk ?_ Zl Zb Zb;rfl
def gx (a b:List Int) (q:Qr):List Int×Int:=
 if q.kind<1\/q.kind>6 then ([],1)
 else if (a++b).length>24 then ([],9)
 else if vN (a++b) q.cond≠0 then ([],vN (a++b) q.cond)
 else if q.kind=5\/q.kind=6 then (a,0) else (a++b,0)
theorem c_join (a b:List Int) (q:Qr) (ha:a.length<=1000) (hb:b.length<=1000) (hq:OkQ1 q):ACall Tryz.prog 103 [ints a,ints b,aQ q] [] (z6 (gx a b q)) []:=by
 have hcc:=c_concat [a,b] Zd (by intro l hl;simp at hl;rcases hl with rfl | rfl<;>assumption);have hfl:[a,b].flatten=a++b:=Zd;rw [hfl] at hcc;simp only [zF,rIs] at hcc;rw [ye];refine zn mixed ttok Tryz.func103 Tryz.ntmps103 Tryz.results103 ?_;generalize hr:z6 (gx a b q)=R;unfold gx at hr;refine Zn ?_;refine zf [[1]] [] (hcc) ?_;refine Zg ?_;refine za (fun k1=>?_) fun k1=>?_
 ·rw [←hr,if_pos (.inl (Yc k1)),z6];refine zt [[1],[0]] rfl Zd Zk ?_ Zl Zb Zb;rfl
 refine za (fun k2=>?_) fun k2=>?_
 ·rw [←hr,if_pos (.inr (Yc k2)),z6];refine zt [[1],[0]] rfl Zd Zk ?_ Zl Zb Zb;rfl
 rw [if_neg (fun h=>h.elim (Yb k1) (Yb k2))] at hr;refine za (fun k3=>?_) fun k3=>?_
 ·have k3':(a++b).length>24:=Zp k3;rw [<-hr,if_pos k3',z6];refine zt [[1],[0]] rfl Zd Zk ?_ Zl Zb Zb;rfl
 have k3': ¬(a++b).length>24:=Zo k3;rw [if_neg k3'] at hr;have hcd:=c_cond (a++b) q.cond Za hq.cond;rw [yE] at hcd;refine zf [[1],[0,0,0,0,0,6]] [] (hcd) ?_;refine Zg ?_;refine za (fun k4=>?_) fun k4=>?_
 ·have k4':vN (a++b) q.cond≠0:=Zc k4;rw [<-hr,if_pos k4',z6];refine zt [[1],[0]] rfl Zd Zk ?_ Zl Zb Zb;rfl
 have k4': ¬vN (a++b) q.cond≠0:=Zc k4;rw [if_neg k4'] at hr;refine za (fun k5=>?_) fun k5=>?_
 ·have k5':q.kind=5:=Zc k5;rw [<-hr,if_pos (.inl k5'),z6];refine zt [[1],[0]] rfl Zd Zk ?_ Zl Zb Zb;rfl
 have k5': ¬q.kind=5:=Zc k5;refine za (fun k6=>?_) fun k6=>?_
 ·have k6':q.kind=6:=Zc k6;rw [<-hr,if_pos (.inr k6'),z6];refine zt [[1],[0]] rfl Zd Zk ?_ Zl Zb Zb;rfl
 have k6': ¬q.kind=6:=Zc k6;rw [<-hr,if_neg (fun h=>h.elim k5' k6'),z6];refine zt [[1],[0]] rfl Zd Zk ?_ Zl Zb Zb;rfl
end
section
attribute [local simp, local push_cast] Wq yF xZ xD z6 zL aAgg aFm yd
def ownQ (s:Sch) (q:Qr) (ks:List (List Int)):List Int×Int:=
 if isFm q.op=false\/wY q (yt q.op)=false then ([],1)
 else if (ks.length:Int)≠(yt q.op).kids then ([],9)
 else if q.op=1 then (if byT s q.table≥0 then (yj (s.getD (byT s q.table).toNat default),0) else ([],11))
 else if q.op=2 then (if xg q≠0 then ([],xg q) else (q.types,0))
 else if q.op=3 then (if vN (ks.getD 0 default) q.cond≠0 then ([],vN (ks.getD 0 default) q.cond) else (ks.getD 0 default,0))
 else if q.op=4 then (if q.exprs.length=0\/q.exprs.length>24 then ([],9) else xQ (ks.getD 0 default) q.exprs)
 else if q.op=5 then gx (ks.getD 0 default) (ks.getD 1 default) q
 else if q.op=10 then ki (ks.getD 0 default) q
 else if q.op=6\/q.op=7\/q.op=8 then (if (ks.getD 0 default==ks.getD 1 default)=true then (ks.getD 0 default,0) else ([],4))
 else (ks.getD 0 default,0)
def typQK (s:Sch) (q:Qr) (rs:List (List Int×Int)):List Int×Int:=if ferr Prod.snd rs=0 then ownQ s q (rs.map Prod.fst) else ([],ferr Prod.snd rs)
mutual
def typQ (s:Sch):Qr->List Int×Int
 | .mk a b c d e f g h i ks=>typQK s (.mk a b c d e f g h i ks) (typQs s ks)
def typQs (s:Sch):List Qr->List (List Int×Int)
 | []=>[]
 | q::l=>typQ s q::typQs s l
end
theorem typQs_eq (s:Sch): ∀l,typQs s l=l.map (typQ s)
 | []=>rfl
 | q::l=>by rw [typQs,typQs_eq s l];rfl
theorem qR (s:Sch) (q:Qr):typQ s q=typQK s q (q.kids.map (typQ s)):=by cases q;rw [typQ,typQs_eq];rfl
theorem listM_len {α:Type} (f:α->Int×Int) (l:List α):(vm f l).1.length<=l.length:=by
 unfold vm;split<;>simp
theorem ownQ_len {s:Sch} {q:Qr} {ks:List (List Int)} (hs:SmallS s) (hq:OkQ1 q) (hk: ∀l∈ks,l.length<=1000):(ownQ s q ks).1.length<=1000:=by
 have hg: ∀i,(ks.getD i default).length<=1000:=fun i=>by
  by_cases h:i<ks.length
  ·exact hk _ (zm h)
  ·rw [Yg,List.getElem?_eq_none Za];exact Yq _
 have h0:=hg 0;have htl:=hq.types;have hel:=hq.exprs;unfold ownQ
 split
 ·exact Yq _
 split
 ·exact Yq _
 split
 ·split
  ·rename_i hb;have h1:=wh (fun t:Tbl=>t.name.toList==q.table.toList) s;have hm:=zm (l:=s) (n:=(byT s q.table).toNat) (by unfold byT at hb ⊢;omega);have:=(hs.tab _ hm).cols;simpa [yj] using this
  ·exact Yq _
 split
 ·split
  ·exact Yq _
  ·exact htl
 split
 ·split
  ·exact Yq _
  ·exact h0
 split
 ·split
  ·exact Yq _
  ·exact Y3 (listM_len _ _) hel
 split
 ·unfold gx
  split
  ·exact Yq _
  split
  ·exact Yq _
  rename_i h24
  split
  ·exact Yq _
  split
  ·exact h0
  ·simp only;omega
 split
 ·unfold ki
  split
  ·exact Yq _
  split
  ·exact Yq _
  split
  ·exact Yq _
  rename_i h24 _ _;have h1:=listM_len (zU (ownM (ks.getD 0 default))) q.exprs;have h2:=listM_len (xr (ks.getD 0 default)) q.aggs;simp only [Yd,xQ];omega
 split
 ·split
  ·exact h0
  ·exact Yq _
 ·exact h0
theorem js {s:Sch} (hs:SmallS s): ∀q:Qr,OkQ q->(typQ s q).1.length<=1000:=
 uS (p:=fun q=>OkQ q->(typQ s q).1.length<=1000) fun q ih ho=>by
 rw [qR,typQK]
 split
 ·refine ownQ_len hs ho.one fun l hl=>?_;simp only [Ul,Y4] at hl;obtain ⟨k,hk,rfl⟩:=hl;exact ih k hk (ho.kid hk)
 ·exact Yq _
theorem formM_uses (op:Int):(yt op).uses.size<=1000:=by
 unfold yt
 split
 ·rename_i h;simp only [isFm,Ys,Yf] at h;have key:(List.range 11).all (fun n=>decide ((fmTab.getD n default).uses.size<=1000))=true:=Zi;have:=all_range.1 key op.toNat Za;simpa [fmAt] using this
 ·exact Yq _
def kidT (s:Sch) (q:Qr) (n:Nat):List (List Int):=(q.kids.take n).map fun k=>(typQ s k).1
theorem XI {p q P0:Prop} (zf_:P0) (h:q) (e:P0->p=q:=by intro zf_;conv=>lhs;simp -implicitDefEqProofs only [yd,zf_,↓zb,push_cast,simprocAttr,tt]):p:=(e zf_).mpr h
theorem c_typQ (s:Sch) (hs:SmallS s): ∀q:Qr,OkQ q->ACall Tryz.prog 58 [aS s,aQ q] [] (z6 (typQ s q)) []:=
 uS (p:=fun q=>OkQ q->ACall Tryz.prog 58 [aS s,aQ q] [] (z6 (typQ s q)) []) fun q ih ho=>by
 have hq:=ho.one;have hkl:=hq.kids;have hsl:=hs.len;rw [ye];refine zn mixed ttok Tryz.func58 Tryz.ntmps58 Tryz.results58 ?_;generalize hr:z6 (typQ s q)=R;refine Zn ?_;refine zp mixed ttok 20 [2,3,18,19] [2,3] Zv Zw q.kids.length (fun n=> ∀i,i<n->(typQ s (q.kids.getD i default)).2=0) (fun n=>[(6,.vec 500 n)]) (fun n=>[(500,.vec 22 1 (zd rIs (kidT s q n)) 0)]) (fun i h=>absurd h (Yu _)) ?_ ?_
 ·exact (YV 6 500 22 1 rfl rfl).trans (Ya Zh (by simp [cst,kidT,zd,ends]) Zh)
 intro I hI n hn hi;have hl2:(kidT s q n).length=n:=by rw [kidT,Y2,Yh];omega
 refine Zy ?_;refine za (fun h=>?_) fun h=>?_
 ·have h':n<q.kids.length:=Zp h;have hw:=zh h' Za;have hst:=xU (fun k=>(typQ s k).1) q.kids n h';have hc:=ih _ (zm h') (ho.kid (zm h'));rw [ye] at hc;refine ⟨Zt,?_⟩;refine zf [[6],[0,0,0,0,0,0,0,0,0,6,6,7,1,1,15]] [] (hc) ?_;refine Xd ?_;refine za (fun g=>?_) fun g=>?_
  ·have g':(typQ s (q.kids.getD n default)).2≠0:=Zc g;have hf:ferr Prod.snd (q.kids.map (typQ s))=(typQ s (q.kids.getD n default)).2:=by rw [vt];exact xK _ _ n h' hi g'
   have hE:typQ s q=([],(typQ s (q.kids.getD n default)).2):=by rw [qR s q,typQK,hf,if_neg g']
   rw [<-hr,hE,z6];refine zt [[1],[0]] rfl Zd Zk ?_ Zl Zb Zb;rfl
  ·have g':(typQ s (q.kids.getD n default)).2=0:=Zc g;have hk2:kidT s q (n+1)=kidT s q n++[(typQ s (q.kids.getD n default)).1]:=hst;refine ⟨⟨hl2.symm,Z4 hl2⟩,?_⟩;exact zo hI n rfl h' (fun i h2=>if h3:i=n then by rw [h3];exact g' else hi i Za) (ZD hw hk2 hl2) (ZD hw hk2 hl2) (ZD hw hk2 hl2) (ZD hw hk2 hl2)
 obtain rfl:n=q.kids.length:=Zo h;clear hI;have hf:ferr Prod.snd (q.kids.map (typQ s))=0:=by rw [vt];exact yJ _ _ hi
 have hT:kidT s q q.kids.length=(q.kids.map (typQ s)).map Prod.fst:=by rw [kidT,Yl,Ul];rfl
 have hM:typQ s q=ownQ s q (kidT s q q.kids.length):=by rw [qR s q,typQK,if_pos hf,hT]
 have hks: ∀l∈kidT s q q.kids.length,l.length<=1000:=fun l hl=>by
  simp only [kidT,Yl,Y4] at hl;obtain ⟨k,hk,rfl⟩:=hl;exact js hs k (ho.kid hk)
 rw [hM] at hr;clear hM hT hf hi;generalize kidT s q q.kids.length=ks at hr hks hl2 ⊢;have hg: ∀i,(ks.getD i default).length<=1000:=fun i=>by
  by_cases h:i<ks.length
  ·exact hks _ (zm h)
  ·rw [Yg,List.getElem?_eq_none Za];exact Yq _
 rw [<-hl2];refine zf [[0]] [] (c_form q.op) ?_;simp -implicitDefEqProofs only [aFm,↓zb,push_cast,simprocAttr,tt];unfold ownQ at hr;refine za (fun k1=>?_) fun k1=>?_
 ·have k1':isFm q.op=false:=Zc k1;rw [<-hr,if_pos (.inl k1'),z6];refine zt [[1],[0]] rfl Zd Zk ?_ Zl Zb Zb;rfl
 have k1':isFm q.op=true:=Zc k1;have hcl:=c_qclean q (yt q.op) hq (formM_uses q.op);rw [ye] at hcl;simp only [aFm] at hcl;refine zf [[0,0,0,0,0,0,0,0,0,6,6,7,1,1,15],[0,0,0]] [] (hcl) ?_;refine Zg ?_;refine za (fun k2=>?_) fun k2=>?_
 ·have k2':wY q (yt q.op)=false:=Zc k2;rw [<-hr,if_pos (.inr k2'),z6];refine zt [[1],[0]] rfl Zd Zk ?_ Zl Zb Zb;rfl
 have k2': ¬(isFm q.op=false\/wY q (yt q.op)=false):=by
  have:wY q (yt q.op)=true:=Zc k2;rw [k1',this];simp
 rw [if_neg k2'] at hr;refine za (fun k3=>?_) fun k3=>?_
 ·have k3':(ks.length:Int)≠(yt q.op).kids:=Zc k3;rw [<-hr,if_pos k3',z6];refine zt [[1],[0]] rfl Zd Zk ?_ Zl Zb Zb;rfl
 have k3': ¬(ks.length:Int)≠(yt q.op).kids:=Zc k3;rw [if_neg k3'] at hr;have k3'':(ks.length:Int)=(yt q.op).kids:=Zc k3;refine za (fun o1=>?_) fun o1=>?_
 ·have o1':q.op=1:=Zc o1;have hkn:(yt q.op).kids=0:=Z5 o1';rw [if_pos o1'] at hr;refine zf [[6],[0]] [] (c_find s q.table Za) ?_;have hlt:=wh (fun t:Tbl=>t.name.toList==q.table.toList) s;have hbd:byT s q.table=fidx (fun t:Tbl=>t.name.toList==q.table.toList) s:=rfl;rw [<-hbd] at hlt;generalize byT s q.table=b at hr hlt ⊢;by_cases hb:b≥0
  ·have hb2:(if 0>b then (0:Int) else b)=b:=if_neg Za;have hb3:decide (b≥0)=true:=YN hb;rw [if_pos hb] at hr;simp -implicitDefEqProofs only [yd,hb2,hb3,↓zb,push_cast,simprocAttr,tt];refine ⟨⟨hb,Za⟩,?_⟩;have hm:=zm (l:=s) (n:=b.toNat) Za;have hct:=c_types (s.getD b.toNat default) (by have:=(hs.tab _ hm).cols;omega);simp only [aT] at hct;refine zf [[0,3,1,1,2,6]] [] (hct) ?_;refine Zg ?_;rw [<-hr,z6];refine zt [[1],[0]] rfl Zd Zk ?_ Zl Zb Zb;rfl
  ·have hb3:decide (b≥0)=false:=YO hb;rw [if_neg hb] at hr;refine XI hb3 ?_;rw [<-hr,z6];refine zt [[1],[0]] rfl Zd Zk ?_ Zl Zb Zb;rfl
 have o1': ¬q.op=1:=Zc o1;rw [if_neg o1'] at hr;refine za (fun o2=>?_) fun o2=>?_
 ·have o2':q.op=2:=Zc o2;have hkn:(yt q.op).kids=0:=Z5 o2';rw [if_pos o2'] at hr;have hv:=c_values q hq;rw [ye] at hv;refine zf [[0,0,0,0,0,0,0,0,0,6,6,7,1,1,15]] [] (hv) ?_;refine Zg ?_;refine za (fun g=>?_) fun g=>?_
  ·have g':xg q≠0:=Zc g;rw [<-hr,if_pos g',z6];refine zt [[1],[0]] rfl Zd Zk ?_ Zl Zb Zb;rfl
  ·have g': ¬xg q≠0:=Zc g;rw [if_neg g'] at hr;refine zf [[1]] [] (c_cloneI q.types (by have:=hq.types;omega)) ?_;refine Zg ?_;rw [<-hr,z6];refine zt [[1],[0]] rfl Zd Zk ?_ Zl Zb Zb;rfl
 have o2': ¬q.op=2:=Zc o2;rw [if_neg o2'] at hr;refine za (fun o3=>?_) fun o3=>?_
 ·have o3':q.op=3:=Zc o3;have hkn:(yt q.op).kids=1:=Z5 o3';rw [if_pos o3'] at hr;have hk1:ks.length=1:=Za;have hcd:=c_cond (ks.getD 0 default) q.cond (Y3 (hg 0) Za) hq.cond;rw [yE] at hcd;refine ⟨Za,Za,?_⟩;refine zf [[1],[0,0,0,0,0,6]] [] (hcd) ?_;refine Zg ?_;refine ⟨ze Zf,?_⟩;refine za (fun g=>?_) fun g=>?_
  ·have g':vN (ks.getD 0 default) q.cond≠0:=Zc g;rw [<-hr,if_pos g',z6];refine zt [[1],[0]] rfl Zd Zk ?_ Zl Zb Zb;rfl
  ·have g': ¬vN (ks.getD 0 default) q.cond≠0:=Zc g;rw [if_neg g'] at hr;refine ⟨Za,Za,?_⟩;rw [<-hr,z6];refine zt [[1],[0]] rfl Zd Zk ?_ Zl Zb Zb;rfl
 have o3': ¬q.op=3:=Zc o3;rw [if_neg o3'] at hr;refine za (fun o4=>?_) fun o4=>?_
 ·have o4':q.op=4:=Zc o4;have hkn:(yt q.op).kids=1:=Z5 o4';rw [if_pos o4'] at hr;have hk1:ks.length=1:=Za;have hel:=hq.exprs;refine za (fun g1=>?_) fun g1=>?_
  ·have g1':q.exprs.length=0:=Zc g1;rw [<-hr,if_pos (.inl g1'),z6];refine zt [[1],[0]] rfl Zd Zk ?_ Zl Zb Zb;rfl
  have g1': ¬q.exprs.length=0:=Zc g1;refine za (fun g2=>?_) fun g2=>?_
  ·have g2':q.exprs.length>24:=Zp g2;rw [<-hr,if_pos (.inr g2'),z6];refine zt [[1],[0]] rfl Zd Zk ?_ Zl Zb Zb;rfl
  have g2': ¬q.exprs.length>24:=Zo g2;rw [if_neg (fun h=>h.elim g1' g2')] at hr;refine ⟨Za,Za,?_⟩;refine zf [[1],[6]] [] (c_cols (ks.getD 0 default) q.exprs (Y3 (hg 0) Za) hel hq.ex) ?_;refine Xd ?_;refine ⟨ze Zf,?_⟩;rw [<-hr,z6];refine zt [[1],[0]] rfl Zd Zk ?_ Zl Zb Zb;rfl
 have o4': ¬q.op=4:=Zc o4;rw [if_neg o4'] at hr;refine za (fun o5=>?_) fun o5=>?_
 ·have o5':q.op=5:=Zc o5;have hkn:(yt q.op).kids=2:=Z5 o5';rw [if_pos o5'] at hr;have hk1:ks.length=2:=Za;refine ⟨Za,Za,Za,Za,?_⟩;have hj:=c_join (ks.getD 0 default) (ks.getD 1 default) q (hg 0) (hg 1) hq;rw [ye] at hj;refine zf [[1],[1],[0,0,0,0,0,0,0,0,0,6,6,7,1,1,15]] [] (hj) ?_;refine Xd ?_;refine ⟨ze Zf,?_⟩;rw [<-hr,z6];refine zt [[1],[0]] rfl Zd Zk ?_ Zl Zb Zb;rfl
 have o5': ¬q.op=5:=Zc o5;rw [if_neg o5'] at hr;refine za (fun o10=>?_) fun o10=>?_
 ·have o10':q.op=10:=Zc o10;have hkn:(yt q.op).kids=1:=Z5 o10';rw [if_pos o10'] at hr;have hk1:ks.length=1:=Za;refine ⟨Za,Za,?_⟩;have hj:=c_group (ks.getD 0 default) q (Y3 (hg 0) Za) hq;rw [ye] at hj;refine zf [[1],[0,0,0,0,0,0,0,0,0,6,6,7,1,1,15]] [] (hj) ?_;refine Xd ?_;refine ⟨ze Zf,?_⟩;rw [<-hr,z6];refine zt [[1],[0]] rfl Zd Zk ?_ Zl Zb Zb;rfl
 have o10': ¬q.op=10:=Zc o10;rw [if_neg o10'] at hr;refine za (fun o6=>?_) fun o6=>?_
 ·have o6':q.op=6:=Zc o6;have hkn:(yt q.op).kids=2:=Z5 o6';have hk1:ks.length=2:=Za;rw [if_pos Za] at hr;refine za (fun _=>?_) (fun h=>absurd (o6.symm.trans h) Zi);refine ⟨Za,Za,Za,Za,?_⟩;refine zf [[1],[1]] [] (c_eqI (ks.getD 0 default) (ks.getD 1 default) (Y3 (hg 0) Za) (Y3 (hg 1) Za)) ?_;refine Zg ?_;refine ⟨ze Zf,?_⟩;refine za (fun g=>?_) fun g=>?_
  ·have g': ¬(ks.getD 0 default==ks.getD 1 default)=true:=Zc g;rw [<-hr,if_neg g',z6];refine zt [[1],[0]] rfl Zd Zk ?_ Zl Zb Zb;rfl
  ·have g':(ks.getD 0 default==ks.getD 1 default)=true:=Zc g;refine ⟨Za,Za,?_⟩;rw [<-hr,if_pos g',z6];refine zt [[1],[0]] rfl Zd Zk ?_ Zl Zb Zb;rfl
 have o6': ¬q.op=6:=Zc o6;refine za (fun o7=>?_) fun o7=>?_
 ·have o7':q.op=7:=Zc o7;have hkn:(yt q.op).kids=2:=Z5 o7';have hk1:ks.length=2:=Za;rw [if_pos Za] at hr;refine za (fun _=>?_) (fun h=>absurd (o7.symm.trans h) Zi);refine ⟨Za,Za,Za,Za,?_⟩;refine zf [[1],[1]] [] (c_eqI (ks.getD 0 default) (ks.getD 1 default) (Y3 (hg 0) Za) (Y3 (hg 1) Za)) ?_;refine Zg ?_;refine ⟨ze Zf,?_⟩;refine za (fun g=>?_) fun g=>?_
  ·have g': ¬(ks.getD 0 default==ks.getD 1 default)=true:=Zc g;rw [<-hr,if_neg g',z6];refine zt [[1],[0]] rfl Zd Zk ?_ Zl Zb Zb;rfl
  ·have g':(ks.getD 0 default==ks.getD 1 default)=true:=Zc g;refine ⟨Za,Za,?_⟩;rw [<-hr,if_pos g',z6];refine zt [[1],[0]] rfl Zd Zk ?_ Zl Zb Zb;rfl
 have o7': ¬q.op=7:=Zc o7;refine za (fun o8=>?_) fun o8=>?_
 ·have o8':q.op=8:=Zc o8;have hkn:(yt q.op).kids=2:=Z5 o8';have hk1:ks.length=2:=Za;rw [if_pos Za] at hr;refine ⟨Za,Za,Za,Za,?_⟩;refine zf [[1],[1]] [] (c_eqI (ks.getD 0 default) (ks.getD 1 default) (Y3 (hg 0) Za) (Y3 (hg 1) Za)) ?_;refine Zg ?_;refine ⟨ze Zf,?_⟩;refine za (fun g=>?_) fun g=>?_
  ·have g': ¬(ks.getD 0 default==ks.getD 1 default)=true:=Zc g;rw [<-hr,if_neg g',z6];refine zt [[1],[0]] rfl Zd Zk ?_ Zl Zb Zb;rfl
  ·have g':(ks.getD 0 default==ks.getD 1 default)=true:=Zc g;refine ⟨Za,Za,?_⟩;rw [<-hr,if_pos g',z6];refine zt [[1],[0]] rfl Zd Zk ?_ Zl Zb Zb;rfl
 have o8': ¬q.op=8:=Zc o8;have o9:q.op=9:=by
  simp only [isFm,Ys,Yf] at k1';omega
 have hkn:(yt q.op).kids=1:=Z5 o9;have hk1:ks.length=1:=Za;rw [if_neg Za] at hr;refine ⟨Za,Za,?_⟩;rw [<-hr,z6];refine zt [[1],[0]] rfl Zd Zk ?_ Zl Zb Zb;rfl
def wK (s:Sch) (q:Qr):List Int×Int:=if wL q>200 then ([],8) else if yP q>24 then ([],13) else typQ s q
theorem c_Type (s:Sch) (hs:SmallS s) (q:Qr) (ho:OkQ q):ACall Tryz.prog 34 [aS s,aQ q] [] (z6 (wK s q)) []:=by
 have h1:=c_qsize q ho;have h2:=c_qdepth q ho;have h3:=c_typQ s hs q ho;rw [ye] at h1 h2 h3 ⊢;refine zn mixed ttok Tryz.func34 Tryz.ntmps34 Tryz.results34 ?_;generalize hr:z6 (wK s q)=R;unfold wK at hr;refine Zn ?_;refine zf [[0,0,0,0,0,0,0,0,0,6,6,7,1,1,15]] [] (h1) ?_;refine Zg ?_;refine za (fun k1=>?_) fun k1=>?_
 ·rw [←hr,if_pos (Yc k1),z6];refine zt [[1],[0]] rfl Zd Zk ?_ Zl Zb Zb;rfl
 rw [if_neg (Yb k1)] at hr;refine zf [[0,0,0,0,0,0,0,0,0,6,6,7,1,1,15]] [] (h2) ?_;refine Zg ?_;refine za (fun k2=>?_) fun k2=>?_
 ·rw [←hr,if_pos (Yc k2),z6];refine zt [[1],[0]] rfl Zd Zk ?_ Zl Zb Zb;rfl
 rw [if_neg (Yb k2)] at hr;refine zf [[6],[0,0,0,0,0,0,0,0,0,6,6,7,1,1,15]] [] (h3) ?_;refine Xd ?_;rw [<-hr,z6];refine zt [[1],[0]] rfl Zd Zk ?_ Zl Zb Zb;rfl
end
end Go.Proofs.YtnmibokjpedkiaaGreatDoor
