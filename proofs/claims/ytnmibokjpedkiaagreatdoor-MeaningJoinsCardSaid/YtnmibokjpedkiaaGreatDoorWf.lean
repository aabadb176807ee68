/- Joins of two tables: a proof over an abstract machine of our own (part Wf) -/
import Derived.Test.YtnmibokjpedkiaaGreatDoorWe
set_option maxRecDepth 100000
set_option maxHeartbeats 4000000
set_option linter.all false
namespace Go.Proofs.YtnmibokjpedkiaaGreatDoor
section
open Go.Am
attribute [local simp, local push_cast] num boo str ints aV aTab zv aS aT aC yu x4 xf
theorem kg {p:Qr->Prop} (h: ∀q:Qr,(∀k∈q.kids,p k)->p q): ∀q,p q:=by
 intro q
 exact Qr.rec (motive_1:=p) (motive_2:=fun l=> ∀k∈l,p k) (fun a b c d e f g t r ks ih=>h _ ih) (by simp) (fun k l h1 h2=>by simpa using ⟨h1,h2⟩) q
structure OkQ1 (q:Qr):Prop where
 cond:Ok12 q.cond
 exprs:q.exprs.length<=1000
 ex: ∀e∈q.exprs,Ok12 e
 aggs:q.aggs.length<=1000
 ag: ∀a∈q.aggs,Ok12 a.arg
 types:q.types.length<=1000
 rows:q.rows.length<=1000
 row: ∀r∈q.rows,r.length<=1000
 kids:q.kids.length<=1000
inductive OkQ:Qr->Prop
 | mk (q:Qr) (h:OkQ1 q) (hk: ∀k∈q.kids,OkQ k):OkQ q
theorem OkQ.one {q:Qr} (h:OkQ q):OkQ1 q:=by cases h;assumption
theorem OkQ.kid {q k:Qr} (h:OkQ q) (hk:k∈q.kids):OkQ k:=by cases h with | mk _ _ h2=>exact h2 k hk
def xi (l:List Agg):List Ex:=(l.filter fun a=>a.fn !=1).map (·.arg)
def xw (q:Qr):List Ex:=
 (if q.op==3 || q.op==5 then [q.cond] else if q.op==4 || q.op==10 then q.exprs else [])++(if q.op==10 then xi q.aggs else [])
def vQ (q:Qr):Ob:= .var [num q.op,str q.table,num q.kind,boo q.all,num q.cond.op,num q.cond.type,num q.cond.num,str q.cond.text,num q.cond.col,.d (.sl 6 (zd rE q.cond.kids)),
    .d (.sl 6 (zd rE q.exprs)),.d (.sl 7 (zd rAgg q.aggs)),.d (.sl 1 (zd rI q.types)),.d (.sl 1 (zd xf q.rows)),.d (.sl 15 (zd rQ q.kids))]
theorem argsQ_snoc (l:List Agg) (a:Agg):xi (l++[a])=xi l++(if a.fn==1 then [] else [a.arg]):=by
 unfold xi
 rw [List.filter_append,List.map_append]
 by_cases h:a.fn==1
 ·simp [h,bne]
 ·simp [h,bne]
theorem exprsQ_len {q:Qr} (hq:OkQ1 q):(xw q).length<=2000:=by
 have h1:=hq.exprs
 have h2:=hq.aggs
 have h3:(xi q.aggs).length<=q.aggs.length:=by unfold xi;rw [List.length_map];exact List.length_filter_le _ _
 unfold xw
 rw [List.length_append]
 split<;>split<;>(try split)<;>simp<;>omega
theorem c_exprs (q:Qr) (hq:OkQ1 q):ACall Tryz.prog 94 [aQ q] [] (.d (.sl 6 (zd rE (xw q)))) []:=by
 rw [yD]
 refine zn mixed ttok Tryz.func94 Tryz.ntmps94 Tryz.results94 ?_
 generalize hr:A.d (.sl 6 (zd rE (xw q)))=R
 have hel:=hq.exprs
 have hal:=hq.aggs
 by_cases h10:q.op=10
 ·have e3:(q.op==3)=false:=by rw [h10];rfl
  have e5:(q.op==5)=false:=by rw [h10];rfl
  have e4:(q.op==4)=false:=by rw [h10];rfl
  have e10:(q.op==10)=true:=by rw [h10];rfl
  have hX:xw q=q.exprs++xi q.aggs:=by simp [xw,e3,e5,e4,e10]
  simp -implicitDefEqProofs only [argT,e3,e4,e5,e10,↓zb,push_cast,simprocAttr,tte]
  refine ⟨by omega,?_⟩
  refine zo mixed ttok 29 [1,27,28] [] (by simp only [zC,ends,push_cast,simprocAttr];rfl) (by simp only [zH,zp,ends,push_cast,simprocAttr];rfl) q.aggs.length (fun _=>True) (fun n=>[(3,.vec 22 (q.exprs++xi (q.aggs.take n)).length)]) (fun n=>[(1,vQ q),(22,.vec 36 6 (zd rE (q.exprs++xi (q.aggs.take n))) 0)]) trivial ?_ ?_
  ·exact Weak.keepL (by simp [cst,xi,ends]) (by simp [cst,vQ,xi,ends]) (by simp [cst,ends])
  intro I hI n hn hi
  simp -implicitDefEqProofs only [cst,vQ,↓zb,push_cast,simprocAttr,tte]
  refine za (fun h=>?_) fun h=>?_
  ·have h':n<q.aggs.length:=by have:=of_decide_eq_true h;omega
   have hw:=zj h' (by omega)
   have ht:xi (q.aggs.take (n+1))=xi (q.aggs.take n)++(if (q.aggs.getD n default).fn==1 then [] else [(q.aggs.getD n default).arg]):=by
    rw [<-argsQ_snoc,z7 _ _ h']
   have hlen:(xi (q.aggs.take n)).length<=n:=by
    unfold xi;rw [List.length_map]
    exact Nat.le_trans (List.length_filter_le _ _) (by rw [List.length_take];omega)
   have hlen2:(q.exprs++xi (q.aggs.take n)).length<=2000:=by rw [List.length_append];omega
   refine ⟨(by first | omega | trivial | (refine ⟨?_,?_⟩<;>first | omega | trivial | (refine ⟨?_,?_⟩<;>first | omega | trivial | (refine ⟨?_,?_⟩<;>first | omega | trivial | rfl)))),?_⟩
   refine za (fun g=>?_) fun g=>?_
   ·have g':((q.aggs.getD n default).fn==1)=false:=by simpa [bne] using g
    rw [g',if_neg (by decide),<-List.append_nil [(q.aggs.getD n default).arg]] at ht
    have ht2:q.exprs++xi (q.aggs.take (n+1))=(q.exprs++xi (q.aggs.take n))++[(q.aggs.getD n default).arg]:=by rw [ht,List.append_nil,List.append_assoc]
    refine ⟨by omega,?_⟩
    have hz:(q.exprs++xi (q.aggs.take n)++[(q.aggs.getD n default).arg]).length=(q.exprs++xi (q.aggs.take n)).length+1:=by rw [List.length_append];rfl
    generalize (q.exprs++xi (q.aggs.take n))=L at *
    exact zq hI n rfl h' trivial (by simp [hw,ht2,hz,zh,vQ,ends]) (by simp [hw,ht2,hz,zh,vQ,ends]) (by simp [hw,ht2,hz,zh,vQ,ends]) (by simp [hw,ht2,hz,zh,vQ,ends])
   ·have g':((q.aggs.getD n default).fn==1)=true:=by simpa [bne] using g
    rw [g',if_pos rfl,List.append_nil] at ht
    exact zq hI n rfl h' trivial (by simp [hw,ht,vQ,ends]) (by simp [hw,ht,vQ,ends]) (by simp [hw,ht,vQ,ends]) (by simp [hw,ht,vQ,ends])
  ·obtain rfl:n=q.aggs.length:=by have:=of_decide_eq_false h;omega
   rw [List.take_length]
   refine zu [6] rfl (by simp) (by simp [zc]<;>omega) ?_ (by first | rfl | simp [ends] | (subst_vars;simp [ends])) (by simp [ends]) (by simp [ends])
   rw [<-hr,hX]
 ·have e10:(q.op==10)=false:=by simpa using h10
  simp -implicitDefEqProofs only [argT,e10,↓zb,push_cast,simprocAttr,tte]
  refine za (fun h3=>?_) fun h3=>?_
  ·have hX:xw q=[q.cond]:=by simp [xw,h3,e10]
   refine za (fun _=>?_) (fun h=>absurd (h3.symm.trans h) (by decide))
   refine zu [6] rfl (by simp) (by simp [zc]<;>omega) ?_ (by first | rfl | simp [ends] | (subst_vars;simp [ends])) (by simp [ends]) (by simp [ends])
   rw [<-hr,hX,zG,yM]
   rfl
  refine za (fun h5=>?_) fun h5=>?_
  ·have hX:xw q=[q.cond]:=by simp [xw,h5,e10]
   refine zu [6] rfl (by simp) (by simp [zc]<;>omega) ?_ (by first | rfl | simp [ends] | (subst_vars;simp [ends])) (by simp [ends]) (by simp [ends])
   rw [<-hr,hX,zG,yM]
   rfl
  refine za (fun h4=>?_) fun h4=>?_
  ·have hX:xw q=q.exprs:=by simp [xw,h3,h5,h4,e10]
   refine za (fun _=>?_) (fun h=>absurd (h4.symm.trans h) (by decide))
   refine ⟨by omega,?_⟩
   refine zu [6] rfl (by simp) (by simp [zc]<;>omega) ?_ (by first | rfl | simp [ends] | (subst_vars;simp [ends])) (by simp [ends]) (by simp [ends])
   rw [<-hr,hX]
  ·have hX:xw q=[]:=by simp [xw,h3,h5,h4,e10]
   refine zu [6] rfl (by simp) (by simp [zc]<;>omega) ?_ (by first | rfl | simp [ends] | (subst_vars;simp [ends])) (by simp [ends]) (by simp [ends])
   rw [<-hr,hX]
   rfl
def jg (n:Int):List (List Val)->Int
 | []=>n
 | r::l=>jg (IntKind.i64.wrap (n+r.length)) l
mutual
def jd:Qr->Int
 | .mk a b c d e f g h i ks=>sizeQs (jg (sizeL 1 (xw (.mk a b c d e f g h i ks))) i) ks
def sizeQs (n:Int):List Qr->Int
 | []=>n
 | q::l=>sizeQs (IntKind.i64.wrap (n+jd q)) l
end
theorem sizeQ_eq (q:Qr):jd q=sizeQs (jg (sizeL 1 (xw q)) q.rows) q.kids:=by cases q;rw [jd];rfl
mutual
def vg:Qr->Int
 | .mk a b c d e f g h i ks=>IntKind.i64.wrap (depthQs 0 ks+1)
def depthQs (n:Int):List Qr->Int
 | []=>n
 | q::l=>depthQs (if n<vg q then vg q else n) l
end
theorem depthQ_eq (q:Qr):vg q=IntKind.i64.wrap (depthQs 0 q.kids+1):=by cases q;rw [vg];rfl
theorem qo (r:List Val): ∀(l:List (List Val)) (n:Int),jg n (l++[r])=IntKind.i64.wrap (jg n l+r.length)
 | [],n=>rfl
 | x::l,n=>by simp only [List.cons_append,jg];exact qo r l _
theorem jZ (q:Qr): ∀(l:List Qr) (n:Int),sizeQs n (l++[q])=IntKind.i64.wrap (sizeQs n l+jd q)
 | [],n=>by simp [sizeQs]
 | x::l,n=>by simp only [List.cons_append,sizeQs];exact jZ q l _
theorem jN (q:Qr): ∀(l:List Qr) (n:Int),depthQs n (l++[q])=(if depthQs n l<vg q then vg q else depthQs n l)
 | [],n=>rfl
 | x::l,n=>by simp only [List.cons_append,depthQs];exact jN q l _
theorem exprsQ_ok {q:Qr} (hq:OkQ1 q): ∀e∈xw q,Ok12 e:=by
 intro e he
 unfold xw at he
 rcases List.mem_append.1 he with h | h
 ·split at h
  ·rw [List.mem_singleton.1 h];exact hq.cond
  ·split at h
   ·exact hq.ex e h
   ·simp at h
 ·split at h
  ·unfold xi at h
   obtain ⟨a,ha,rfl⟩:=List.mem_map.1 h
   exact hq.ag a (List.mem_filter.1 ha).1
  ·simp at h
theorem c_qsize: ∀q:Qr,OkQ q->ACall Tryz.prog 56 [aQ q] [] (num (jd q)) []:=
 kg (p:=fun q=>OkQ q->ACall Tryz.prog 56 [aQ q] [] (num (jd q)) []) fun q ih ho=>by
 have hq:=ho.one
 have hce:=c_exprs q hq
 have hex:=exprsQ_ok hq
 have hel:=exprsQ_len hq
 have hrl:=hq.rows
 have hkl:=hq.kids
 rw [yD] at hce ⊢
 refine zn mixed ttok Tryz.func56 Tryz.ntmps56 Tryz.results56 ?_
 generalize hr:num (jd q)=R
 simp -implicitDefEqProofs only [argT,↓zb,push_cast,simprocAttr,tte]
 refine ze [[0,0,0,0,0,0,0,0,0,6,6,7,1,1,15]] [] (hce) ?_
 simp -implicitDefEqProofs only [↓zb,push_cast,simprocAttr,tte]
 generalize hE:xw q=E at *
 refine zo mixed ttok 13 [1,11,12] [] (by simp only [zC,ends,push_cast,simprocAttr];rfl) (by simp only [zH,zp,ends,push_cast,simprocAttr];rfl) E.length (fun _=>True) (fun n=>[(3,num (sizeL 1 (E.take n)))]) (fun _=>[(1,vQ q)]) trivial ?_ ?_
 ·exact Weak.keepL (by simp [cst,sizeL,ends]) (by simp [cst,vQ,ends]) (by simp [cst,ends])
 intro I hI n hn hi
 simp -implicitDefEqProofs only [cst,vQ,↓zb,push_cast,simprocAttr,tte]
 refine za (fun h=>?_) fun h=>?_
 ·have h':n<E.length:=by have:=of_decide_eq_true h;omega
  have hw:=zj h' (by omega)
  have ht:=vo (E.getD n default) (E.take n) 1
  rw [<-z7 _ _ h'] at ht
  refine ⟨(by first | omega | trivial | (refine ⟨?_,?_⟩<;>first | omega | trivial | (refine ⟨?_,?_⟩<;>first | omega | trivial | (refine ⟨?_,?_⟩<;>first | omega | trivial | rfl)))),?_⟩
  refine ze [[0,0,0,0,0,6]] [] (c_size _ (hex _ (zk h'))) ?_
  simp -implicitDefEqProofs only [↓zb,push_cast,simprocAttr,tte]
  exact zq hI n rfl h' trivial (by simp [hw,ht,vQ,ends]) (by simp [hw,ht,vQ,ends]) (by simp [hw,ht,vQ,ends]) (by simp [hw,ht,vQ,ends])
 obtain rfl:n=E.length:=by have:=of_decide_eq_false h;omega
 clear hI
 rw [List.take_length]
 generalize hs1:sizeL 1 E=s1
 refine zo mixed ttok 25 [1,23,24] [] (by simp only [zC,ends,push_cast,simprocAttr];rfl) (by simp only [zH,zp,ends,push_cast,simprocAttr];rfl) q.rows.length (fun _=>True) (fun n=>[(3,num (jg s1 (q.rows.take n)))]) (fun _=>[(1,vQ q)]) trivial ?_ ?_
 ·exact Weak.keepL (by simp [cst,jg,ends]) (by simp [cst,vQ,ends]) (by simp [cst,ends])
 intro I hI n hn hi
 simp -implicitDefEqProofs only [cst,vQ,↓zb,push_cast,simprocAttr,tte]
 refine za (fun h=>?_) fun h=>?_
 ·have h':n<q.rows.length:=by have:=of_decide_eq_true h;omega
  have hw:=zj h' (by omega)
  have ht:=qo (q.rows.getD n default) (q.rows.take n) s1
  rw [<-z7 _ _ h'] at ht
  refine ⟨(by first | omega | trivial | (refine ⟨?_,?_⟩<;>first | omega | trivial | (refine ⟨?_,?_⟩<;>first | omega | trivial | (refine ⟨?_,?_⟩<;>first | omega | trivial | rfl)))),?_⟩
  exact zq hI n rfl h' trivial (by simp [hw,ht,vQ,ends]) (by simp [hw,ht,vQ,ends]) (by simp [hw,ht,vQ,ends]) (by simp [hw,ht,vQ,ends])
 obtain rfl:n=q.rows.length:=by have:=of_decide_eq_false h;omega
 clear hI
 rw [List.take_length]
 generalize hs2:jg s1 q.rows=s2
 refine zo mixed ttok 37 [1,35,36] [] (by simp only [zC,ends,push_cast,simprocAttr];rfl) (by simp only [zH,zp,ends,push_cast,simprocAttr];rfl) q.kids.length (fun _=>True) (fun n=>[(3,num (sizeQs s2 (q.kids.take n)))]) (fun _=>[(1,vQ q)]) trivial ?_ ?_
 ·exact Weak.keepL (by simp [cst,sizeQs,ends]) (by simp [cst,vQ,ends]) (by simp [cst,ends])
 intro I hI n hn hi
 simp -implicitDefEqProofs only [cst,vQ,↓zb,push_cast,simprocAttr,tte]
 refine za (fun h=>?_) fun h=>?_
 ·have h':n<q.kids.length:=by have:=of_decide_eq_true h;omega
  have hw:=zj h' (by omega)
  have ht:=jZ (q.kids.getD n default) (q.kids.take n) s2
  rw [<-z7 _ _ h'] at ht
  refine ⟨(by first | omega | trivial | (refine ⟨?_,?_⟩<;>first | omega | trivial | (refine ⟨?_,?_⟩<;>first | omega | trivial | (refine ⟨?_,?_⟩<;>first | omega | trivial | rfl)))),?_⟩
  have hc:=ih _ (zk h') (ho.kid (zk h'))
  rw [yD] at hc
  refine ze [[0,0,0,0,0,0,0,0,0,6,6,7,1,1,15]] [] (hc) ?_
  simp -implicitDefEqProofs only [↓zb,push_cast,simprocAttr,tte]
  exact zq hI n rfl h' trivial (by simp [hw,ht,vQ,ends]) (by simp [hw,ht,vQ,ends]) (by simp [hw,ht,vQ,ends]) (by simp [hw,ht,vQ,ends])
 obtain rfl:n=q.kids.length:=by have:=of_decide_eq_false h;omega
 exact zi trivial (by rw [<-hr,sizeQ_eq,List.take_length,hE,hs1,hs2];rfl) (by simp [ends])
theorem c_qdepth: ∀q:Qr,OkQ q->ACall Tryz.prog 57 [aQ q] [] (num (vg q)) []:=
 kg (p:=fun q=>OkQ q->ACall Tryz.prog 57 [aQ q] [] (num (vg q)) []) fun q ih ho=>by
 have hq:=ho.one
 have hkl:=hq.kids
 rw [yD]
 refine zn mixed ttok Tryz.func57 Tryz.ntmps57 Tryz.results57 ?_
 generalize hr:num (vg q)=R
 simp -implicitDefEqProofs only [argT,↓zb,push_cast,simprocAttr,tte]
 refine zo mixed ttok 9 [7,8] [] (by simp only [zC,ends,push_cast,simprocAttr];rfl) (by simp only [zH,zp,ends,push_cast,simprocAttr];rfl) q.kids.length (fun _=>True) (fun n=>[(3,num (depthQs 0 (q.kids.take n)))]) (fun _=>[]) trivial ?_ ?_
 ·exact Weak.keepL (by simp [cst,depthQs,ends]) (by simp [cst,vQ,ends]) (by simp [cst,ends])
 intro I hI n hn hi
 simp -implicitDefEqProofs only [cst,vQ,↓zb,push_cast,simprocAttr,tte]
 refine za (fun h=>?_) fun h=>?_
 ·have h':n<q.kids.length:=by have:=of_decide_eq_true h;omega
  have hw:=zj h' (by omega)
  have ht:=jN (q.kids.getD n default) (q.kids.take n) 0
  rw [<-z7 _ _ h'] at ht
  refine ⟨(by first | omega | trivial | (refine ⟨?_,?_⟩<;>first | omega | trivial | (refine ⟨?_,?_⟩<;>first | omega | trivial | (refine ⟨?_,?_⟩<;>first | omega | trivial | rfl)))),?_⟩
  have hc:=ih _ (zk h') (ho.kid (zk h'))
  rw [yD] at hc
  refine ze [[0,0,0,0,0,0,0,0,0,6,6,7,1,1,15]] [] (hc) ?_
  simp -implicitDefEqProofs only [↓zb,push_cast,simprocAttr,tte]
  exact zq hI n rfl h' trivial (by simp [hw,ht,ends]) (by simp [hw,ht,ends]) (by simp [hw,ht,ends]) (by simp [hw,ht,ends])
 obtain rfl:n=q.kids.length:=by have:=of_decide_eq_false h;omega
 exact zi trivial (by rw [<-hr,depthQ_eq,List.take_length];rfl) (by simp [ends])
end
section
open Go.Am
attribute [local simp, local push_cast] num boo str ints aV aTab zv aS aT aC yu x4 xf
def fmAt (op:Int):FmD:=fmTab.getD op.toNat default
def isFm (op:Int):Bool:=decide (1<=op)&&decide (op<=10)
def yQ (op:Int):FmD:=if isFm op then fmAt op else default
def aFm (o:FmD):A:= .agg [.d (.lit (.string o.word)),.d (.lit (.int .i64 o.kids)),.d (.lit (.string o.uses))]
theorem fmRow_at: ∀n:Nat,n<11->(List.map A.d fmRow)[n * 3]? =some (.d (.lit (.string (fmTab.getD n default).word)))/\((List.map A.d fmRow).drop (n * 3)).take 3=[.d (.lit (.string (fmTab.getD n default).word)),.d (.lit (.int .i64 (fmTab.getD n default).kids)),.d (.lit (.string (fmTab.getD n default).uses))]:=by
 intro n hn
 match n,hn with
 | 0,_=>exact ⟨rfl,rfl⟩
 | 1,_=>exact ⟨rfl,rfl⟩
 | 2,_=>exact ⟨rfl,rfl⟩
 | 3,_=>exact ⟨rfl,rfl⟩
 | 4,_=>exact ⟨rfl,rfl⟩
 | 5,_=>exact ⟨rfl,rfl⟩
 | 6,_=>exact ⟨rfl,rfl⟩
 | 7,_=>exact ⟨rfl,rfl⟩
 | 8,_=>exact ⟨rfl,rfl⟩
 | 9,_=>exact ⟨rfl,rfl⟩
 | 10,_=>exact ⟨rfl,rfl⟩
 | n+11,h=>omega
theorem fm_some: ∀n:Nat,1<=n->n<11->((fmTab.getD n default).word.toList==[])=false:=by
 have h:(List.range 11).all (fun n=>decide (n=0) || !(fmTab.getD n default).word.data.toList.isEmpty)=true:=by decide
 intro n h1 h2
 have:=all_range.1 h n h2
 rw [decide_eq_false (by omega),Bool.false_or] at this
 rw [ByteArray.toList_eq]
 cases hw:(fmTab.getD n default).word.data.toList with
 | nil=>rw [hw] at this;cases this
 | cons _ _=>rfl
theorem c_form (op:Int):ACall Tryz.prog 96 [num op] [] (.tup [aFm (yQ op),boo (isFm op)]) []:=by
 refine zn mixed ttok Tryz.func96 Tryz.ntmps96 Tryz.results96 ?_
 generalize hr:A.tup [aFm (yQ op),boo (isFm op)]=R
 have he:(ByteArray.mk #[]).toList=[]:=by simp [ByteArray.toList_eq]
 have hlen:(List.map A.d fmRow).length=33:=rfl
 by_cases ho:0<=op/\op<11
 ·obtain ⟨h0,h29⟩:=ho
  obtain ⟨h1,h3⟩:=fmRow_at op.toNat (by omega)
  simp -implicitDefEqProofs only [argT,tabFm,he,h1,h3,↓zb,push_cast,simprocAttr,tte]
  refine za (fun h=>absurd h (by simp;omega)) fun _=>za (fun h=>absurd h (by simp;omega)) fun _=>?_
  refine ⟨⟨h0,by omega⟩,?_⟩
  subst hr
  by_cases hz:op=0
  ·subst hz
   have hw:((fmTab.getD (0:Int).toNat default).word.toList==[])=true:=by rw [ByteArray.toList_eq];rfl
   refine za (fun _=>?_) fun h=>absurd h (by rw [hw];decide)
   refine zx [[0,0,0],[0]] rfl (by simp) (by simp [zc]<;>omega) ?_ (by first | rfl | simp [ends] | (subst_vars;simp [ends])) (by simp [ends]) (by simp [ends])
   rfl
  ·have hw:((fmTab.getD op.toNat default).word.toList==[])=false:=fm_some op.toNat (by omega) (by omega)
   refine za (fun h=>absurd h (by rw [hw];decide)) fun _=>?_
   have hy:isFm op=true:=by rw [isFm,decide_eq_true (by omega),decide_eq_true (by omega)];rfl
   refine ⟨⟨h0,by omega⟩,by rw [hlen];omega,?_⟩
   rw [yQ,hy]
   refine zx [[0,0,0],[0]] rfl (by simp) (by simp [zc]<;>omega) ?_ (by first | rfl | simp [ends] | (subst_vars;simp [ends])) (by simp [ends]) (by simp [ends])
   rfl
 ·have hn:isFm op=false:=by
   rw [isFm,Bool.and_eq_false_iff,decide_eq_false_iff_not,decide_eq_false_iff_not];omega
  simp -implicitDefEqProofs only [argT,tabFm,he,↓zb,push_cast,simprocAttr,tte]
  have hf:A.tup [aFm default,boo false]=R:=by rw [<-hr,yQ,hn];rfl
  subst hf
  refine za (fun g=>?_) fun g=>?_
  ·refine zx [[0,0,0],[0]] rfl (by simp) (by simp [zc]<;>omega) ?_ (by first | rfl | simp [ends] | (subst_vars;simp [ends])) (by simp [ends]) (by simp [ends])
   rfl
  ·refine za (fun _=>?_) fun h=>absurd h (by simp at g;simp;omega)
   refine zx [[0,0,0],[0]] rfl (by simp) (by simp [zc]<;>omega) ?_ (by first | rfl | simp [ends] | (subst_vars;simp [ends])) (by simp [ends]) (by simp [ends])
   rfl
theorem c_eqE0 (l:List Ex) (hl:l.length<=1000):ACall Tryz.prog 196 [.d (.sl 6 (zd rE l)),.d (.sl 6 (zd rE [])),.clo 159 []] [] (boo (l.length==0)) []:=by
 refine zn mixed ttok Tryz.func196 Tryz.ntmps196 Tryz.results196 ?_
 generalize hr:boo (l.length==0)=R
 simp -implicitDefEqProofs only [argT,↓zb,push_cast,simprocAttr,tte]
 have hz: ∀K σ,vc Tryz.prog K σ=vc Tryz.prog K σ:=fun _ _=>rfl
 refine za (fun h0=>?_) fun h0=>?_
 ·have h1: ¬l.length=0:=by simpa using h0
  exact zi trivial (by rw [<-hr,beq_false_of_ne h1];rfl) (by simp [ends])
 have h1:l.length=0:=by simpa using h0
 rw [h1]
 refine zo mixed ttok 17 [15,16] [] (by simp only [zC,ends,push_cast,simprocAttr];rfl) (by simp only [zH,zp,ends,push_cast,simprocAttr];rfl) 0 (fun _=>True) (fun _=>[]) (fun _=>[]) trivial ?_ ?_
 ·exact Weak.keepL (by simp [cst,ends]) (by simp [cst,ends]) (by simp [cst,ends])
 intro I hI n hn hi
 obtain rfl:n=0:=by omega
 simp -implicitDefEqProofs only [cst,↓zb,push_cast,simprocAttr,tte]
 exact zi trivial (by rw [<-hr,h1];rfl) (by simp [ends])
def e0:Ex:= .mk 0 0 0 ByteArray.empty 0 []
theorem aE_e0:aE e0= .agg [num 0,num 0,num 0,str ByteArray.empty,num 0,.d (.sl 6 (zd rE []))]:=by rw [xx];rfl
def uK (e:Ex):Bool:=((((e.op==0&&e.type==0)&&e.num==0)&&e.text.toList==[])&&e.col==0)&&(e.kids.length==0)
theorem c_same0 (e:Ex) (hl:e.kids.length≤1000):ACall Tryz.prog 159 [aE e,aE e0] [] (boo (uK e)) []:=by
 have hc:=c_eqE0 e.kids hl
 rw [xx,aE_e0]
 refine zn mixed ttok Tryz.func159 Tryz.ntmps159 Tryz.results159 ?_
 generalize hr:boo (uK e)=R
 have he:ByteArray.empty.toList=[]:=by simp [ByteArray.toList_eq]
 simp -implicitDefEqProofs only [argT,he,↓zb,push_cast,simprocAttr,tte]
 unfold uK at hr
 refine za (fun h1=>?_) fun h1=>?_
 ·refine za (fun h2=>?_) fun h2=>?_
  ·refine za (fun h3=>?_) fun h3=>?_
   ·refine za (fun h4=>?_) fun h4=>?_
    ·refine za (fun h5=>?_) fun h5=>?_
     ·refine ze [[6],[6],[]] [] (hc) ?_
      simp -implicitDefEqProofs only [↓zb,push_cast,simprocAttr,tte]
      exact zi trivial (by rw [<-hr];simp only [h1,h2,h3,h4,h5,Bool.true_and];rfl) (by simp [ends])
     ·exact zi trivial (by rw [<-hr];simp only [h1,h2,h3,h4,h5,Bool.true_and,Bool.false_and];rfl) (by simp [ends])
    ·exact zi trivial (by rw [<-hr];simp only [h1,h2,h3,h4,Bool.true_and,Bool.false_and];rfl) (by simp [ends])
   ·exact zi trivial (by rw [<-hr];simp only [h1,h2,h3,Bool.true_and,Bool.false_and];rfl) (by simp [ends])
  ·exact zi trivial (by rw [<-hr];simp only [h1,h2,Bool.true_and,Bool.false_and];rfl) (by simp [ends])
 ·exact zi trivial (by rw [<-hr];simp only [h1,Bool.false_and];rfl) (by simp [ends])
theorem ap0:Apart (.string ⟨#[116,97,98,108,101]⟩) vW=True:=eq_true (vR _)
theorem ap1 (v0:Value):Apart (.string ⟨#[107,105,110,100]⟩) (bput vW (.string ⟨#[116,97,98,108,101]⟩) v0)=True:=eq_true (zP rfl (vR _))
theorem ap2 (v0 v1:Value):Apart (.string ⟨#[97,108,108]⟩) (bput (bput vW (.string ⟨#[116,97,98,108,101]⟩) v0) (.string ⟨#[107,105,110,100]⟩) v1)=True:=eq_true (zP rfl (zP rfl (vR _)))
theorem ap3 (v0 v1 v2:Value):Apart (.string ⟨#[99,111,110,100]⟩) (bput (bput (bput vW (.string ⟨#[116,97,98,108,101]⟩) v0) (.string ⟨#[107,105,110,100]⟩) v1) (.string ⟨#[97,108,108]⟩) v2)=True:=eq_true (zP rfl (zP rfl (zP rfl (vR _))))
theorem ap4 (v0 v1 v2 v3:Value):Apart (.string ⟨#[101,120,112,114,115]⟩) (bput (bput (bput (bput vW (.string ⟨#[116,97,98,108,101]⟩) v0) (.string ⟨#[107,105,110,100]⟩) v1) (.string ⟨#[97,108,108]⟩) v2) (.string ⟨#[99,111,110,100]⟩) v3)=True:=eq_true (zP rfl (zP rfl (zP rfl (zP rfl (vR _)))))
theorem ap5 (v0 v1 v2 v3 v4:Value):Apart (.string ⟨#[97,103,103,115]⟩) (bput (bput (bput (bput (bput vW (.string ⟨#[116,97,98,108,101]⟩) v0) (.string ⟨#[107,105,110,100]⟩) v1) (.string ⟨#[97,108,108]⟩) v2) (.string ⟨#[99,111,110,100]⟩) v3) (.string ⟨#[101,120,112,114,115]⟩) v4)=True:=eq_true (zP rfl (zP rfl (zP rfl (zP rfl (zP rfl (vR _))))))
theorem ap6 (v0 v1 v2 v3 v4 v5:Value):Apart (.string ⟨#[116,121,112,101,115]⟩) (bput (bput (bput (bput (bput (bput vW (.string ⟨#[116,97,98,108,101]⟩) v0) (.string ⟨#[107,105,110,100]⟩) v1) (.string ⟨#[97,108,108]⟩) v2) (.string ⟨#[99,111,110,100]⟩) v3) (.string ⟨#[101,120,112,114,115]⟩) v4) (.string ⟨#[97,103,103,115]⟩) v5)=True:=eq_true (zP rfl (zP rfl (zP rfl (zP rfl (zP rfl (zP rfl (vR _)))))))
theorem ap7 (v0 v1 v2 v3 v4 v5 v6:Value):Apart (.string ⟨#[114,111,119,115]⟩) (bput (bput (bput (bput (bput (bput (bput vW (.string ⟨#[116,97,98,108,101]⟩) v0) (.string ⟨#[107,105,110,100]⟩) v1) (.string ⟨#[97,108,108]⟩) v2) (.string ⟨#[99,111,110,100]⟩) v3) (.string ⟨#[101,120,112,114,115]⟩) v4) (.string ⟨#[97,103,103,115]⟩) v5) (.string ⟨#[116,121,112,101,115]⟩) v6)=True:=eq_true (zP rfl (zP rfl (zP rfl (zP rfl (zP rfl (zP rfl (zP rfl (vR _))))))))
def wR (q:Qr):List (ByteArray×Bool):=[(⟨#[116,97,98,108,101]⟩, !q.table.toList==[]),(⟨#[107,105,110,100]⟩,q.kind !=0),(⟨#[97,108,108]⟩,q.all),(⟨#[99,111,110,100]⟩, !uK q.cond),(⟨#[101,120,112,114,115]⟩,decide ((q.exprs.length:Int)>0)),(⟨#[97,103,103,115]⟩,decide ((q.aggs.length:Int)>0)),(⟨#[116,121,112,101,115]⟩,decide ((q.types.length:Int)>0)),(⟨#[114,111,119,115]⟩,decide ((q.rows.length:Int)>0))]
def uW (b:ByteArray):ByteArray:=⟨#[32]⟩++b++⟨#[32]⟩
def badU (o:FmD) (p:ByteArray×Bool):Bool:=p.2&& !(Lib.contains (uW o.uses).data.toList (uW p.1).data.toList)
def xH (q:Qr) (o:FmD):Bool:=(wR q).all fun p=> !badU o p
def bagQ (q:Qr):Value->Option Value:=bput (bput (bput (bput (bput (bput (bput (bput (vW) (.string ⟨#[116,97,98,108,101]⟩) (.bool ((wR q).getD 0 default).2)) (.string ⟨#[107,105,110,100]⟩) (.bool ((wR q).getD 1 default).2)) (.string ⟨#[97,108,108]⟩) (.bool ((wR q).getD 2 default).2)) (.string ⟨#[99,111,110,100]⟩) (.bool ((wR q).getD 3 default).2)) (.string ⟨#[101,120,112,114,115]⟩) (.bool ((wR q).getD 4 default).2)) (.string ⟨#[97,103,103,115]⟩) (.bool ((wR q).getD 5 default).2)) (.string ⟨#[116,121,112,101,115]⟩) (.bool ((wR q).getD 6 default).2)) (.string ⟨#[114,111,119,115]⟩) (.bool ((wR q).getD 7 default).2)
theorem wQ {S:Value->Option Value} {k v x y:Value} (h:bput S k v x=some y):(x,y)=(k,v)\/S x=some y:=by
 unfold bput at h
 split at h
 ·rename_i e;cases h;rw [uy e];exact .inl rfl
 ·exact .inr h
theorem bag_uses {q:Qr} {x y:Value} (h:bagQ q x=some y): ∃p∈wR q,(x,y)=(.string p.1,.bool p.2):=by
 have key: ∀i,i<8->(x,y)=(.string ((wR q).getD i default).1,.bool ((wR q).getD i default).2)-> ∃p∈wR q,(x,y)=(.string p.1,.bool p.2):=fun i hi e=>⟨_,zk (show i<(wR q).length from hi),e⟩
 unfold bagQ at h
 rcases wQ h with h | h
 ·exact key 7 (by omega) h
 rcases wQ h with h | h
 ·exact key 6 (by omega) h
 rcases wQ h with h | h
 ·exact key 5 (by omega) h
 rcases wQ h with h | h
 ·exact key 4 (by omega) h
 rcases wQ h with h | h
 ·exact key 3 (by omega) h
 rcases wQ h with h | h
 ·exact key 2 (by omega) h
 rcases wQ h with h | h
 ·exact key 1 (by omega) h
 rcases wQ h with h | h
 ·exact key 0 (by omega) h
 cases h
theorem uses_bag {q:Qr} {p:ByteArray×Bool} (h:p∈wR q):bagQ q (.string p.1)=some (.bool p.2):=by
 simp only [wR,List.mem_cons,List.not_mem_nil,or_false] at h
 rcases h with rfl | rfl | rfl | rfl | rfl | rfl | rfl | rfl<;>rfl
theorem uses_size {q:Qr} {p:ByteArray×Bool} (h:p∈wR q):p.1.size<=5:=by
 simp only [wR,List.mem_cons,List.not_mem_nil,or_false] at h
 rcases h with rfl | rfl | rfl | rfl | rfl | rfl | rfl | rfl<;>exact Nat.le_of_ble_eq_true rfl
theorem qV: ∀(n:Nat) (l:List Nat),l.Nodup→(∀i∈l,i<n)→l.length≤n
 | 0,[],_,_=>Nat.le_refl _
 | 0,x::l,_,h=>by have:=h x (by simp);omega
 | n+1,l,hd,h=>by
   by_cases hn:n∈l
   ·have:=qV n (l.erase n) (hd.erase n) fun i hi=>by
     have h1:=h i (List.mem_of_mem_erase hi)
     have h2:i≠n:=fun e=>by subst e;exact (List.Nodup.not_mem_erase hd) hi
     omega
    rw [List.length_erase_of_mem hn] at this
    omega
   ·have:=qV n l hd fun i hi=>by
     have h1:=h i hi
     have h2:i≠n:=fun e=>hn (e ▸ hi)
     omega
    omega
def badE (o:FmD):Value×Value->Bool
 | (.string a,.bool b)=>badU o (a,b)
 | _=>false
def okSn (o:FmD) (es:List (Value×Value)) (sn:List Nat):Prop:=sn.Nodup/\ ∀i∈sn,∃p,es[i]? =some p/\badE o p=false
theorem okSn.few {o:FmD} {es:List (Value×Value)} {sn:List Nat} (h:okSn o es sn):sn.length<=es.length:=
 qV _ _ h.1 fun i hi=>by
  obtain ⟨p,hp,_⟩:=h.2 i hi
  exact (List.getElem?_eq_some_iff.1 hp).1
theorem okSn.add {o:FmD} {es:List (Value×Value)} {sn:List Nat} (h:okSn o es sn) {i:Nat} {p:Value×Value} (hi:i ∉ sn) (hp:es[i]? =some p) (hb:badE o p=false):okSn o es (sn++[i]):=by
 refine ⟨List.nodup_append.2 ⟨h.1,by simp,fun a ha b hb e=>?_⟩,fun j hj=>?_⟩
 ·simp at hb;subst hb;subst e;exact hi ha
 ·rcases List.mem_append.1 hj with hj | hj
  ·exact h.2 j hj
  ·simp at hj;subst hj;exact ⟨p,hp,hb⟩
theorem c_qclean (q:Qr) (o:FmD) (hq:OkQ1 q) (ho:o.uses.size≤1000):ACall Tryz.prog 97 [aQ q,aFm o] [] (boo (xH q o)) []:=by
 have hcl:=hq.cond
 have hc:=c_same0 q.cond (Nat.le_trans hcl.kids (by omega))
 rw [xx,aE_e0] at hc
 rw [yD]
 refine zn mixed ttok Tryz.func97 Tryz.ntmps97 Tryz.results97 ?_
 generalize hr:boo (xH q o)=R
 have he:(ByteArray.mk #[]).toList=[]:=by simp [ByteArray.toList_eq]
 simp -implicitDefEqProofs only [argT,aFm,he,ap0,ap1,ap2,ap3,ap4,ap5,ap6,ap7,↓zb,push_cast,simprocAttr,tte]
 refine ze [[0,0,0,0,0,6],[0,0,0,0,0,6]] [] (hc) ?_
 simp -implicitDefEqProofs only [ap0,ap1,ap2,ap3,ap4,ap5,ap6,ap7,↓zb,push_cast,simprocAttr,tte]
 refine ⟨zf (by kernel_rfl),?_⟩
 refine bag_open (q:=7) (io:=38) (S:=bagQ q) (n:=8) rfl rfl fun es stm hbl hes=>?_
 refine zI mixed ttok (fun sn:List Nat=>(⟨[(38,.xo false 38),(3,.ptr 3 0)],[(38,.x (.mi stm 8 sn) [.mp 7]),(7,.mp es (some (stm,8))),(3,.var [.d (.lit (.string o.word)),.d (.lit (.int .i64 o.kids)),.d (.lit (.string o.uses))])]⟩:SL)) (fun sn=>es.length-sn.length) (okSn o es) [] ⟨List.nodup_nil,fun _ h=>by cases h⟩ ?_ ?_
 ·exact Weak.keepL (by simp [ends]) (by simp [ends]) (by simp [ends])
 intro I hI sn hi
 simp -implicitDefEqProofs only [↓zb,push_cast,simprocAttr,tte]
 refine map_next (io:=38) (om:=7) rfl rfl (fun i k v hik hin=>?_) (fun hall=>?_)
 ·have hlt:sn.length<es.length:=by
   have h1:=(okSn.few (o:=o) (es:=es) (sn:=sn) hi)
   rcases Nat.lt_or_ge sn.length es.length with h2 | h2
   ·exact h2
   ·exfalso
    have h3:=qV es.length (sn++[i]) (List.nodup_append.2 ⟨hi.1,by simp,fun a ha b hb e=>by simp at hb;subst hb;subst e;exact hin ha⟩) fun j hj=>by
     rcases List.mem_append.1 hj with hj | hj
     ·obtain ⟨p,hp,_⟩:=hi.2 j hj
      exact (List.getElem?_eq_some_iff.1 hp).1
     ·simp at hj;subst hj;exact (List.getElem?_eq_some_iff.1 hik).1
    simp at h3
    omega
  simp -implicitDefEqProofs only [setT,↓zb,push_cast,simprocAttr,tte]
  refine map_entry (io:=38) (om:=7) rfl rfl hik ?_
  obtain ⟨p,hp,hkv⟩:=bag_uses ((hes k v).1 (List.mem_of_getElem? hik))
  cases hkv
  simp -implicitDefEqProofs only [setT,↓zb,push_cast,simprocAttr,tte]
  have hps:=uses_size hp
  have h32:(ByteArray.mk #[32]).size=1:=rfl
  refine za (fun g=>?_) fun g=>?_
  ·simp only [ByteArray.size_append,h32]
   refine ⟨by omega,by omega,by omega,by omega,?_⟩
   have hcc:=c_contains (uW o.uses) (uW p.1) (by simp only [uW,ByteArray.size_append,h32];omega)
   simp only [uW] at hcc
   refine ze [[0],[0]] [] (hcc) ?_
   simp -implicitDefEqProofs only [↓zb,push_cast,simprocAttr,tte]
   refine za (fun g2=>?_) fun g2=>?_
   ·have hb:badU o p=true:=by simp only [badU,uW,g,Bool.true_and];simpa using g2
    have hcf:xH q o=false:=by
     cases hcq:xH q o with
     | false=>rfl
     | true=>
       have:=List.all_eq_true.1 hcq p hp
       rw [hb] at this
       cases this
    exact zi trivial (by rw [<-hr,hcf];rfl) (by simp [ends])
   ·have hb:badU o p=false:=by simp only [badU,uW,g,Bool.true_and];simpa using g2
    exact zm hI (sn++[i]) (okSn.add hi hin hik hb) (by simp only [List.length_append,List.length_cons,List.length_nil];omega) (Weak.keepL (by simp [ends]) (by simp [ends]) (by simp [ends]))
  ·have hb:badU o p=false:=by simp only [badU,g,Bool.false_and]
   exact zm hI (sn++[i]) (okSn.add hi hin hik hb) (by simp only [List.length_append,List.length_cons,List.length_nil];omega) (Weak.keepL (by simp [ends]) (by simp [ends]) (by simp [ends]))
 ·simp -implicitDefEqProofs only [setT,↓zb,push_cast,simprocAttr,tte]
  have hct:xH q o=true:=by
   refine List.all_eq_true.2 fun p hp=>?_
   obtain ⟨i,hil,hie⟩:=List.getElem_of_mem ((hes _ _).2 (uses_bag hp))
   obtain ⟨p',hp',hb⟩:=hi.2 i (hall i hil)
   rw [List.getElem?_eq_getElem hil,hie] at hp'
   cases hp'
   have hb':badU o p=false:=hb
   rw [hb'];rfl
  exact zi trivial (by rw [<-hr,hct];rfl) (by simp [ends])
end
section
open Go.Am
attribute [local simp, local push_cast] num boo str ints aV aTab zv aS aT aC yu x4 xf zL
def zM (p:List Int×Int):A:= .tup [ints p.1,num p.2]
attribute [local simp, local push_cast] zM
def uh (ts:List Int) (e:Ex):Int:=if (yC (ownM ts) e).2=0/\(yC (ownM ts) e).1≠2 then 4 else (yC (ownM ts) e).2
theorem c_cond (ts:List Int) (e:Ex) (hts:ts.length<=1000000) (ho:Ok12 e):ACall Tryz.prog 101 [ints ts,aE e] [] (num (uh ts e)) []:=by
 have hc:=c_type ts (by omega) e ho
 rw [xx] at hc ⊢
 refine zn mixed ttok Tryz.func101 Tryz.ntmps101 Tryz.results101 ?_
 generalize hr:num (uh ts e)=R
 unfold uh at hr
 simp -implicitDefEqProofs only [argT,↓zb,push_cast,simprocAttr,tte]
 refine ze [[1],[0,0,0,0,0,6]] [] (hc) ?_
 generalize yC (ownM ts) e=p at hr ⊢
 simp -implicitDefEqProofs only [zL,↓zb,push_cast,simprocAttr,tte]
 refine za (fun h1=>?_) fun h1=>?_
 ·have h1':p.2=0:=by simpa using h1
  refine za (fun h2=>?_) fun h2=>?_
  ·have h2':p.1≠2:=by simpa using h2
   exact zi trivial (by rw [<-hr,if_pos ⟨h1',h2'⟩];rfl) (by simp [ends])
  ·have h2': ¬p.1≠2:=by simpa using h2
   exact zi trivial (by rw [<-hr,if_neg (fun h=>h2' h.2)];rfl) (by simp [ends])
 ·have h1': ¬p.2=0:=by simpa using h1
  exact zi trivial (by rw [<-hr,if_neg (fun h=>h1' h.1)];rfl) (by simp [ends])
def qg {α:Type} (f:α->Int×Int) (l:List α):List Int×Int:=if ferr (fun e=>(f e).2) l=0 then (l.map fun e=>(f e).1,0) else ([],ferr (fun e=>(f e).2) l)
theorem ki {α β:Type} [Inhabited α] (f:α->β) (l:List α) (n:Nat) (h:n<l.length):(l.take (n+1)).map f=(l.take n).map f++[f (l.getD n default)]:=by
 rw [z7 _ _ h,List.map_append];rfl
def colsT (ts:List Int) (l:List Ex):List Int×Int:=qg (yC (ownM ts)) l
def aggTM (ts:List Int) (a:Agg):Int×Int:=
 if a.fn<1\/a.fn>6\/(a.fn=1/\uK a.arg=false) then (0,1)
 else if a.fn=1 then (1,0)
 else if (yC (ownM ts) a.arg).2≠0 then (0,(yC (ownM ts) a.arg).2)
 else if a.fn=5\/a.fn=6 then ((yC (ownM ts) a.arg).1,0)
 else if a.fn=4/\(yC (ownM ts) a.arg).1≠1 then (0,4) else (1,0)
def aAgg (a:Agg):A:= .agg [.d (.lit (.int .i64 a.fn)),.d (.lit (.int .i64 a.arg.op)),.d (.lit (.int .i64 a.arg.type)),.d (.lit (.int .i64 a.arg.num)),.d (.lit (.string a.arg.text)),.d (.lit (.int .i64 a.arg.col)),.d (.sl 6 (zd rE a.arg.kids))]
def cellBad (ts:List Int) (r:List Val) (i:Nat):Bool:= !zJ (r.getD i default) || ((r.getD i default).kind !=0&&(r.getD i default).kind !=ts.getD i default)
def rowErrQ (ts:List Int) (r:List Val):Int:=if r.length≠ts.length then 9 else if (List.range r.length).any (cellBad ts r) then 4 else 0
def kK (q:Qr):Int:=if q.types.length=0\/q.types.length>24\/q.types.any (fun t=> !kT t)=true then 4 else ferr (rowErrQ q.types) q.rows
end
section
open Go.Am
attribute [local simp, local push_cast] num boo str ints aV aTab zv aS aT aC aRow rRow vecV aAgg
def vk (e:Ex) (rows:List Row):List Val:=(rows.map fun r=>xk r e).filter fun v=>v.kind !=0
theorem valsM_len (e:Ex) (rows:List Row):(vk e rows).length<=rows.length:=by
 unfold vk
 exact Nat.le_trans (List.length_filter_le _ _) (by simp)
def aggM (fn:Int) (e:Ex) (rows:List Row):Val:=
 if fn=1 then ⟨1,rows.length,ByteArray.empty⟩
 else if fn=2 then ⟨1,(sortV (vk e rows)).length,ByteArray.empty⟩
 else if fn=3 then ⟨1,(ddTo (sortV (vk e rows)) (sortV (vk e rows)).length).length,ByteArray.empty⟩
 else if fn=4 then sumS (sortV (vk e rows))
 else if (sortV (vk e rows)).length=0 then zl
 else if fn=5 then (sortV (vk e rows)).getD 0 default
 else if fn=6 then (sortV (vk e rows)).getD ((sortV (vk e rows)).length-1) default
 else zl
end
section
open Go.Am Go.Proofs Go.Shelf Go.RowKit
attribute [local simp, local push_cast] num boo str ints aV aTab zv aS aT aC yu x4 xf zM zL
theorem fn_grow {h:Nat→Option Ob} {d n:Nat} (ho:h d=none) (hn:n≤1000000):
 FnCall Tryz.prog 198 [.snil,num n] h ⟨True,.vec d 0,[(d,.vec 3 1 [] 0)],[d]⟩ where
 fn:=⟨_,Tryz.func198,by kernel_rfl,by kernel_rfl⟩
 keyed:=by simp [z6]
 calls:=fun h2 hr cx β w us rel hus=>by
  have ho2:h2 d=none:=(hr d (by simp)).trans ho
  simp only [num,repL,A.rep,D.rep] at hus
  obtain ⟨u1,_,rfl,rfl,u2,_,rfl,⟨rfl,_⟩,rfl⟩:=hus
  by_cases h0:n=0
  ·subst h0
   refine (show Calls Tryz.prog 198 #[.slice none 0 0,.int .i64 ((0:Nat):Int)] w _ from Any8.slices_Grow_room Tryz.growI none 0 0 0 w (by omega) (by omega) (by omega) (by omega)).mono ?_
   rintro e' w' ⟨rfl,rfl⟩
   obtain ⟨r1,L1⟩:=rel.nil d 3 1 ho2
   refine ⟨_,_,rfl,r1,L1,?_⟩
   simp only [A.rep,zg]
   exact ⟨3,1,[],0,by simp [upds],by simp,rfl,fun _=> .inl ⟨by simp,trivial⟩⟩
  ·obtain ⟨i0,hi,his,hib,z,hz,hzc⟩:=(ttok 3 _ rfl).info
   refine (show Calls Tryz.prog 198 #[.slice none 0 0,.int .i64 (n:Int)] w _ from Any8.slices_Grow_grow Tryz.growI i0 z hi hz (by rw [his];decide) none 0 0 n [] w (by omega) (by omega) (by rw [hib];show (0+n) * 8<=_;omega) (by omega) (by simp) (fun _=>rfl) (fun _ h=>by cases h)).mono ?_
   rintro e' w' ⟨rfl,rfl⟩
   generalize hG:grownCap w (0+n) 0 (Tryz.growI_ren.t 25)=G
   generalize hC: #[]++Builtin.zeroCells z.cells (0+n-0)++Builtin.zeroCells z.cells (G-(0+n))=C
   have hGn:0+n<=G:=by rw [<-hG];exact grownCap_ge w _ _ _
   have hGm:G<=maxLen:=by rw [<-hG];exact grownCap_le_maxLen w _ _ _ (by unfold maxLen;omega)
   obtain ⟨r0,L0⟩:=rel.drew
   obtain ⟨r1,L1⟩:=r0.alloc d (.vec 3 1 [] 0) C 3 ho2 (fun L=>by
    simp only [Ob.rep]
    exact ⟨Nat.zero_le _,fun _ h=>(by cases h),.inr ⟨_,C,rfl,zV w.drew _,by simp [rowsAt],by simp⟩⟩)
   have hCs:C.size=G:=by
    rw [<-hC]
    have:z.cells.size=1:=by rw [hzc];rfl
    simp only [Array.size_append,size_zeroCells,this]
    simp
    omega
   refine ⟨_,_,rfl,r1,L0.trans L1,?_⟩
   simp only [A.rep,zg]
   refine ⟨3,1,[],0,by simp [upds],by simp,rfl,fun _=> .inr ⟨w.heap.size,G,by simp,rfl,Nat.zero_le _,hGm,C,3,zV w.drew _,by rw [hCs,Nat.mul_one]⟩⟩
theorem flat_snoc (ll:List (List Int)) (n:Nat) (h:n<ll.length):(ll.take (n+1)).flatten=(ll.take n).flatten++ll.getD n default:=by
 rw [z7 _ _ h,List.flatten_append];simp
theorem flat_len: ∀(ll:List (List Int)) (b:Nat),(∀l∈ll,l.length<=b)->ll.flatten.length<=ll.length * b
 | [],_,_=>by simp
 | l::ll,b,h=>by
   have h1:=h l (by simp)
   have h2:=flat_len ll b fun x hx=>h x (by simp [hx])
   rw [List.flatten_cons,List.length_append,List.length_cons,Nat.add_mul]
   omega
theorem c_concat (ll:List (List Int)) (hl:ll.length<=1000) (hb: ∀l∈ll,l.length<=1000):ACall Tryz.prog 162 [.d (.sl 1 (zd rIs ll))] [] (ints ll.flatten) []:=by
 refine zn mixed ttok Tryz.func162 Tryz.ntmps162 Tryz.results162 ?_
 generalize hr:ints ll.flatten=R
 have hfl: ∀n,(ll.take n).flatten.length<=1000000:=fun n=>by
  have h1:=flat_len (ll.take n) 1000 fun l h=>hb l (List.mem_of_mem_take h)
  have h2:(ll.take n).length<=1000:=Nat.le_trans (by rw [List.length_take];exact Nat.min_le_right _ _) hl
  have:=Nat.mul_le_mul_right 1000 h2
  omega
 simp -implicitDefEqProofs only [argT,↓zb,push_cast,simprocAttr,tte]
 refine zo mixed ttok 11 [0,9,10] [] (by simp only [zC,ends,push_cast,simprocAttr];rfl) (by simp only [zH,zp,ends,push_cast,simprocAttr];rfl) ll.length (fun _=>True) (fun n=>[(3,num ((ll.take n).flatten.length:Nat))]) (fun _=>[]) trivial ?_ ?_
 ·exact Weak.keepL (by simp [cst,ends]) (by simp [cst,ends]) (by simp [cst,ends])
 intro I hI n hn hi
 simp -implicitDefEqProofs only [cst,↓zb,push_cast,simprocAttr,tte]
 refine za (fun h=>?_) fun h=>?_
 ·have h':n<ll.length:=by have:=of_decide_eq_true h;omega
  have hw:=zj h' (by omega)
  have hs:=flat_snoc ll n h'
  have h1:=hfl n
  have h2:=hb _ (zk h')
  have hws:IntKind.i64.wrap (((ll.take n).flatten.length:Nat)+((ll.getD n default).length:Nat):Int)=(((ll.take (n+1)).flatten.length:Nat):Int):=by
   rw [hs,List.length_append,zw (by omega) (by omega)];omega
  refine ⟨(by first | omega | trivial | (refine ⟨?_,?_⟩<;>first | omega | trivial | (refine ⟨?_,?_⟩<;>first | omega | trivial | (refine ⟨?_,?_⟩<;>first | omega | trivial | rfl)))),?_⟩
  rw [hws]
  refine za (fun h=>absurd (of_decide_eq_true h) (by omega)) (fun _=>?_)
  exact zq hI n rfl h' trivial (by simp [hw,ends]) (by simp [hw,ends]) (by simp [hw,ends]) (by simp [hw,ends])
 obtain rfl:n=ll.length:=by have:=of_decide_eq_false h;omega
 clear hI
 refine callx_fn (fn_grow (d:=600) (n:=(ll.take ll.length).flatten.length) rfl (hfl _)) rfl ?_
 simp -implicitDefEqProofs only [↓zb,push_cast,simprocAttr,tte]
 refine zo mixed ttok 27 [25,26] [] (by simp only [zC,ends,push_cast,simprocAttr];rfl) (by simp only [zH,zp,ends,push_cast,simprocAttr];rfl) ll.length (fun _=>True) (fun n=>[(6,.vec 600 (ll.take n).flatten.length)]) (fun n=>[(600,.vec 3 1 (zd rI (ll.take n).flatten) 0)]) trivial ?_ ?_
 ·exact Weak.keepL (by simp [cst,ends]) (by simp [cst,zd,ends]) (by simp [cst,ends])
 intro I hI n hn hi
 simp -implicitDefEqProofs only [cst,↓zb,push_cast,simprocAttr,tte]
 refine za (fun h=>?_) fun h=>?_
 ·have h':n<ll.length:=by have:=of_decide_eq_true h;omega
  have hw:=zj h' (by omega)
  have hs:=flat_snoc ll n h'
  have h1:=hfl n
  have h2:=hb _ (zk h')
  have hz:(ll.take n++[ll.getD n default]).flatten.length=(ll.take n).flatten.length+(ll.getD n default).length:=by rw [List.flatten_append,List.length_append];simp
  refine ⟨(by first | omega | trivial | (refine ⟨?_,?_⟩<;>first | omega | trivial | (refine ⟨?_,?_⟩<;>first | omega | trivial | (refine ⟨?_,?_⟩<;>first | omega | trivial | rfl)))),?_⟩
  refine ⟨by omega,?_⟩
  exact zq hI n rfl h' trivial (by simp [hw,hs,hz,zh,ends]) (by simp [hw,hs,hz,zh,ends]) (by simp [hw,hs,hz,zh,ends]) (by simp [hw,hs,hz,zh,ends])
 obtain rfl:n=ll.length:=by have:=of_decide_eq_false h;omega
 rw [List.take_length]
 refine zu [1] rfl (by simp) (by simp [zc]<;>omega) ?_ (by first | rfl | simp [ends] | (subst_vars;simp [ends])) (by simp [ends]) (by simp [ends])
 exact hr
end
section
open Go.Am
attribute [local simp, local push_cast] num boo str ints aV aTab zv aS aT aC yu x4 xf zM zL aAgg
def groupM (ts:List Int) (q:Qr):List Int×Int:=
 if q.exprs.length+q.aggs.length<1\/q.exprs.length+q.aggs.length>24 then ([],9)
 else if (colsT ts q.exprs).2≠0 then ([],(colsT ts q.exprs).2)
 else if (qg (aggTM ts) q.aggs).2≠0 then ([],(qg (aggTM ts) q.aggs).2)
 else ((colsT ts q.exprs).1++(qg (aggTM ts) q.aggs).1,0)
def qh (a b:List Int) (q:Qr):List Int×Int:=
 if q.kind<1\/q.kind>6 then ([],1)
 else if (a++b).length>24 then ([],9)
 else if uh (a++b) q.cond≠0 then ([],uh (a++b) q.cond)
 else if q.kind=5\/q.kind=6 then (a,0) else (a++b,0)
theorem c_join (a b:List Int) (q:Qr) (ha:a.length<=1000) (hb:b.length<=1000) (hq:OkQ1 q):ACall Tryz.prog 103 [ints a,ints b,aQ q] [] (zM (qh a b q)) []:=by
 have hcc:=c_concat [a,b] (by simp) (by intro l hl;simp at hl;rcases hl with rfl | rfl<;>assumption)
 have hfl:[a,b].flatten=a++b:=by simp
 rw [hfl] at hcc
 simp only [zG,rIs] at hcc
 rw [yD]
 refine zn mixed ttok Tryz.func103 Tryz.ntmps103 Tryz.results103 ?_
 generalize hr:zM (qh a b q)=R
 unfold qh at hr
 simp -implicitDefEqProofs only [argT,↓zb,push_cast,simprocAttr,tte]
 refine ze [[1]] [] (hcc) ?_
 simp -implicitDefEqProofs only [↓zb,push_cast,simprocAttr,tte]
 refine za (fun k1=>?_) fun k1=>?_
 ·rw [←hr,if_pos (.inl (of_decide_eq_true k1)),zM]
  refine zx [[1],[0]] rfl (by simp) (by simp [zc]<;>omega) ?_ (by first | rfl | simp [ends] | (subst_vars;simp [ends])) (by simp [ends]) (by simp [ends])
  rfl
 refine za (fun k2=>?_) fun k2=>?_
 ·rw [←hr,if_pos (.inr (of_decide_eq_true k2)),zM]
  refine zx [[1],[0]] rfl (by simp) (by simp [zc]<;>omega) ?_ (by first | rfl | simp [ends] | (subst_vars;simp [ends])) (by simp [ends]) (by simp [ends])
  rfl
 rw [if_neg (fun h=>h.elim (of_decide_eq_false k1) (of_decide_eq_false k2))] at hr
 refine za (fun k3=>?_) fun k3=>?_
 ·have k3':(a++b).length>24:=by have:=of_decide_eq_true k3;omega
  rw [<-hr,if_pos k3',zM]
  refine zx [[1],[0]] rfl (by simp) (by simp [zc]<;>omega) ?_ (by first | rfl | simp [ends] | (subst_vars;simp [ends])) (by simp [ends]) (by simp [ends])
  rfl
 have k3': ¬(a++b).length>24:=by have:=of_decide_eq_false k3;omega
 rw [if_neg k3'] at hr
 have hcd:=c_cond (a++b) q.cond (by omega) hq.cond
 rw [xx] at hcd
 refine ze [[1],[0,0,0,0,0,6]] [] (hcd) ?_
 simp -implicitDefEqProofs only [↓zb,push_cast,simprocAttr,tte]
 refine za (fun k4=>?_) fun k4=>?_
 ·have k4':uh (a++b) q.cond≠0:=by simpa using k4
  rw [<-hr,if_pos k4',zM]
  refine zx [[1],[0]] rfl (by simp) (by simp [zc]<;>omega) ?_ (by first | rfl | simp [ends] | (subst_vars;simp [ends])) (by simp [ends]) (by simp [ends])
  rfl
 have k4': ¬uh (a++b) q.cond≠0:=by simpa using k4
 rw [if_neg k4'] at hr
 refine za (fun k5=>?_) fun k5=>?_
 ·have k5':q.kind=5:=by simpa using k5
  rw [<-hr,if_pos (.inl k5'),zM]
  refine zx [[1],[0]] rfl (by simp) (by simp [zc]<;>omega) ?_ (by first | rfl | simp [ends] | (subst_vars;simp [ends])) (by simp [ends]) (by simp [ends])
  rfl
 have k5': ¬q.kind=5:=by simpa using k5
 refine za (fun k6=>?_) fun k6=>?_
 ·have k6':q.kind=6:=by simpa using k6
  rw [<-hr,if_pos (.inr k6'),zM]
  refine zx [[1],[0]] rfl (by simp) (by simp [zc]<;>omega) ?_ (by first | rfl | simp [ends] | (subst_vars;simp [ends])) (by simp [ends]) (by simp [ends])
  rfl
 have k6': ¬q.kind=6:=by simpa using k6
 rw [<-hr,if_neg (fun h=>h.elim k5' k6'),zM]
 refine zx [[1],[0]] rfl (by simp) (by simp [zc]<;>omega) ?_ (by first | rfl | simp [ends] | (subst_vars;simp [ends])) (by simp [ends]) (by simp [ends])
 rfl
end
section
open Go.Am
attribute [local simp, local push_cast] num boo str ints aV aTab zv aS aT aC yu x4 xf zM zL aAgg aFm zR
def ownQ (s:Sch) (q:Qr) (ks:List (List Int)):List Int×Int:=
 if isFm q.op=false\/xH q (yQ q.op)=false then ([],1)
 else if (ks.length:Int)≠(yQ q.op).kids then ([],9)
 else if q.op=1 then (if byT s q.table≥0 then (zD (s.getD (byT s q.table).toNat default),0) else ([],11))
 else if q.op=2 then (if kK q≠0 then ([],kK q) else (q.types,0))
 else if q.op=3 then (if uh (ks.getD 0 default) q.cond≠0 then ([],uh (ks.getD 0 default) q.cond) else (ks.getD 0 default,0))
 else if q.op=4 then (if q.exprs.length=0\/q.exprs.length>24 then ([],9) else colsT (ks.getD 0 default) q.exprs)
 else if q.op=5 then qh (ks.getD 0 default) (ks.getD 1 default) q
 else if q.op=10 then groupM (ks.getD 0 default) q
 else if q.op=6\/q.op=7\/q.op=8 then (if (ks.getD 0 default==ks.getD 1 default)=true then (ks.getD 0 default,0) else ([],4))
 else (ks.getD 0 default,0)
def qc (s:Sch) (q:Qr) (rs:List (List Int×Int)):List Int×Int:=if ferr Prod.snd rs=0 then ownQ s q (rs.map Prod.fst) else ([],ferr Prod.snd rs)
mutual
def typQ (s:Sch):Qr->List Int×Int
 | .mk a b c d e f g h i ks=>qc s (.mk a b c d e f g h i ks) (typQs s ks)
def typQs (s:Sch):List Qr->List (List Int×Int)
 | []=>[]
 | q::l=>typQ s q::typQs s l
end
theorem typQs_eq (s:Sch): ∀l,typQs s l=l.map (typQ s)
 | []=>rfl
 | q::l=>by rw [typQs,typQs_eq s l];rfl
theorem jx (s:Sch) (q:Qr):typQ s q=qc s q (q.kids.map (typQ s)):=by cases q;rw [typQ,typQs_eq];rfl
theorem listM_len {α:Type} (f:α->Int×Int) (l:List α):(qg f l).1.length<=l.length:=by
 unfold qg;split<;>simp
theorem ownQ_len {s:Sch} {q:Qr} {ks:List (List Int)} (hs:SmallS s) (hq:OkQ1 q) (hk: ∀l∈ks,l.length<=1000):(ownQ s q ks).1.length<=1000:=by
 have hg: ∀i,(ks.getD i default).length<=1000:=fun i=>by
  by_cases h:i<ks.length
  ·exact hk _ (zk h)
  ·rw [List.getD_eq_getElem?_getD,List.getElem?_eq_none (by omega)];exact Nat.zero_le _
 have h0:=hg 0
 have htl:=hq.types
 have hel:=hq.exprs
 unfold ownQ
 split
 ·exact Nat.zero_le _
 split
 ·exact Nat.zero_le _
 split
 ·split
  ·rename_i hb
   have h1:=xZ (fun t:Tbl=>t.name.toList==q.table.toList) s
   have hm:=zk (l:=s) (n:=(byT s q.table).toNat) (by unfold byT at hb ⊢;omega)
   have:=(hs.tab _ hm).cols
   simpa [zD] using this
  ·exact Nat.zero_le _
 split
 ·split
  ·exact Nat.zero_le _
  ·exact htl
 split
 ·split
  ·exact Nat.zero_le _
  ·exact h0
 split
 ·split
  ·exact Nat.zero_le _
  ·exact Nat.le_trans (listM_len _ _) hel
 split
 ·unfold qh
  split
  ·exact Nat.zero_le _
  split
  ·exact Nat.zero_le _
  rename_i h24
  split
  ·exact Nat.zero_le _
  split
  ·exact h0
  ·simp only;omega
 split
 ·unfold groupM
  split
  ·exact Nat.zero_le _
  split
  ·exact Nat.zero_le _
  split
  ·exact Nat.zero_le _
  rename_i h24 _ _
  have h1:=listM_len (yC (ownM (ks.getD 0 default))) q.exprs
  have h2:=listM_len (aggTM (ks.getD 0 default)) q.aggs
  simp only [List.length_append,colsT]
  omega
 split
 ·split
  ·exact h0
  ·exact Nat.zero_le _
 ·exact h0
theorem ux {s:Sch} (hs:SmallS s): ∀q:Qr,OkQ q->(typQ s q).1.length<=1000:=
 kg (p:=fun q=>OkQ q->(typQ s q).1.length<=1000) fun q ih ho=>by
 rw [jx,qc]
 split
 ·refine ownQ_len hs ho.one fun l hl=>?_
  simp only [List.map_map,List.mem_map] at hl
  obtain ⟨k,hk,rfl⟩:=hl
  exact ih k hk (ho.kid hk)
 ·exact Nat.zero_le _
theorem formM_uses (op:Int):(yQ op).uses.size<=1000:=by
 unfold yQ
 split
 ·rename_i h
  simp only [isFm,Bool.and_eq_true,decide_eq_true_eq] at h
  have key:(List.range 11).all (fun n=>decide ((fmTab.getD n default).uses.size<=1000))=true:=by decide
  have:=all_range.1 key op.toNat (by omega)
  simpa [fmAt] using this
 ·exact Nat.zero_le _
def kidT (s:Sch) (q:Qr) (n:Nat):List (List Int):=(q.kids.take n).map fun k=>(typQ s k).1
def we (s:Sch) (q:Qr):List Int×Int:=if jd q>200 then ([],8) else if vg q>24 then ([],13) else typQ s q
end
end Go.Proofs.YtnmibokjpedkiaaGreatDoor
