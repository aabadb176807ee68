/- Groups of a query have one row for each key, and their counts add up: a proof over an abstract machine of our own (part Wf) -/
import Derived.Test.YtnmibokjpedkiaaGreatDoorWe
set_option maxRecDepth 100000
set_option maxHeartbeats 4000000
set_option linter.all false
namespace Go.Proofs.YtnmibokjpedkiaaGreatDoor
section
open Go.Am
attribute [local simp, local push_cast] num boo str ints aV aTab zx aS aT aC yQ wW wu
theorem q_ind {p:Qr->Prop} (h: ∀q:Qr,(∀k∈q.kids,p k)->p q): ∀q,p q:=by
 intro q
 exact Qr.rec (motive_1:=p) (motive_2:=fun l=> ∀k∈l,p k) (fun a b c d e f g t r ks ih=>h _ ih) (by simp) (fun k l h1 h2=>by simpa using ⟨h1,h2⟩) q
structure OkQ1 (q:Qr):Prop where
 cond:Ok12 q.cond
 exprs:q.exprs.length<=1000
 ex: ∀e∈q.exprs,Ok12 e
 aggs:q.aggs.length<=1000
 ag: ∀a∈q.aggs,Ok12 a.arg
 types:q.types.length<=1000
 rows:q.rows.length<=1000
 row: ∀r∈q.rows,r.length<=1000
 kids:q.kids.length<=1000
inductive OkQ:Qr->Prop
 | mk (q:Qr) (h:OkQ1 q) (hk: ∀k∈q.kids,OkQ k):OkQ q
theorem OkQ.one {q:Qr} (h:OkQ q):OkQ1 q:=by cases h;assumption
theorem OkQ.kid {q k:Qr} (h:OkQ q) (hk:k∈q.kids):OkQ k:=by cases h with | mk _ _ h2=>exact h2 k hk
def wt (l:List Agg):List Ex:=(l.filter fun a=>a.fn !=1).map (·.arg)
def xB (q:Qr):List Ex:=
 (if q.op==3 || q.op==5 then [q.cond] else if q.op==4 || q.op==10 then q.exprs else [])++(if q.op==10 then wt q.aggs else [])
def vQ (q:Qr):Ob:= .var [num q.op,str q.table,num q.kind,boo q.all,num q.cond.op,num q.cond.type,num q.cond.num,str q.cond.text,num q.cond.col,.d (.sl 6 (zd rE q.cond.kids)),
    .d (.sl 6 (zd rE q.exprs)),.d (.sl 7 (zd rAgg q.aggs)),.d (.sl 1 (zd rI q.types)),.d (.sl 1 (zd wu q.rows)),.d (.sl 15 (zd rQ q.kids))]
theorem argsQ_snoc (l:List Agg) (a:Agg):wt (l++[a])=wt l++(if a.fn==1 then [] else [a.arg]):=by
 unfold wt
 rw [List.filter_append,List.map_append]
 by_cases h:a.fn==1
 ·simp [h,bne]
 ·simp [h,bne]
theorem exprsQ_len {q:Qr} (hq:OkQ1 q):(xB q).length<=2000:=by
 have h1:=hq.exprs
 have h2:=hq.aggs
 have h3:(wt q.aggs).length<=q.aggs.length:=by unfold wt;rw [List.length_map];exact List.length_filter_le _ _
 unfold xB
 rw [List.length_append]
 split<;>split<;>(try split)<;>simp<;>omega
theorem c_exprs (q:Qr) (hq:OkQ1 q):ACall Tryz.prog 94 [aQ q] [] (.d (.sl 6 (zd rE (xB q)))) []:=by
 rw [x4]
 refine zl mixed ttok Tryz.func94 Tryz.ntmps94 Tryz.results94 ?_
 generalize hr:A.d (.sl 6 (zd rE (xB q)))=R
 have hel:=hq.exprs
 have hal:=hq.aggs
 by_cases h10:q.op=10
 ·have e3:(q.op==3)=false:=by rw [h10];rfl
  have e5:(q.op==5)=false:=by rw [h10];rfl
  have e4:(q.op==4)=false:=by rw [h10];rfl
  have e10:(q.op==10)=true:=by rw [h10];rfl
  have hX:xB q=q.exprs++wt q.aggs:=by simp [xB,e3,e5,e4,e10]
  simp -implicitDefEqProofs only [argT,e3,e4,e5,e10,↓zb,push_cast,simprocAttr,tte]
  refine ⟨by omega,?_⟩
  refine zo mixed ttok 29 [1,27,28] [] (by simp only [zC,ends,push_cast,simprocAttr];rfl) (by simp only [zH,zp,ends,push_cast,simprocAttr];rfl) q.aggs.length (fun _=>True) (fun n=>[(3,.vec 22 (q.exprs++wt (q.aggs.take n)).length)]) (fun n=>[(1,vQ q),(22,.vec 36 6 (zd rE (q.exprs++wt (q.aggs.take n))) 0)]) trivial ?_ ?_
  ·exact Weak.keepL (by simp [cst,wt,ends]) (by simp [cst,vQ,wt,ends]) (by simp [cst,ends])
  intro I hI n hn hi
  simp -implicitDefEqProofs only [cst,vQ,↓zb,push_cast,simprocAttr,tte]
  refine za (fun h=>?_) fun h=>?_
  ·have h':n<q.aggs.length:=by have:=of_decide_eq_true h;omega
   have hw:=zh h' (by omega)
   have ht:wt (q.aggs.take (n+1))=wt (q.aggs.take n)++(if (q.aggs.getD n default).fn==1 then [] else [(q.aggs.getD n default).arg]):=by
    rw [<-argsQ_snoc,zz _ _ h']
   have hlen:(wt (q.aggs.take n)).length<=n:=by
    unfold wt;rw [List.length_map]
    exact Nat.le_trans (List.length_filter_le _ _) (by rw [List.length_take];omega)
   have hlen2:(q.exprs++wt (q.aggs.take n)).length<=2000:=by rw [List.length_append];omega
   refine ⟨(by first | omega | trivial | (refine ⟨?_,?_⟩<;>first | omega | trivial | (refine ⟨?_,?_⟩<;>first | omega | trivial | (refine ⟨?_,?_⟩<;>first | omega | trivial | rfl)))),?_⟩
   refine za (fun g=>?_) fun g=>?_
   ·have g':((q.aggs.getD n default).fn==1)=false:=by simpa [bne] using g
    rw [g',if_neg (by decide),<-List.append_nil [(q.aggs.getD n default).arg]] at ht
    have ht2:q.exprs++wt (q.aggs.take (n+1))=(q.exprs++wt (q.aggs.take n))++[(q.aggs.getD n default).arg]:=by rw [ht,List.append_nil,List.append_assoc]
    refine ⟨by omega,?_⟩
    have hz:(q.exprs++wt (q.aggs.take n)++[(q.aggs.getD n default).arg]).length=(q.exprs++wt (q.aggs.take n)).length+1:=by rw [List.length_append];rfl
    generalize (q.exprs++wt (q.aggs.take n))=L at *
    exact zn hI n rfl h' trivial (by simp [hw,ht2,hz,zj,vQ,ends]) (by simp [hw,ht2,hz,zj,vQ,ends]) (by simp [hw,ht2,hz,zj,vQ,ends]) (by simp [hw,ht2,hz,zj,vQ,ends])
   ·have g':((q.aggs.getD n default).fn==1)=true:=by simpa [bne] using g
    rw [g',if_pos rfl,List.append_nil] at ht
    exact zn hI n rfl h' trivial (by simp [hw,ht,vQ,ends]) (by simp [hw,ht,vQ,ends]) (by simp [hw,ht,vQ,ends]) (by simp [hw,ht,vQ,ends])
  ·obtain rfl:n=q.aggs.length:=by have:=of_decide_eq_false h;omega
   rw [List.take_length]
   refine zt [6] rfl (by simp) (by simp [zc]<;>omega) ?_ (by first | rfl | simp [ends] | (subst_vars;simp [ends])) (by simp [ends]) (by simp [ends])
   rw [<-hr,hX]
 ·have e10:(q.op==10)=false:=by simpa using h10
  simp -implicitDefEqProofs only [argT,e10,↓zb,push_cast,simprocAttr,tte]
  refine za (fun h3=>?_) fun h3=>?_
  ·have hX:xB q=[q.cond]:=by simp [xB,h3,e10]
   refine za (fun _=>?_) (fun h=>absurd (h3.symm.trans h) (by decide))
   refine zt [6] rfl (by simp) (by simp [zc]<;>omega) ?_ (by first | rfl | simp [ends] | (subst_vars;simp [ends])) (by simp [ends]) (by simp [ends])
   rw [<-hr,hX,zB,yC]
   rfl
  refine za (fun h5=>?_) fun h5=>?_
  ·have hX:xB q=[q.cond]:=by simp [xB,h5,e10]
   refine zt [6] rfl (by simp) (by simp [zc]<;>omega) ?_ (by first | rfl | simp [ends] | (subst_vars;simp [ends])) (by simp [ends]) (by simp [ends])
   rw [<-hr,hX,zB,yC]
   rfl
  refine za (fun h4=>?_) fun h4=>?_
  ·have hX:xB q=q.exprs:=by simp [xB,h3,h5,h4,e10]
   refine za (fun _=>?_) (fun h=>absurd (h4.symm.trans h) (by decide))
   refine ⟨by omega,?_⟩
   refine zt [6] rfl (by simp) (by simp [zc]<;>omega) ?_ (by first | rfl | simp [ends] | (subst_vars;simp [ends])) (by simp [ends]) (by simp [ends])
   rw [<-hr,hX]
  ·have hX:xB q=[]:=by simp [xB,h3,h5,h4,e10]
   refine zt [6] rfl (by simp) (by simp [zc]<;>omega) ?_ (by first | rfl | simp [ends] | (subst_vars;simp [ends])) (by simp [ends]) (by simp [ends])
   rw [<-hr,hX]
   rfl
def qG (n:Int):List (List Val)->Int
 | []=>n
 | r::l=>qG (IntKind.i64.wrap (n+r.length)) l
mutual
def ur:Qr->Int
 | .mk a b c d e f g h i ks=>sizeQs (qG (sizeL 1 (xB (.mk a b c d e f g h i ks))) i) ks
def sizeQs (n:Int):List Qr->Int
 | []=>n
 | q::l=>sizeQs (IntKind.i64.wrap (n+ur q)) l
end
theorem kg (q:Qr):ur q=sizeQs (qG (sizeL 1 (xB q)) q.rows) q.kids:=by cases q;rw [ur];rfl
mutual
def vt:Qr->Int
 | .mk a b c d e f g h i ks=>IntKind.i64.wrap (depthQs 0 ks+1)
def depthQs (n:Int):List Qr->Int
 | []=>n
 | q::l=>depthQs (if n<vt q then vt q else n) l
end
theorem depthQ_eq (q:Qr):vt q=IntKind.i64.wrap (depthQs 0 q.kids+1):=by cases q;rw [vt];rfl
theorem rowsW_snoc (r:List Val): ∀(l:List (List Val)) (n:Int),qG n (l++[r])=IntKind.i64.wrap (qG n l+r.length)
 | [],n=>rfl
 | x::l,n=>by simp only [List.cons_append,qG];exact rowsW_snoc r l _
theorem sizeQs_snoc (q:Qr): ∀(l:List Qr) (n:Int),sizeQs n (l++[q])=IntKind.i64.wrap (sizeQs n l+ur q)
 | [],n=>by simp [sizeQs]
 | x::l,n=>by simp only [List.cons_append,sizeQs];exact sizeQs_snoc q l _
theorem gc (q:Qr): ∀(l:List Qr) (n:Int),depthQs n (l++[q])=(if depthQs n l<vt q then vt q else depthQs n l)
 | [],n=>rfl
 | x::l,n=>by simp only [List.cons_append,depthQs];exact gc q l _
theorem exprsQ_ok {q:Qr} (hq:OkQ1 q): ∀e∈xB q,Ok12 e:=by
 intro e he
 unfold xB at he
 rcases List.mem_append.1 he with h | h
 ·split at h
  ·rw [List.mem_singleton.1 h];exact hq.cond
  ·split at h
   ·exact hq.ex e h
   ·simp at h
 ·split at h
  ·unfold wt at h
   obtain ⟨a,ha,rfl⟩:=List.mem_map.1 h
   exact hq.ag a (List.mem_filter.1 ha).1
  ·simp at h
theorem c_qsize: ∀q:Qr,OkQ q->ACall Tryz.prog 56 [aQ q] [] (num (ur q)) []:=
 q_ind (p:=fun q=>OkQ q->ACall Tryz.prog 56 [aQ q] [] (num (ur q)) []) fun q ih ho=>by
 have hq:=ho.one
 have hce:=c_exprs q hq
 have hex:=exprsQ_ok hq
 have hel:=exprsQ_len hq
 have hrl:=hq.rows
 have hkl:=hq.kids
 rw [x4] at hce ⊢
 refine zl mixed ttok Tryz.func56 Tryz.ntmps56 Tryz.results56 ?_
 generalize hr:num (ur q)=R
 simp -implicitDefEqProofs only [argT,↓zb,push_cast,simprocAttr,tte]
 refine ze [[0,0,0,0,0,0,0,0,0,6,6,7,1,1,15]] [] (hce) ?_
 simp -implicitDefEqProofs only [↓zb,push_cast,simprocAttr,tte]
 generalize hE:xB q=E at *
 refine zo mixed ttok 13 [1,11,12] [] (by simp only [zC,ends,push_cast,simprocAttr];rfl) (by simp only [zH,zp,ends,push_cast,simprocAttr];rfl) E.length (fun _=>True) (fun n=>[(3,num (sizeL 1 (E.take n)))]) (fun _=>[(1,vQ q)]) trivial ?_ ?_
 ·exact Weak.keepL (by simp [cst,sizeL,ends]) (by simp [cst,vQ,ends]) (by simp [cst,ends])
 intro I hI n hn hi
 simp -implicitDefEqProofs only [cst,vQ,↓zb,push_cast,simprocAttr,tte]
 refine za (fun h=>?_) fun h=>?_
 ·have h':n<E.length:=by have:=of_decide_eq_true h;omega
  have hw:=zh h' (by omega)
  have ht:=jA (E.getD n default) (E.take n) 1
  rw [<-zz _ _ h'] at ht
  refine ⟨(by first | omega | trivial | (refine ⟨?_,?_⟩<;>first | omega | trivial | (refine ⟨?_,?_⟩<;>first | omega | trivial | (refine ⟨?_,?_⟩<;>first | omega | trivial | rfl)))),?_⟩
  refine ze [[0,0,0,0,0,6]] [] (c_size _ (hex _ (zk h'))) ?_
  simp -implicitDefEqProofs only [↓zb,push_cast,simprocAttr,tte]
  exact zn hI n rfl h' trivial (by simp [hw,ht,vQ,ends]) (by simp [hw,ht,vQ,ends]) (by simp [hw,ht,vQ,ends]) (by simp [hw,ht,vQ,ends])
 obtain rfl:n=E.length:=by have:=of_decide_eq_false h;omega
 clear hI
 rw [List.take_length]
 generalize hs1:sizeL 1 E=s1
 refine zo mixed ttok 25 [1,23,24] [] (by simp only [zC,ends,push_cast,simprocAttr];rfl) (by simp only [zH,zp,ends,push_cast,simprocAttr];rfl) q.rows.length (fun _=>True) (fun n=>[(3,num (qG s1 (q.rows.take n)))]) (fun _=>[(1,vQ q)]) trivial ?_ ?_
 ·exact Weak.keepL (by simp [cst,qG,ends]) (by simp [cst,vQ,ends]) (by simp [cst,ends])
 intro I hI n hn hi
 simp -implicitDefEqProofs only [cst,vQ,↓zb,push_cast,simprocAttr,tte]
 refine za (fun h=>?_) fun h=>?_
 ·have h':n<q.rows.length:=by have:=of_decide_eq_true h;omega
  have hw:=zh h' (by omega)
  have ht:=rowsW_snoc (q.rows.getD n default) (q.rows.take n) s1
  rw [<-zz _ _ h'] at ht
  refine ⟨(by first | omega | trivial | (refine ⟨?_,?_⟩<;>first | omega | trivial | (refine ⟨?_,?_⟩<;>first | omega | trivial | (refine ⟨?_,?_⟩<;>first | omega | trivial | rfl)))),?_⟩
  exact zn hI n rfl h' trivial (by simp [hw,ht,vQ,ends]) (by simp [hw,ht,vQ,ends]) (by simp [hw,ht,vQ,ends]) (by simp [hw,ht,vQ,ends])
 obtain rfl:n=q.rows.length:=by have:=of_decide_eq_false h;omega
 clear hI
 rw [List.take_length]
 generalize hs2:qG s1 q.rows=s2
 refine zo mixed ttok 37 [1,35,36] [] (by simp only [zC,ends,push_cast,simprocAttr];rfl) (by simp only [zH,zp,ends,push_cast,simprocAttr];rfl) q.kids.length (fun _=>True) (fun n=>[(3,num (sizeQs s2 (q.kids.take n)))]) (fun _=>[(1,vQ q)]) trivial ?_ ?_
 ·exact Weak.keepL (by simp [cst,sizeQs,ends]) (by simp [cst,vQ,ends]) (by simp [cst,ends])
 intro I hI n hn hi
 simp -implicitDefEqProofs only [cst,vQ,↓zb,push_cast,simprocAttr,tte]
 refine za (fun h=>?_) fun h=>?_
 ·have h':n<q.kids.length:=by have:=of_decide_eq_true h;omega
  have hw:=zh h' (by omega)
  have ht:=sizeQs_snoc (q.kids.getD n default) (q.kids.take n) s2
  rw [<-zz _ _ h'] at ht
  refine ⟨(by first | omega | trivial | (refine ⟨?_,?_⟩<;>first | omega | trivial | (refine ⟨?_,?_⟩<;>first | omega | trivial | (refine ⟨?_,?_⟩<;>first | omega | trivial | rfl)))),?_⟩
  have hc:=ih _ (zk h') (ho.kid (zk h'))
  rw [x4] at hc
  refine ze [[0,0,0,0,0,0,0,0,0,6,6,7,1,1,15]] [] (hc) ?_
  simp -implicitDefEqProofs only [↓zb,push_cast,simprocAttr,tte]
  exact zn hI n rfl h' trivial (by simp [hw,ht,vQ,ends]) (by simp [hw,ht,vQ,ends]) (by simp [hw,ht,vQ,ends]) (by simp [hw,ht,vQ,ends])
 obtain rfl:n=q.kids.length:=by have:=of_decide_eq_false h;omega
 exact zi trivial (by rw [<-hr,kg,List.take_length,hE,hs1,hs2];rfl) (by simp [ends])
theorem c_qdepth: ∀q:Qr,OkQ q->ACall Tryz.prog 57 [aQ q] [] (num (vt q)) []:=
 q_ind (p:=fun q=>OkQ q->ACall Tryz.prog 57 [aQ q] [] (num (vt q)) []) fun q ih ho=>by
 have hq:=ho.one
 have hkl:=hq.kids
 rw [x4]
 refine zl mixed ttok Tryz.func57 Tryz.ntmps57 Tryz.results57 ?_
 generalize hr:num (vt q)=R
 simp -implicitDefEqProofs only [argT,↓zb,push_cast,simprocAttr,tte]
 refine zo mixed ttok 9 [7,8] [] (by simp only [zC,ends,push_cast,simprocAttr];rfl) (by simp only [zH,zp,ends,push_cast,simprocAttr];rfl) q.kids.length (fun _=>True) (fun n=>[(3,num (depthQs 0 (q.kids.take n)))]) (fun _=>[]) trivial ?_ ?_
 ·exact Weak.keepL (by simp [cst,depthQs,ends]) (by simp [cst,vQ,ends]) (by simp [cst,ends])
 intro I hI n hn hi
 simp -implicitDefEqProofs only [cst,vQ,↓zb,push_cast,simprocAttr,tte]
 refine za (fun h=>?_) fun h=>?_
 ·have h':n<q.kids.length:=by have:=of_decide_eq_true h;omega
  have hw:=zh h' (by omega)
  have ht:=gc (q.kids.getD n default) (q.kids.take n) 0
  rw [<-zz _ _ h'] at ht
  refine ⟨(by first | omega | trivial | (refine ⟨?_,?_⟩<;>first | omega | trivial | (refine ⟨?_,?_⟩<;>first | omega | trivial | (refine ⟨?_,?_⟩<;>first | omega | trivial | rfl)))),?_⟩
  have hc:=ih _ (zk h') (ho.kid (zk h'))
  rw [x4] at hc
  refine ze [[0,0,0,0,0,0,0,0,0,6,6,7,1,1,15]] [] (hc) ?_
  simp -implicitDefEqProofs only [↓zb,push_cast,simprocAttr,tte]
  exact zn hI n rfl h' trivial (by simp [hw,ht,ends]) (by simp [hw,ht,ends]) (by simp [hw,ht,ends]) (by simp [hw,ht,ends])
 obtain rfl:n=q.kids.length:=by have:=of_decide_eq_false h;omega
 exact zi trivial (by rw [<-hr,depthQ_eq,List.take_length];rfl) (by simp [ends])
end
section
open Go.Am
attribute [local simp, local push_cast] num boo str ints aV aTab zx aS aT aC yQ wW wu
def fmAt (op:Int):FmD:=fmTab.getD op.toNat default
def isFm (op:Int):Bool:=decide (1<=op)&&decide (op<=10)
def yZ (op:Int):FmD:=if isFm op then fmAt op else default
def aFm (o:FmD):A:= .agg [.d (.lit (.string o.word)),.d (.lit (.int .i64 o.kids)),.d (.lit (.string o.uses))]
theorem fmRow_at: ∀n:Nat,n<11->(List.map A.d fmRow)[n * 3]? =some (.d (.lit (.string (fmTab.getD n default).word)))/\((List.map A.d fmRow).drop (n * 3)).take 3=[.d (.lit (.string (fmTab.getD n default).word)),.d (.lit (.int .i64 (fmTab.getD n default).kids)),.d (.lit (.string (fmTab.getD n default).uses))]:=by
 intro n hn
 match n,hn with
 | 0,_=>exact ⟨rfl,rfl⟩
 | 1,_=>exact ⟨rfl,rfl⟩
 | 2,_=>exact ⟨rfl,rfl⟩
 | 3,_=>exact ⟨rfl,rfl⟩
 | 4,_=>exact ⟨rfl,rfl⟩
 | 5,_=>exact ⟨rfl,rfl⟩
 | 6,_=>exact ⟨rfl,rfl⟩
 | 7,_=>exact ⟨rfl,rfl⟩
 | 8,_=>exact ⟨rfl,rfl⟩
 | 9,_=>exact ⟨rfl,rfl⟩
 | 10,_=>exact ⟨rfl,rfl⟩
 | n+11,h=>omega
theorem fm_some: ∀n:Nat,1<=n->n<11->((fmTab.getD n default).word.toList==[])=false:=by
 have h:(List.range 11).all (fun n=>decide (n=0) || !(fmTab.getD n default).word.data.toList.isEmpty)=true:=by decide
 intro n h1 h2
 have:=all_range.1 h n h2
 rw [decide_eq_false (by omega),Bool.false_or] at this
 rw [ByteArray.toList_eq]
 cases hw:(fmTab.getD n default).word.data.toList with
 | nil=>rw [hw] at this;cases this
 | cons _ _=>rfl
theorem c_form (op:Int):ACall Tryz.prog 96 [num op] [] (.tup [aFm (yZ op),boo (isFm op)]) []:=by
 refine zl mixed ttok Tryz.func96 Tryz.ntmps96 Tryz.results96 ?_
 generalize hr:A.tup [aFm (yZ op),boo (isFm op)]=R
 have he:(ByteArray.mk #[]).toList=[]:=by simp [ByteArray.toList_eq]
 have hlen:(List.map A.d fmRow).length=33:=rfl
 by_cases ho:0<=op/\op<11
 ·obtain ⟨h0,h29⟩:=ho
  obtain ⟨h1,h3⟩:=fmRow_at op.toNat (by omega)
  simp -implicitDefEqProofs only [argT,tabFm,he,h1,h3,↓zb,push_cast,simprocAttr,tte]
  refine za (fun h=>absurd h (by simp;omega)) fun _=>za (fun h=>absurd h (by simp;omega)) fun _=>?_
  refine ⟨⟨h0,by omega⟩,?_⟩
  subst hr
  by_cases hz:op=0
  ·subst hz
   have hw:((fmTab.getD (0:Int).toNat default).word.toList==[])=true:=by rw [ByteArray.toList_eq];rfl
   refine za (fun _=>?_) fun h=>absurd h (by rw [hw];decide)
   refine zv [[0,0,0],[0]] rfl (by simp) (by simp [zc]<;>omega) ?_ (by first | rfl | simp [ends] | (subst_vars;simp [ends])) (by simp [ends]) (by simp [ends])
   rfl
  ·have hw:((fmTab.getD op.toNat default).word.toList==[])=false:=fm_some op.toNat (by omega) (by omega)
   refine za (fun h=>absurd h (by rw [hw];decide)) fun _=>?_
   have hy:isFm op=true:=by rw [isFm,decide_eq_true (by omega),decide_eq_true (by omega)];rfl
   refine ⟨⟨h0,by omega⟩,by rw [hlen];omega,?_⟩
   rw [yZ,hy]
   refine zv [[0,0,0],[0]] rfl (by simp) (by simp [zc]<;>omega) ?_ (by first | rfl | simp [ends] | (subst_vars;simp [ends])) (by simp [ends]) (by simp [ends])
   rfl
 ·have hn:isFm op=false:=by
   rw [isFm,Bool.and_eq_false_iff,decide_eq_false_iff_not,decide_eq_false_iff_not];omega
  simp -implicitDefEqProofs only [argT,tabFm,he,↓zb,push_cast,simprocAttr,tte]
  have hf:A.tup [aFm default,boo false]=R:=by rw [<-hr,yZ,hn];rfl
  subst hf
  refine za (fun g=>?_) fun g=>?_
  ·refine zv [[0,0,0],[0]] rfl (by simp) (by simp [zc]<;>omega) ?_ (by first | rfl | simp [ends] | (subst_vars;simp [ends])) (by simp [ends]) (by simp [ends])
   rfl
  ·refine za (fun _=>?_) fun h=>absurd h (by simp at g;simp;omega)
   refine zv [[0,0,0],[0]] rfl (by simp) (by simp [zc]<;>omega) ?_ (by first | rfl | simp [ends] | (subst_vars;simp [ends])) (by simp [ends]) (by simp [ends])
   rfl
theorem c_eqE0 (l:List Ex) (hl:l.length<=1000):ACall Tryz.prog 196 [.d (.sl 6 (zd rE l)),.d (.sl 6 (zd rE [])),.clo 159 []] [] (boo (l.length==0)) []:=by
 refine zl mixed ttok Tryz.func196 Tryz.ntmps196 Tryz.results196 ?_
 generalize hr:boo (l.length==0)=R
 simp -implicitDefEqProofs only [argT,↓zb,push_cast,simprocAttr,tte]
 have hz: ∀K σ,wk Tryz.prog K σ=wk Tryz.prog K σ:=fun _ _=>rfl
 refine za (fun h0=>?_) fun h0=>?_
 ·have h1: ¬l.length=0:=by simpa using h0
  exact zi trivial (by rw [<-hr,beq_false_of_ne h1];rfl) (by simp [ends])
 have h1:l.length=0:=by simpa using h0
 rw [h1]
 refine zo mixed ttok 17 [15,16] [] (by simp only [zC,ends,push_cast,simprocAttr];rfl) (by simp only [zH,zp,ends,push_cast,simprocAttr];rfl) 0 (fun _=>True) (fun _=>[]) (fun _=>[]) trivial ?_ ?_
 ·exact Weak.keepL (by simp [cst,ends]) (by simp [cst,ends]) (by simp [cst,ends])
 intro I hI n hn hi
 obtain rfl:n=0:=by omega
 simp -implicitDefEqProofs only [cst,↓zb,push_cast,simprocAttr,tte]
 exact zi trivial (by rw [<-hr,h1];rfl) (by simp [ends])
def e0:Ex:= .mk 0 0 0 ByteArray.empty 0 []
theorem aE_e0:aE e0= .agg [num 0,num 0,num 0,str ByteArray.empty,num 0,.d (.sl 6 (zd rE []))]:=by rw [wP];rfl
def uM (e:Ex):Bool:=((((e.op==0&&e.type==0)&&e.num==0)&&e.text.toList==[])&&e.col==0)&&(e.kids.length==0)
theorem c_same0 (e:Ex) (hl:e.kids.length≤1000):ACall Tryz.prog 159 [aE e,aE e0] [] (boo (uM e)) []:=by
 have hc:=c_eqE0 e.kids hl
 rw [wP,aE_e0]
 refine zl mixed ttok Tryz.func159 Tryz.ntmps159 Tryz.results159 ?_
 generalize hr:boo (uM e)=R
 have he:ByteArray.empty.toList=[]:=by simp [ByteArray.toList_eq]
 simp -implicitDefEqProofs only [argT,he,↓zb,push_cast,simprocAttr,tte]
 unfold uM at hr
 refine za (fun h1=>?_) fun h1=>?_
 ·refine za (fun h2=>?_) fun h2=>?_
  ·refine za (fun h3=>?_) fun h3=>?_
   ·refine za (fun h4=>?_) fun h4=>?_
    ·refine za (fun h5=>?_) fun h5=>?_
     ·refine ze [[6],[6],[]] [] (hc) ?_
      simp -implicitDefEqProofs only [↓zb,push_cast,simprocAttr,tte]
      exact zi trivial (by rw [<-hr];simp only [h1,h2,h3,h4,h5,Bool.true_and];rfl) (by simp [ends])
     ·exact zi trivial (by rw [<-hr];simp only [h1,h2,h3,h4,h5,Bool.true_and,Bool.false_and];rfl) (by simp [ends])
    ·exact zi trivial (by rw [<-hr];simp only [h1,h2,h3,h4,Bool.true_and,Bool.false_and];rfl) (by simp [ends])
   ·exact zi trivial (by rw [<-hr];simp only [h1,h2,h3,Bool.true_and,Bool.false_and];rfl) (by simp [ends])
  ·exact zi trivial (by rw [<-hr];simp only [h1,h2,Bool.true_and,Bool.false_and];rfl) (by simp [ends])
 ·exact zi trivial (by rw [<-hr];simp only [h1,Bool.false_and];rfl) (by simp [ends])
theorem ap0:Apart (.string ⟨#[116,97,98,108,101]⟩) vV=True:=eq_true (vP _)
theorem ap1 (v0:Value):Apart (.string ⟨#[107,105,110,100]⟩) (bput vV (.string ⟨#[116,97,98,108,101]⟩) v0)=True:=eq_true (zN rfl (vP _))
theorem ap2 (v0 v1:Value):Apart (.string ⟨#[97,108,108]⟩) (bput (bput vV (.string ⟨#[116,97,98,108,101]⟩) v0) (.string ⟨#[107,105,110,100]⟩) v1)=True:=eq_true (zN rfl (zN rfl (vP _)))
theorem ap3 (v0 v1 v2:Value):Apart (.string ⟨#[99,111,110,100]⟩) (bput (bput (bput vV (.string ⟨#[116,97,98,108,101]⟩) v0) (.string ⟨#[107,105,110,100]⟩) v1) (.string ⟨#[97,108,108]⟩) v2)=True:=eq_true (zN rfl (zN rfl (zN rfl (vP _))))
theorem ap4 (v0 v1 v2 v3:Value):Apart (.string ⟨#[101,120,112,114,115]⟩) (bput (bput (bput (bput vV (.string ⟨#[116,97,98,108,101]⟩) v0) (.string ⟨#[107,105,110,100]⟩) v1) (.string ⟨#[97,108,108]⟩) v2) (.string ⟨#[99,111,110,100]⟩) v3)=True:=eq_true (zN rfl (zN rfl (zN rfl (zN rfl (vP _)))))
theorem ap5 (v0 v1 v2 v3 v4:Value):Apart (.string ⟨#[97,103,103,115]⟩) (bput (bput (bput (bput (bput vV (.string ⟨#[116,97,98,108,101]⟩) v0) (.string ⟨#[107,105,110,100]⟩) v1) (.string ⟨#[97,108,108]⟩) v2) (.string ⟨#[99,111,110,100]⟩) v3) (.string ⟨#[101,120,112,114,115]⟩) v4)=True:=eq_true (zN rfl (zN rfl (zN rfl (zN rfl (zN rfl (vP _))))))
theorem ap6 (v0 v1 v2 v3 v4 v5:Value):Apart (.string ⟨#[116,121,112,101,115]⟩) (bput (bput (bput (bput (bput (bput vV (.string ⟨#[116,97,98,108,101]⟩) v0) (.string ⟨#[107,105,110,100]⟩) v1) (.string ⟨#[97,108,108]⟩) v2) (.string ⟨#[99,111,110,100]⟩) v3) (.string ⟨#[101,120,112,114,115]⟩) v4) (.string ⟨#[97,103,103,115]⟩) v5)=True:=eq_true (zN rfl (zN rfl (zN rfl (zN rfl (zN rfl (zN rfl (vP _)))))))
theorem ap7 (v0 v1 v2 v3 v4 v5 v6:Value):Apart (.string ⟨#[114,111,119,115]⟩) (bput (bput (bput (bput (bput (bput (bput vV (.string ⟨#[116,97,98,108,101]⟩) v0) (.string ⟨#[107,105,110,100]⟩) v1) (.string ⟨#[97,108,108]⟩) v2) (.string ⟨#[99,111,110,100]⟩) v3) (.string ⟨#[101,120,112,114,115]⟩) v4) (.string ⟨#[97,103,103,115]⟩) v5) (.string ⟨#[116,121,112,101,115]⟩) v6)=True:=eq_true (zN rfl (zN rfl (zN rfl (zN rfl (zN rfl (zN rfl (zN rfl (vP _))))))))
def wR (q:Qr):List (ByteArray×Bool):=[(⟨#[116,97,98,108,101]⟩, !q.table.toList==[]),(⟨#[107,105,110,100]⟩,q.kind !=0),(⟨#[97,108,108]⟩,q.all),(⟨#[99,111,110,100]⟩, !uM q.cond),(⟨#[101,120,112,114,115]⟩,decide ((q.exprs.length:Int)>0)),(⟨#[97,103,103,115]⟩,decide ((q.aggs.length:Int)>0)),(⟨#[116,121,112,101,115]⟩,decide ((q.types.length:Int)>0)),(⟨#[114,111,119,115]⟩,decide ((q.rows.length:Int)>0))]
def jc (b:ByteArray):ByteArray:=⟨#[32]⟩++b++⟨#[32]⟩
def badU (o:FmD) (p:ByteArray×Bool):Bool:=p.2&& !(Lib.contains (jc o.uses).data.toList (jc p.1).data.toList)
def vX (q:Qr) (o:FmD):Bool:=(wR q).all fun p=> !badU o p
def bagQ (q:Qr):Value->Option Value:=bput (bput (bput (bput (bput (bput (bput (bput (vV) (.string ⟨#[116,97,98,108,101]⟩) (.bool ((wR q).getD 0 default).2)) (.string ⟨#[107,105,110,100]⟩) (.bool ((wR q).getD 1 default).2)) (.string ⟨#[97,108,108]⟩) (.bool ((wR q).getD 2 default).2)) (.string ⟨#[99,111,110,100]⟩) (.bool ((wR q).getD 3 default).2)) (.string ⟨#[101,120,112,114,115]⟩) (.bool ((wR q).getD 4 default).2)) (.string ⟨#[97,103,103,115]⟩) (.bool ((wR q).getD 5 default).2)) (.string ⟨#[116,121,112,101,115]⟩) (.bool ((wR q).getD 6 default).2)) (.string ⟨#[114,111,119,115]⟩) (.bool ((wR q).getD 7 default).2)
theorem wO {S:Value->Option Value} {k v x y:Value} (h:bput S k v x=some y):(x,y)=(k,v)\/S x=some y:=by
 unfold bput at h
 split at h
 ·rename_i e;cases h;rw [ut e];exact .inl rfl
 ·exact .inr h
theorem bag_uses {q:Qr} {x y:Value} (h:bagQ q x=some y): ∃p∈wR q,(x,y)=(.string p.1,.bool p.2):=by
 have key: ∀i,i<8->(x,y)=(.string ((wR q).getD i default).1,.bool ((wR q).getD i default).2)-> ∃p∈wR q,(x,y)=(.string p.1,.bool p.2):=fun i hi e=>⟨_,zk (show i<(wR q).length from hi),e⟩
 unfold bagQ at h
 rcases wO h with h | h
 ·exact key 7 (by omega) h
 rcases wO h with h | h
 ·exact key 6 (by omega) h
 rcases wO h with h | h
 ·exact key 5 (by omega) h
 rcases wO h with h | h
 ·exact key 4 (by omega) h
 rcases wO h with h | h
 ·exact key 3 (by omega) h
 rcases wO h with h | h
 ·exact key 2 (by omega) h
 rcases wO h with h | h
 ·exact key 1 (by omega) h
 rcases wO h with h | h
 ·exact key 0 (by omega) h
 cases h
theorem uses_bag {q:Qr} {p:ByteArray×Bool} (h:p∈wR q):bagQ q (.string p.1)=some (.bool p.2):=by
 simp only [wR,List.mem_cons,List.not_mem_nil,or_false] at h
 rcases h with rfl | rfl | rfl | rfl | rfl | rfl | rfl | rfl<;>rfl
theorem uses_size {q:Qr} {p:ByteArray×Bool} (h:p∈wR q):p.1.size<=5:=by
 simp only [wR,List.mem_cons,List.not_mem_nil,or_false] at h
 rcases h with rfl | rfl | rfl | rfl | rfl | rfl | rfl | rfl<;>exact Nat.le_of_ble_eq_true rfl
theorem qP: ∀(n:Nat) (l:List Nat),l.Nodup→(∀i∈l,i<n)→l.length≤n
 | 0,[],_,_=>Nat.le_refl _
 | 0,x::l,_,h=>by have:=h x (by simp);omega
 | n+1,l,hd,h=>by
   by_cases hn:n∈l
   ·have:=qP n (l.erase n) (hd.erase n) fun i hi=>by
     have h1:=h i (List.mem_of_mem_erase hi)
     have h2:i≠n:=fun e=>by subst e;exact (List.Nodup.not_mem_erase hd) hi
     omega
    rw [List.length_erase_of_mem hn] at this
    omega
   ·have:=qP n l hd fun i hi=>by
     have h1:=h i hi
     have h2:i≠n:=fun e=>hn (e ▸ hi)
     omega
    omega
def badE (o:FmD):Value×Value->Bool
 | (.string a,.bool b)=>badU o (a,b)
 | _=>false
def okSn (o:FmD) (es:List (Value×Value)) (sn:List Nat):Prop:=sn.Nodup/\ ∀i∈sn,∃p,es[i]? =some p/\badE o p=false
theorem okSn.few {o:FmD} {es:List (Value×Value)} {sn:List Nat} (h:okSn o es sn):sn.length<=es.length:=
 qP _ _ h.1 fun i hi=>by
  obtain ⟨p,hp,_⟩:=h.2 i hi
  exact (List.getElem?_eq_some_iff.1 hp).1
theorem okSn.add {o:FmD} {es:List (Value×Value)} {sn:List Nat} (h:okSn o es sn) {i:Nat} {p:Value×Value} (hi:i ∉ sn) (hp:es[i]? =some p) (hb:badE o p=false):okSn o es (sn++[i]):=by
 refine ⟨List.nodup_append.2 ⟨h.1,by simp,fun a ha b hb e=>?_⟩,fun j hj=>?_⟩
 ·simp at hb;subst hb;subst e;exact hi ha
 ·rcases List.mem_append.1 hj with hj | hj
  ·exact h.2 j hj
  ·simp at hj;subst hj;exact ⟨p,hp,hb⟩
theorem c_qclean (q:Qr) (o:FmD) (hq:OkQ1 q) (ho:o.uses.size≤1000):ACall Tryz.prog 97 [aQ q,aFm o] [] (boo (vX q o)) []:=by
 have hcl:=hq.cond
 have hc:=c_same0 q.cond (Nat.le_trans hcl.kids (by omega))
 rw [wP,aE_e0] at hc
 rw [x4]
 refine zl mixed ttok Tryz.func97 Tryz.ntmps97 Tryz.results97 ?_
 generalize hr:boo (vX q o)=R
 have he:(ByteArray.mk #[]).toList=[]:=by simp [ByteArray.toList_eq]
 simp -implicitDefEqProofs only [argT,aFm,he,ap0,ap1,ap2,ap3,ap4,ap5,ap6,ap7,↓zb,push_cast,simprocAttr,tte]
 refine ze [[0,0,0,0,0,6],[0,0,0,0,0,6]] [] (hc) ?_
 simp -implicitDefEqProofs only [ap0,ap1,ap2,ap3,ap4,ap5,ap6,ap7,↓zb,push_cast,simprocAttr,tte]
 refine ⟨zf (by kernel_rfl),?_⟩
 refine bag_open (q:=7) (io:=38) (S:=bagQ q) (n:=8) rfl rfl fun es stm hbl hes=>?_
 refine z7 mixed ttok (fun sn:List Nat=>(⟨[(38,.xo false 38),(3,.ptr 3 0)],[(38,.x (.mi stm 8 sn) [.mp 7]),(7,.mp es (some (stm,8))),(3,.var [.d (.lit (.string o.word)),.d (.lit (.int .i64 o.kids)),.d (.lit (.string o.uses))])]⟩:SL)) (fun sn=>es.length-sn.length) (okSn o es) [] ⟨List.nodup_nil,fun _ h=>by cases h⟩ ?_ ?_
 ·exact Weak.keepL (by simp [ends]) (by simp [ends]) (by simp [ends])
 intro I hI sn hi
 simp -implicitDefEqProofs only [↓zb,push_cast,simprocAttr,tte]
 refine map_next (io:=38) (om:=7) rfl rfl (fun i k v hik hin=>?_) (fun hall=>?_)
 ·have hlt:sn.length<es.length:=by
   have h1:=(okSn.few (o:=o) (es:=es) (sn:=sn) hi)
   rcases Nat.lt_or_ge sn.length es.length with h2 | h2
   ·exact h2
   ·exfalso
    have h3:=qP es.length (sn++[i]) (List.nodup_append.2 ⟨hi.1,by simp,fun a ha b hb e=>by simp at hb;subst hb;subst e;exact hin ha⟩) fun j hj=>by
     rcases List.mem_append.1 hj with hj | hj
     ·obtain ⟨p,hp,_⟩:=hi.2 j hj
      exact (List.getElem?_eq_some_iff.1 hp).1
     ·simp at hj;subst hj;exact (List.getElem?_eq_some_iff.1 hik).1
    simp at h3
    omega
  simp -implicitDefEqProofs only [setT,↓zb,push_cast,simprocAttr,tte]
  refine map_entry (io:=38) (om:=7) rfl rfl hik ?_
  obtain ⟨p,hp,hkv⟩:=bag_uses ((hes k v).1 (List.mem_of_getElem? hik))
  cases hkv
  simp -implicitDefEqProofs only [setT,↓zb,push_cast,simprocAttr,tte]
  have hps:=uses_size hp
  have h32:(ByteArray.mk #[32]).size=1:=rfl
  refine za (fun g=>?_) fun g=>?_
  ·simp only [ByteArray.size_append,h32]
   refine ⟨by omega,by omega,by omega,by omega,?_⟩
   have hcc:=c_contains (jc o.uses) (jc p.1) (by simp only [jc,ByteArray.size_append,h32];omega)
   simp only [jc] at hcc
   refine ze [[0],[0]] [] (hcc) ?_
   simp -implicitDefEqProofs only [↓zb,push_cast,simprocAttr,tte]
   refine za (fun g2=>?_) fun g2=>?_
   ·have hb:badU o p=true:=by simp only [badU,jc,g,Bool.true_and];simpa using g2
    have hcf:vX q o=false:=by
     cases hcq:vX q o with
     | false=>rfl
     | true=>
       have:=List.all_eq_true.1 hcq p hp
       rw [hb] at this
       cases this
    exact zi trivial (by rw [<-hr,hcf];rfl) (by simp [ends])
   ·have hb:badU o p=false:=by simp only [badU,jc,g,Bool.true_and];simpa using g2
    exact zq hI (sn++[i]) (okSn.add hi hin hik hb) (by simp only [List.length_append,List.length_cons,List.length_nil];omega) (Weak.keepL (by simp [ends]) (by simp [ends]) (by simp [ends]))
  ·have hb:badU o p=false:=by simp only [badU,g,Bool.false_and]
   exact zq hI (sn++[i]) (okSn.add hi hin hik hb) (by simp only [List.length_append,List.length_cons,List.length_nil];omega) (Weak.keepL (by simp [ends]) (by simp [ends]) (by simp [ends]))
 ·simp -implicitDefEqProofs only [setT,↓zb,push_cast,simprocAttr,tte]
  have hct:vX q o=true:=by
   refine List.all_eq_true.2 fun p hp=>?_
   obtain ⟨i,hil,hie⟩:=List.getElem_of_mem ((hes _ _).2 (uses_bag hp))
   obtain ⟨p',hp',hb⟩:=hi.2 i (hall i hil)
   rw [List.getElem?_eq_getElem hil,hie] at hp'
   cases hp'
   have hb':badU o p=false:=hb
   rw [hb'];rfl
  exact zi trivial (by rw [<-hr,hct];rfl) (by simp [ends])
end
section
open Go.Am
attribute [local simp, local push_cast] num boo str ints aV aTab zx aS aT aC yQ wW wu zO
def zP (p:List Int×Int):A:= .tup [ints p.1,num p.2]
attribute [local simp, local push_cast] zP
def uE (ts:List Int) (e:Ex):Int:=if (zW (ownM ts) e).2=0/\(zW (ownM ts) e).1≠2 then 4 else (zW (ownM ts) e).2
theorem c_cond (ts:List Int) (e:Ex) (hts:ts.length<=1000000) (ho:Ok12 e):ACall Tryz.prog 101 [ints ts,aE e] [] (num (uE ts e)) []:=by
 have hc:=c_type ts (by omega) e ho
 rw [wP] at hc ⊢
 refine zl mixed ttok Tryz.func101 Tryz.ntmps101 Tryz.results101 ?_
 generalize hr:num (uE ts e)=R
 unfold uE at hr
 simp -implicitDefEqProofs only [argT,↓zb,push_cast,simprocAttr,tte]
 refine ze [[1],[0,0,0,0,0,6]] [] (hc) ?_
 generalize zW (ownM ts) e=p at hr ⊢
 simp -implicitDefEqProofs only [zO,↓zb,push_cast,simprocAttr,tte]
 refine za (fun h1=>?_) fun h1=>?_
 ·have h1':p.2=0:=by simpa using h1
  refine za (fun h2=>?_) fun h2=>?_
  ·have h2':p.1≠2:=by simpa using h2
   exact zi trivial (by rw [<-hr,if_pos ⟨h1',h2'⟩];rfl) (by simp [ends])
  ·have h2': ¬p.1≠2:=by simpa using h2
   exact zi trivial (by rw [<-hr,if_neg (fun h=>h2' h.2)];rfl) (by simp [ends])
 ·have h1': ¬p.2=0:=by simpa using h1
  exact zi trivial (by rw [<-hr,if_neg (fun h=>h1' h.1)];rfl) (by simp [ends])
def wo {α:Type} (f:α->Int×Int) (l:List α):List Int×Int:=if ferr (fun e=>(f e).2) l=0 then (l.map fun e=>(f e).1,0) else ([],ferr (fun e=>(f e).2) l)
theorem listM_bad {α:Type} [Inhabited α] (f:α->Int×Int) (l:List α) (n:Nat) (h':n<l.length) (hi: ∀i,i<n->(f (l.getD i default)).2=0) (g:(f (l.getD n default)).2≠0):wo f l=([],(f (l.getD n default)).2):=by
 have:=xA (fun e=>(f e).2) l n h' hi g
 rw [wo,this,if_neg g]
theorem qp {α:Type} [Inhabited α] (f:α->Int×Int) (l:List α) (hi: ∀i,i<l.length->(f (l.getD i default)).2=0):wo f l=(l.map fun e=>(f e).1,0):=by
 have:=yA (fun e=>(f e).2) l hi
 rw [wo,this,if_pos rfl]
theorem jq {α β:Type} [Inhabited α] (f:α->β) (l:List α) (n:Nat) (h:n<l.length):(l.take (n+1)).map f=(l.take n).map f++[f (l.getD n default)]:=by
 rw [zz _ _ h,List.map_append];rfl
def wL (ts:List Int) (l:List Ex):List Int×Int:=wo (zW (ownM ts)) l
theorem c_cols (ts:List Int) (l:List Ex) (hts:ts.length<=1000000) (hl:l.length<=1000) (ho: ∀e∈l,Ok12 e):ACall Tryz.prog 102 [ints ts,.d (.sl 6 (zd rE l))] [] (zP (wL ts l)) []:=by
 refine zl mixed ttok Tryz.func102 Tryz.ntmps102 Tryz.results102 ?_
 generalize hr:zP (wL ts l)=R
 unfold wL at hr
 simp -implicitDefEqProofs only [argT,↓zb,push_cast,simprocAttr,tte]
 refine zo mixed ttok 13 [0,11,12] [] (by simp only [zC,ends,push_cast,simprocAttr];rfl) (by simp only [zH,zp,ends,push_cast,simprocAttr];rfl) l.length (fun n=> ∀i,i<n->(zW (ownM ts) (l.getD i default)).2=0) (fun n=>[(6,.vec 500 n)]) (fun n=>[(500,.vec 3 1 (zd rI ((l.take n).map fun e=>(zW (ownM ts) e).1)) 0)]) (fun i h=>absurd h (Nat.not_lt_zero _)) ?_ ?_
 ·exact (Weak.nilL 6 500 3 1 rfl rfl).trans (Weak.keepL (by simp [cst,ends]) (by simp [cst,ends]) (by simp [cst,ends]))
 intro I hI n hn hi
 have hl2:((l.take n).map fun e=>(zW (ownM ts) e).1).length=n:=by rw [List.length_map,List.length_take];omega
 simp -implicitDefEqProofs only [cst,↓zb,push_cast,simprocAttr,tte]
 refine za (fun h=>?_) fun h=>?_
 ·have h':n<l.length:=by have:=of_decide_eq_true h;omega
  have hw:=zh h' (by omega)
  have hs:=jq (fun e=>(zW (ownM ts) e).1) l n h'
  refine ⟨(by first | omega | trivial | (refine ⟨?_,?_⟩<;>first | omega | trivial | (refine ⟨?_,?_⟩<;>first | omega | trivial | (refine ⟨?_,?_⟩<;>first | omega | trivial | rfl)))),?_⟩
  refine ze [[1],[0,0,0,0,0,6]] [] (c_type ts (by omega) _ (ho _ (zk h'))) ?_
  simp -implicitDefEqProofs only [zO,↓zb,push_cast,simprocAttr,tte]
  refine za (fun g=>?_) fun g=>?_
  ·have g':(zW (ownM ts) (l.getD n default)).2≠0:=by simpa using g
   rw [<-hr,listM_bad _ _ n h' hi g',zP]
   refine zv [[1],[0]] rfl (by simp) (by simp [zc]<;>omega) ?_ (by first | rfl | simp [ends] | (subst_vars;simp [ends])) (by simp [ends]) (by simp [ends])
   rfl
  ·have g':(zW (ownM ts) (l.getD n default)).2=0:=by simpa using g
   refine ⟨⟨hl2.symm,by rw [hl2];omega⟩,?_⟩
   exact zn hI n rfl h' (fun i h2=>if h3:i=n then by rw [h3];exact g' else hi i (by omega)) (by simp [hw,hs,hl2,Nat.min_eq_left hn,zj,ends]) (by simp [hw,hs,hl2,Nat.min_eq_left hn,zj,ends]) (by simp [hw,hs,hl2,Nat.min_eq_left hn,zj,ends]) (by simp [hw,hs,hl2,Nat.min_eq_left hn,zj,ends])
 obtain rfl:n=l.length:=by have:=of_decide_eq_false h;omega
 rw [<-hr,qp _ _ hi,List.take_length,zP]
 refine zv [[1],[0]] rfl (by simp) (by simp [zc]<;>omega) ?_ (by first | rfl | simp [ends] | (subst_vars;simp [ends])) (by simp [ends]) (by simp [ends])
 rfl
def vi (ts:List Int) (a:Agg):Int×Int:=
 if a.fn<1\/a.fn>6\/(a.fn=1/\uM a.arg=false) then (0,1)
 else if a.fn=1 then (1,0)
 else if (zW (ownM ts) a.arg).2≠0 then (0,(zW (ownM ts) a.arg).2)
 else if a.fn=5\/a.fn=6 then ((zW (ownM ts) a.arg).1,0)
 else if a.fn=4/\(zW (ownM ts) a.arg).1≠1 then (0,4) else (1,0)
def aAgg (a:Agg):A:= .agg [.d (.lit (.int .i64 a.fn)),.d (.lit (.int .i64 a.arg.op)),.d (.lit (.int .i64 a.arg.type)),.d (.lit (.int .i64 a.arg.num)),.d (.lit (.string a.arg.text)),.d (.lit (.int .i64 a.arg.col)),.d (.sl 6 (zd rE a.arg.kids))]
theorem c_aggT (ts:List Int) (a:Agg) (hts:ts.length≤1000000) (ho:Ok12 a.arg):ACall Tryz.prog 163 [ints ts,aAgg a] [] (zO (vi ts a)) []:=by
 have hc:=c_type ts (by omega) a.arg ho
 have hs:=c_same0 a.arg (Nat.le_trans ho.kids (by omega))
 rw [wP] at hc hs
 rw [aE_e0] at hs
 refine zl mixed ttok Tryz.func163 Tryz.ntmps163 Tryz.results163 ?_
 generalize hr:zO (vi ts a)=R
 unfold vi at hr
 simp -implicitDefEqProofs only [argT,aAgg,↓zb,push_cast,simprocAttr,tte]
 refine za (fun k1=>?_) fun k1=>?_
 ·exact zG trivial (by rw [<-hr,if_pos (.inl (of_decide_eq_true k1))];rfl) (by simp [ends])
 refine za (fun k2=>?_) fun k2=>?_
 ·exact zG trivial (by rw [<-hr,if_pos (.inr (.inl (of_decide_eq_true k2)))];rfl) (by simp [ends])
 have k1':=of_decide_eq_false k1
 have k2':=of_decide_eq_false k2
 refine za (fun k3=>?_) fun k3=>?_
 ·have k3':a.fn=1:=by simpa using k3
  refine ze [[0,0,0,0,0,6],[0,0,0,0,0,6]] [] (hs) ?_
  simp -implicitDefEqProofs only [k3,↓zb,push_cast,simprocAttr,tte]
  refine za (fun k4=>?_) fun k4=>?_
  ·have k4':uM a.arg=false:=by simpa using k4
   exact zG trivial (by rw [<-hr,if_pos (.inr (.inr ⟨k3',k4'⟩))];rfl) (by simp [ends])
  ·have k4': ¬uM a.arg=false:=by simpa using k4
   exact zG trivial (by rw [<-hr,if_neg (fun h=>h.elim k1' fun h=>h.elim k2' fun h=>k4' h.2),if_pos k3'];rfl) (by simp [ends])
 ·have k3': ¬a.fn=1:=by simpa using k3
  simp -implicitDefEqProofs only [k3,↓zb,push_cast,simprocAttr,tte]
  refine ze [[1],[0,0,0,0,0,6]] [] (hc) ?_
  rw [if_neg (fun h=>h.elim k1' fun h=>h.elim k2' fun h=>k3' h.1),if_neg k3'] at hr
  generalize zW (ownM ts) a.arg=p at hr ⊢
  simp -implicitDefEqProofs only [zO,↓zb,push_cast,simprocAttr,tte]
  refine za (fun k5=>?_) fun k5=>?_
  ·have k5':p.2≠0:=by simpa using k5
   exact zG trivial (by rw [<-hr,if_pos k5'];rfl) (by simp [ends])
  have k5': ¬p.2≠0:=by simpa using k5
  rw [if_neg k5'] at hr
  refine za (fun k6=>?_) fun k6=>?_
  ·have k6':a.fn=5:=by simpa using k6
   exact zG trivial (by rw [<-hr,if_pos (.inl k6')];rfl) (by simp [ends])
  have k6': ¬a.fn=5:=by simpa using k6
  refine za (fun k7=>?_) fun k7=>?_
  ·have k7':a.fn=6:=by simpa using k7
   exact zG trivial (by rw [<-hr,if_pos (.inr k7')];rfl) (by simp [ends])
  have k7': ¬a.fn=6:=by simpa using k7
  rw [if_neg (fun h=>h.elim k6' k7')] at hr
  refine za (fun k8=>?_) fun k8=>?_
  ·have k8':a.fn=4:=by simpa using k8
   refine za (fun k9=>?_) fun k9=>?_
   ·have k9':p.1≠1:=by simpa using k9
    exact zG trivial (by rw [<-hr,if_pos ⟨k8',k9'⟩];rfl) (by simp [ends])
   ·have k9': ¬p.1≠1:=by simpa using k9
    exact zG trivial (by rw [<-hr,if_neg (fun h=>k9' h.2)];rfl) (by simp [ends])
  ·have k8': ¬a.fn=4:=by simpa using k8
   exact zG trivial (by rw [<-hr,if_neg (fun h=>k8' h.1)];rfl) (by simp [ends])
def uj (ts:List Int) (r:List Val) (i:Nat):Bool:= !zF (r.getD i default) || ((r.getD i default).kind !=0&&(r.getD i default).kind !=ts.getD i default)
def w8 (ts:List Int) (r:List Val):Int:=if r.length≠ts.length then 9 else if (List.range r.length).any (uj ts r) then 4 else 0
def wQ (q:Qr):Int:=if q.types.length=0\/q.types.length>24\/q.types.any (fun t=> !xk t)=true then 4 else ferr (w8 q.types) q.rows
theorem c_vals1 (k:Int):ACall Tryz.prog 161 [num k] [] (boo (!xk k)) []:=by
 refine zl mixed ttok Tryz.func161 Tryz.ntmps161 Tryz.results161 ?_
 generalize hr:boo (!xk k)=R
 unfold xk at hr
 simp -implicitDefEqProofs only [argT,↓zb,push_cast,simprocAttr,tte]
 refine za (fun h1=>?_) fun h1=>?_
 ·refine za (fun h2=>?_) fun h2=>?_
  ·have e1:(k==1)=false:=by simpa [bne] using h1
   have e2:(k==2)=false:=by simpa [bne] using h2
   exact zi trivial (by rw [<-hr,e1,e2];rfl) (by simp [ends])
  ·have e2:(k==2)=true:=by simpa [bne] using h2
   exact zi trivial (by rw [<-hr,e2,Bool.or_true,Bool.true_or];rfl) (by simp [ends])
 ·have e1:(k==1)=true:=by simpa [bne] using h1
  exact zi trivial (by rw [<-hr,e1,Bool.true_or,Bool.true_or];rfl) (by simp [ends])
theorem c_idxT1 (l:List Int) (hl:l.length<=1000000):
 ACall Tryz.prog 197 [ints l,.clo 161 []] [] (num (fidx (fun t=> !xk t) l)) []:=by
 refine zl mixed ttok Tryz.func197 Tryz.ntmps197 Tryz.results197 ?_
 generalize hr:num (fidx (fun t=> !xk t) l)=R
 simp -implicitDefEqProofs only [argT,↓zb,push_cast,simprocAttr,tte]
 refine zo mixed ttok 8 [0,1,6,7] [] (by simp only [zC,ends,push_cast,simprocAttr];rfl) (by simp only [zH,zp,ends,push_cast,simprocAttr];rfl) l.length (fun n=> ∀i,i<n->(!xk (l.getD i default))=false) (fun _=>[]) (fun _=>[]) (fun i h=>absurd h (Nat.not_lt_zero _)) ?_ ?_
 ·exact Weak.keepL (by simp [cst,ends]) (by simp [cst,ends]) (by simp [cst,ends])
 intro I hI n hn hi
 simp -implicitDefEqProofs only [cst,↓zb,push_cast,simprocAttr,tte]
 refine za (fun h=>?_) fun h=>?_
 ·have h':n<l.length:=by have:=of_decide_eq_true h;omega
  have hw:=zh h' (by omega)
  refine ⟨(by first | omega | trivial | (refine ⟨?_,?_⟩<;>first | omega | trivial | (refine ⟨?_,?_⟩<;>first | omega | trivial | (refine ⟨?_,?_⟩<;>first | omega | trivial | rfl)))),?_⟩
  refine ze [[0]] [] (c_vals1 (l.getD n default)) ?_
  simp -implicitDefEqProofs only [↓zb,push_cast,simprocAttr,tte]
  refine za (fun g=>?_) fun g=>?_
  ·refine zt [0] rfl (by simp) (by simp [zc]<;>omega) ?_ (by first | rfl | simp [ends] | (subst_vars;simp [ends])) (by simp [ends]) (by simp [ends])
   rw [<-hr,wi _ l n h' hi g];rfl
  ·exact zn hI n rfl h' (fun i h2=>if h3:i=n then by rw [h3];exact g else hi i (by omega)) (by simp [hw,ends]) (by simp [hw,ends]) (by simp [hw,ends]) (by simp [hw,ends])
 ·obtain rfl:n=l.length:=by have:=of_decide_eq_false h;omega
  refine zt [0] rfl (by simp) (by simp [zc]<;>omega) ?_ (by first | rfl | simp [ends] | (subst_vars;simp [ends])) (by simp [ends]) (by simp [ends])
  rw [<-hr,xb _ l hi];rfl
theorem c_anyT1 (l:List Int) (hl:l.length<=1000000):ACall Tryz.prog 160 [ints l,.clo 161 []] [] (boo (l.any fun t=> !xk t)) []:=by
 refine zl mixed ttok Tryz.func160 Tryz.ntmps160 Tryz.results160 ?_
 generalize hr:boo (l.any fun t=> !xk t)=R
 simp -implicitDefEqProofs only [argT,↓zb,push_cast,simprocAttr,tte]
 refine ze [[1],[]] [] (c_idxT1 l hl) ?_
 simp -implicitDefEqProofs only [↓zb,push_cast,simprocAttr,tte]
 refine zt [0] rfl (by simp) (by simp [zc]<;>omega) ?_ (by first | rfl | simp [ends] | (subst_vars;simp [ends])) (by simp [ends]) (by simp [ends])
 rw [<-hr,<-any_fidx];rfl
theorem c_values (q:Qr) (hq:OkQ1 q):ACall Tryz.prog 99 [aQ q] [] (num (wQ q)) []:=by
 have htl:=hq.types
 have hrl:=hq.rows
 rw [x4]
 refine zl mixed ttok Tryz.func99 Tryz.ntmps99 Tryz.results99 ?_
 generalize hr:num (wQ q)=R
 unfold wQ at hr
 simp -implicitDefEqProofs only [argT,↓zb,push_cast,simprocAttr,tte]
 refine za (fun k1=>?_) fun k1=>?_
 ·have k1':q.types.length=0:=by simpa using k1
  exact zi trivial (by rw [<-hr,if_pos (.inl k1')];rfl) (by simp [ends])
 have k1': ¬q.types.length=0:=by simpa using k1
 refine za (fun k2=>?_) fun k2=>?_
 ·have k2':q.types.length>24:=by have:=of_decide_eq_true k2;omega
  exact zi trivial (by rw [<-hr,if_pos (.inr (.inl k2'))];rfl) (by simp [ends])
 have k2': ¬q.types.length>24:=by have:=of_decide_eq_false k2;omega
 refine ze [[1],[]] [] (c_anyT1 q.types (by omega)) ?_
 simp -implicitDefEqProofs only [↓zb,push_cast,simprocAttr,tte]
 refine za (fun k3=>?_) fun k3=>?_
 ·exact zi trivial (by rw [<-hr,if_pos (.inr (.inr k3))];rfl) (by simp [ends])
 rw [if_neg (fun h=>h.elim k1' fun h=>h.elim k2' fun h=>by rw [k3] at h;cases h)] at hr
 refine zo mixed ttok 25 [1,23,24] [] (by simp only [zC,ends,push_cast,simprocAttr];rfl) (by simp only [zH,zp,ends,push_cast,simprocAttr];rfl) q.rows.length (fun n=> ∀i,i<n->w8 q.types (q.rows.getD i default)=0) (fun _=>[]) (fun _=>[(1,vQ q)]) (fun i h=>absurd h (Nat.not_lt_zero _)) ?_ ?_
 ·exact Weak.keepL (by simp [cst,ends]) (by simp [cst,vQ,ends]) (by simp [cst,ends])
 intro I hI n hn hi
 simp -implicitDefEqProofs only [cst,vQ,↓zb,push_cast,simprocAttr,tte]
 refine za (fun h=>?_) fun h=>?_
 ·have h':n<q.rows.length:=by have:=of_decide_eq_true h;omega
  have hw:=zh h' (by omega)
  have hrow:=hq.row _ (zk h')
  refine ⟨(by first | omega | trivial | (refine ⟨?_,?_⟩<;>first | omega | trivial | (refine ⟨?_,?_⟩<;>first | omega | trivial | (refine ⟨?_,?_⟩<;>first | omega | trivial | rfl)))),?_⟩
  have hbad:w8 q.types (q.rows.getD n default)≠0->num (w8 q.types (q.rows.getD n default))=R:=fun hne=>by rw [<-hr,xA _ _ n h' hi hne]
  have hgood:w8 q.types (q.rows.getD n default)=0-> ∀i,i<n+1->w8 q.types (q.rows.getD i default)=0:=fun h0 i h2=>if h3:i=n then by rw [h3];exact h0 else hi i (by omega)
  generalize q.rows.getD n default=r at hbad hgood hrow ⊢
  refine za (fun k4=>?_) fun k4=>?_
  ·have k4': ¬r.length=q.types.length:=qm k4
   have hv:w8 q.types r=9:=if_pos k4'
   exact zi trivial (by rw [<-hbad (by rw [hv];decide),hv];rfl) (by simp [ends])
  have k4':r.length=q.types.length:=u7 k4
  refine zo mixed ttok 37 [1,23,24,25,35,36] [] (by simp only [zC,ends,push_cast,simprocAttr];rfl) (by simp only [zH,zp,ends,push_cast,simprocAttr];rfl) r.length (fun m=> ∀i,i<m->uj q.types r i=false) (fun _=>[]) (fun _=>[(1,vQ q)]) (fun i h=>absurd h (Nat.not_lt_zero _)) ?_ ?_
  ·exact Weak.keepL (by simp [cst,ends]) (by simp [cst,vQ,ends]) (by simp [cst,ends])
  intro J hJ m hm hj
  simp -implicitDefEqProofs only [cst,vQ,↓zb,push_cast,simprocAttr,tte]
  refine za (fun g=>?_) fun g=>?_
  ·have g':m<r.length:=by have:=of_decide_eq_true g;omega
   have gw:=zh g' (by omega)
   have hb4:uj q.types r m=true->num 4=R:=fun hc=>by
    have hany:(List.range r.length).any (uj q.types r)=true:=List.any_eq_true.2 ⟨m,List.mem_range.2 g',hc⟩
    have hv:w8 q.types r=4:=by rw [w8,if_neg (fun e=>e k4'),if_pos hany]
    rw [<-hbad (by rw [hv];decide),hv]
   have hg0:uj q.types r m=false-> ∀i,i<m+1->uj q.types r i=false:=fun h0 i h2=>if h3:i=m then by rw [h3];exact h0 else hj i (by omega)
   refine ⟨(by first | omega | trivial | (refine ⟨?_,?_⟩<;>first | omega | trivial | (refine ⟨?_,?_⟩<;>first | omega | trivial | (refine ⟨?_,?_⟩<;>first | omega | trivial | rfl)))),?_⟩
   refine ze [[0,0,0]] [] (ve (r.getD m default)) ?_
   simp -implicitDefEqProofs only [↓zb,push_cast,simprocAttr,tte]
   unfold uj at hb4
   have hg1:(!zF (r.getD m default) || ((r.getD m default).kind !=0&&(r.getD m default).kind !=q.types.getD m default))=false-> ∀i,i<m+1->uj q.types r i=false:=hg0
   clear hg0
   refine za (fun c1=>?_) fun c1=>?_
   ·refine ⟨zf (by kernel_rfl),?_⟩
    exact zi trivial (hb4 (by rw [c1];rfl)) (by simp [ends])
   rw [c1,Bool.false_or] at hb4 hg1
   refine za (fun c2=>?_) fun c2=>?_
   ·refine ⟨by omega,zf (by kernel_rfl),?_⟩
    rw [c2,Bool.true_and] at hb4 hg1
    refine za (fun c3=>?_) fun c3=>?_
    ·exact zi trivial (hb4 c3) (by simp [ends])
    ·exact zn hJ m rfl g' (hg1 c3) (by simp [gw,vQ,ends]) (by simp [gw,vQ,ends]) (by simp [gw,vQ,ends]) (by simp [gw,vQ,ends])
   ·rw [c2,Bool.false_and] at hg1
    refine ⟨zf (by kernel_rfl),?_⟩
    exact zn hJ m rfl g' (hg1 rfl) (by simp [gw,vQ,ends]) (by simp [gw,vQ,ends]) (by simp [gw,vQ,ends]) (by simp [gw,vQ,ends])
  ·obtain rfl:m=r.length:=by have:=of_decide_eq_false g;omega
   have hany: ¬(List.range r.length).any (uj q.types r)=true:=fun e=>by
    obtain ⟨i,hi2,hc⟩:=List.any_eq_true.1 e
    rw [hj i (List.mem_range.1 hi2)] at hc
    cases hc
   have hv:w8 q.types r=0:=by rw [w8,if_neg (fun e=>e k4'),if_neg hany]
   exact zn hI n rfl h' (hgood hv) (by simp [hw,vQ,ends]) (by simp [hw,vQ,ends]) (by simp [hw,vQ,ends]) (by simp [hw,vQ,ends])
 ·obtain rfl:n=q.rows.length:=by have:=of_decide_eq_false h;omega
  exact zi trivial (by rw [<-hr,yA _ _ hi];rfl) (by simp [ends])
end
section
open Go.Am
attribute [local simp, local push_cast] num boo str ints aV aTab zx aS aT aC aRow rRow vecV aAgg
def yN (e:Ex) (rows:List Row):List Val:=(rows.map fun r=>y9 r e).filter fun v=>v.kind !=0
theorem valsM_succ (e:Ex) (rows:List Row) (n:Nat) (h:n<rows.length):
 yN e (rows.take (n+1))=if (y9 (rows.getD n default) e).kind !=0 then yN e (rows.take n)++[y9 (rows.getD n default) e] else yN e (rows.take n):=by
 unfold yN
 rw [zz _ _ h,List.map_append,List.filter_append]
 generalize rows.getD n default=r
 cases hk:(y9 r e).kind !=0<;>simp [hk]
theorem valsM_len (e:Ex) (rows:List Row):(yN e rows).length<=rows.length:=by
 unfold yN
 exact Nat.le_trans (List.length_filter_le _ _) (by simp)
def aggM (fn:Int) (e:Ex) (rows:List Row):Val:=
 if fn=1 then ⟨1,rows.length,ByteArray.empty⟩
 else if fn=2 then ⟨1,(sortV (yN e rows)).length,ByteArray.empty⟩
 else if fn=3 then ⟨1,(ddTo (sortV (yN e rows)) (sortV (yN e rows)).length).length,ByteArray.empty⟩
 else if fn=4 then sumS (sortV (yN e rows))
 else if (sortV (yN e rows)).length=0 then zu
 else if fn=5 then (sortV (yN e rows)).getD 0 default
 else if fn=6 then (sortV (yN e rows)).getD ((sortV (yN e rows)).length-1) default
 else zu
theorem c_agg1 (n:Int):ACall Tryz.prog 207 [num n] [] (aV ⟨1,n,ByteArray.empty⟩) []:=by
 refine zl mixed ttok Tryz.func207 Tryz.ntmps207 Tryz.results207 ?_
 generalize hr:aV ⟨1,n,ByteArray.empty⟩=R
 simp -implicitDefEqProofs only [argT,↓zb,push_cast,simprocAttr,tte]
 exact zD (by first | trivial | (simp;done) | (simp;omega)) (by rw [<-hr]<;>first | rfl | (simp [zu];done) | (simp_all [zu];done)) (by simp [ends])
theorem c_aggregate (fn:Int) (e:Ex) (ho:Ok12 e) (rows:List Row) (hl:rows.length<=1000) (hv: ∀v∈yN e rows,okV v):
 ACall Tryz.prog 179 [aAgg ⟨fn,e⟩,aTab rows] [] (aV (aggM fn e rows)) []:=by
 refine zl mixed ttok Tryz.func179 Tryz.ntmps179 Tryz.results179 ?_
 generalize hr:aV (aggM fn e rows)=R
 simp -implicitDefEqProofs only [argT,↓zb,push_cast,simprocAttr,tte]
 refine za (fun h1=>?_) fun h1=>?_
 ·refine ze [[0]] [] (c_agg1 rows.length) ?_
  simp -implicitDefEqProofs only [aV,↓zb,push_cast,simprocAttr,tte]
  have hf:fn=1:=by simpa using h1
  have hM:aggM fn e rows=⟨1,rows.length,ByteArray.empty⟩:=if_pos hf
  rw [hM] at hr
  exact zD (by first | trivial | (simp;done) | (simp;omega)) (by rw [<-hr]<;>first | rfl | (simp [zu];done) | (simp_all [zu];done)) (by simp [ends])
 have hf1: ¬fn=1:=by simpa using h1
 refine z7 mixed ttok (fun n:Nat=>(⟨[(19,.d (.lit (.int .i64 n))),(6,.vec 500 (yN e (rows.take n)).length),(2,.ptr 2 0),(4,.ptr 4 0),(5,.clo 207 []),(17,aTab rows),(18,num rows.length)],
  [(500,vecV (yN e (rows.take n))),(2,.var [.d (.lit (.int .i64 fn)),.d (.lit (.int .i64 e.op)),.d (.lit (.int .i64 e.type)),.d (.lit (.int .i64 e.num)),.d (.lit (.string e.text)),.d (.lit (.int .i64 e.col)),.d (.sl 6 (zd rE e.kids))]),
   (4,.var [.d (.lit (.int .i64 0)),.d (.lit (.int .i64 0)),.d (.lit (.string ByteArray.empty))])]⟩:SL)) (fun n=>rows.length-n) (fun n=>n<=rows.length) 0 (Nat.zero_le _) ?_ ?_
 ·exact (Weak.nilL 6 500 71 3 rfl rfl).trans (Weak.keepL (by simp [yN,ends]) (by simp [yN,ends]) (by simp [ends]))
 intro I hI n hn
 simp -implicitDefEqProofs only [↓zb,push_cast,simprocAttr,tte]
 refine za (fun h=>?_) fun h=>?_
 ·simp only [decide_eq_true_eq] at h
  have h':n<rows.length:=by omega
  have hw:=zh h' (by omega)
  have hs:=valsM_succ e rows n h'
  have hvl:=valsM_len e (rows.take n)
  have hvl2:(yN e (rows.take n)).length<=1000:=by simp at hvl;omega
  refine ⟨⟨by omega,h⟩,?_⟩
  refine ze [[0,0,0,0,0,6],[3]] [] (c_eval (rows.getD n default) e ho) ?_
  simp -implicitDefEqProofs only [aV,↓zb,push_cast,simprocAttr,tte]
  refine za (fun g=>?_) fun g=>?_
  ·rw [g,if_pos rfl] at hs
   generalize y9 (rows.getD n default) e=v at hs g ⊢
   have hrows:zd rV (yN e (rows.take n))++[[D.lit (.int .i64 v.kind),D.lit (.int .i64 v.num),D.lit (.string v.text)]]=zd rV (yN e (rows.take n)++[v]):=rowsV_snoc _ v.kind v.num v.text
   refine ⟨by omega,?_⟩
   exact zq hI (n+1) h' (by show rows.length-(n+1)<rows.length-n;omega) (Weak.keepL (by simp [hw,hs,ends]) (by simp [hs,hrows,ends]) (by simp [ends]))
  ·rw [g,if_neg (by decide)] at hs
   exact zq hI (n+1) h' (by show rows.length-(n+1)<rows.length-n;omega) (Weak.keepL (by simp [hw,hs,ends]) (by simp [hs,ends]) (by simp [ends]))
 ·simp only [decide_eq_false_iff_not] at h
  obtain rfl:n=rows.length:=by omega
  rw [List.take_length]
  have hvl:=valsM_len e rows
  unfold aggM at hr
  rw [if_neg hf1] at hr
  generalize yN e rows=L at hr hvl hv ⊢
  refine callx_fn (fn_sort (o:=500) (e:=71) (vs:=L) (by simp [lookO,vecV]) (by omega)) rfl ?_
  have hSl:=j9 L
  have hSv: ∀v∈sortV L,okV v:=fun v h=>hv v ((j8 L).mem_iff.1 h)
  generalize sortV L=S at hr hSl hSv ⊢
  rw [<-hSl]
  have hS1:S.length<=1000:=by omega
  simp -implicitDefEqProofs only [↓zb,push_cast,simprocAttr,tte]
  refine za (fun h2=>?_) fun h2=>?_
  ·rw [if_pos (by simpa using h2)] at hr
   refine ze [[0]] [] (c_agg1 S.length) ?_
   simp -implicitDefEqProofs only [aV,↓zb,push_cast,simprocAttr,tte]
   exact zD (by first | trivial | (simp;done) | (simp;omega)) (by rw [<-hr]<;>first | rfl | (simp [zu];done) | (simp_all [zu];done)) (by simp [ends])
  rw [if_neg (by simpa using h2)] at hr
  refine za (fun h3=>?_) fun h3=>?_
  ·rw [if_pos (by simpa using h3)] at hr
   refine kV [(1000,500)] (qy (o:=500) (e:=71) (wd:=3) (fz:=0) (rows:=zd rV S) (by simp [lookO]) (zc _ _).symm) (c_compact S (by omega)) (by simp [vecV,ends,bs]) (by simp [ends,bs]) (by simp [vecV,ends]) (by simp [idsOk,lookO,updO,ren1]) ?_
   simp -implicitDefEqProofs only [↓zb,push_cast,simprocAttr,tte]
   have hcl:(cpM S).length=S.length:=by simp only [cpM,List.length_append,List.length_replicate];have:=ddTo_len S S.length;omega
   refine ⟨hcl.symm,?_⟩
   refine ze [[0]] [] (c_agg1 (ddTo S S.length).length) ?_
   simp -implicitDefEqProofs only [aV,↓zb,push_cast,simprocAttr,tte]
   exact zD (by first | trivial | (simp;done) | (simp;omega)) (by rw [<-hr]<;>first | rfl | (simp [zu];done) | (simp_all [zu];done)) (by simp [ends])
  rw [if_neg (by simpa using h3)] at hr
  refine za (fun h4=>?_) fun h4=>?_
  ·rw [if_pos (by simpa using h4)] at hr
   refine kV [(1000,500)] (qy (o:=500) (e:=71) (wd:=3) (fz:=0) (rows:=zd rV S) (by simp [lookO]) (zc _ _).symm) (c_sum S hS1 hSv) (by simp [vecV,ends,bs]) (by simp [ends,bs]) (by simp [vecV,ends]) (by simp [idsOk,lookO,updO,ren1]) ?_
   simp -implicitDefEqProofs only [aV,↓zb,push_cast,simprocAttr,tte]
   exact zD (by first | trivial | (simp;done) | (simp;omega)) (by rw [<-hr]<;>first | rfl | (simp [zu];done) | (simp_all [zu];done)) (by simp [ends])
  rw [if_neg (by simpa using h4)] at hr
  refine za (fun h5=>?_) fun h5=>?_
  ·rw [if_pos (by simpa using h5)] at hr
   exact zD (by first | trivial | (simp;done) | (simp;omega)) (by rw [<-hr]<;>first | rfl | (simp [zu];done) | (simp_all [zu];done)) (by simp [ends])
  have h5': ¬S.length=0:=by simpa using h5
  rw [if_neg h5'] at hr
  refine za (fun h6=>?_) fun h6=>?_
  ·rw [if_pos (by simpa using h6)] at hr
   refine ⟨by omega,by omega,?_⟩
   exact zD (by first | trivial | (simp;done) | (simp;omega)) (by rw [<-hr]<;>first | rfl | (simp [zu];done) | (simp_all [zu];done)) (by simp [ends])
  rw [if_neg (by simpa using h6)] at hr
  have hwS:IntKind.i64.wrap ((S.length:Int)-1)=((S.length-1:Nat):Int):=by rw [zm (by omega) (by omega)];omega
  simp only [hwS]
  refine za (fun h7=>?_) fun h7=>?_
  ·rw [if_pos (by simpa using h7)] at hr
   simp only [Int.toNat_natCast]
   refine ⟨⟨by omega,by omega⟩,by omega,?_⟩
   exact zD (by first | trivial | (simp;done) | (simp;omega)) (by rw [<-hr]<;>first | rfl | (simp [zu];done) | (simp_all [zu];done)) (by simp [ends])
  ·rw [if_neg (by simpa using h7)] at hr
   exact zD (by first | trivial | (simp;done) | (simp;omega)) (by rw [<-hr]<;>first | rfl | (simp [zu];done) | (simp_all [zu];done)) (by simp [ends])
end
section
open Go.Am Go.Proofs Go.Shelf Go.RowKit
attribute [local simp, local push_cast] num boo str ints aV aTab zx aS aT aC yQ wW wu zP zO
theorem fn_grow {h:Nat→Option Ob} {d n:Nat} (ho:h d=none) (hn:n≤1000000):
 FnCall Tryz.prog 198 [.snil,num n] h ⟨True,.vec d 0,[(d,.vec 3 1 [] 0)],[d]⟩ where
 fn:=⟨_,Tryz.func198,by kernel_rfl,by kernel_rfl⟩
 keyed:=by simp [z6]
 calls:=fun h2 hr cx β w us rel hus=>by
  have ho2:h2 d=none:=(hr d (by simp)).trans ho
  simp only [num,repL,A.rep,D.rep] at hus
  obtain ⟨u1,_,rfl,rfl,u2,_,rfl,⟨rfl,_⟩,rfl⟩:=hus
  by_cases h0:n=0
  ·subst h0
   refine (show Calls Tryz.prog 198 #[.slice none 0 0,.int .i64 ((0:Nat):Int)] w _ from Any8.slices_Grow_room Tryz.growI none 0 0 0 w (by omega) (by omega) (by omega) (by omega)).mono ?_
   rintro e' w' ⟨rfl,rfl⟩
   obtain ⟨r1,L1⟩:=rel.nil d 3 1 ho2
   refine ⟨_,_,rfl,r1,L1,?_⟩
   simp only [A.rep,zg]
   exact ⟨3,1,[],0,by simp [upds],by simp,rfl,fun _=> .inl ⟨by simp,trivial⟩⟩
  ·obtain ⟨i0,hi,his,hib,z,hz,hzc⟩:=(ttok 3 _ rfl).info
   refine (show Calls Tryz.prog 198 #[.slice none 0 0,.int .i64 (n:Int)] w _ from Any8.slices_Grow_grow Tryz.growI i0 z hi hz (by rw [his];decide) none 0 0 n [] w (by omega) (by omega) (by rw [hib];show (0+n) * 8<=_;omega) (by omega) (by simp) (fun _=>rfl) (fun _ h=>by cases h)).mono ?_
   rintro e' w' ⟨rfl,rfl⟩
   generalize hG:grownCap w (0+n) 0 (Tryz.growI_ren.t 25)=G
   generalize hC: #[]++Builtin.zeroCells z.cells (0+n-0)++Builtin.zeroCells z.cells (G-(0+n))=C
   have hGn:0+n<=G:=by rw [<-hG];exact grownCap_ge w _ _ _
   have hGm:G<=maxLen:=by rw [<-hG];exact grownCap_le_maxLen w _ _ _ (by unfold maxLen;omega)
   obtain ⟨r0,L0⟩:=rel.drew
   obtain ⟨r1,L1⟩:=r0.alloc d (.vec 3 1 [] 0) C 3 ho2 (fun L=>by
    simp only [Ob.rep]
    exact ⟨Nat.zero_le _,fun _ h=>(by cases h),.inr ⟨_,C,rfl,zZ w.drew _,by simp [rowsAt],by simp⟩⟩)
   have hCs:C.size=G:=by
    rw [<-hC]
    have:z.cells.size=1:=by rw [hzc];rfl
    simp only [Array.size_append,size_zeroCells,this]
    simp
    omega
   refine ⟨_,_,rfl,r1,L0.trans L1,?_⟩
   simp only [A.rep,zg]
   refine ⟨3,1,[],0,by simp [upds],by simp,rfl,fun _=> .inr ⟨w.heap.size,G,by simp,rfl,Nat.zero_le _,hGm,C,3,zZ w.drew _,by rw [hCs,Nat.mul_one]⟩⟩
theorem flat_snoc (ll:List (List Int)) (n:Nat) (h:n<ll.length):(ll.take (n+1)).flatten=(ll.take n).flatten++ll.getD n default:=by
 rw [zz _ _ h,List.flatten_append];simp
theorem flat_len: ∀(ll:List (List Int)) (b:Nat),(∀l∈ll,l.length<=b)->ll.flatten.length<=ll.length * b
 | [],_,_=>by simp
 | l::ll,b,h=>by
   have h1:=h l (by simp)
   have h2:=flat_len ll b fun x hx=>h x (by simp [hx])
   rw [List.flatten_cons,List.length_append,List.length_cons,Nat.add_mul]
   omega
theorem c_concat (ll:List (List Int)) (hl:ll.length<=1000) (hb: ∀l∈ll,l.length<=1000):ACall Tryz.prog 162 [.d (.sl 1 (zd rIs ll))] [] (ints ll.flatten) []:=by
 refine zl mixed ttok Tryz.func162 Tryz.ntmps162 Tryz.results162 ?_
 generalize hr:ints ll.flatten=R
 have hfl: ∀n,(ll.take n).flatten.length<=1000000:=fun n=>by
  have h1:=flat_len (ll.take n) 1000 fun l h=>hb l (List.mem_of_mem_take h)
  have h2:(ll.take n).length<=1000:=Nat.le_trans (by rw [List.length_take];exact Nat.min_le_right _ _) hl
  have:=Nat.mul_le_mul_right 1000 h2
  omega
 simp -implicitDefEqProofs only [argT,↓zb,push_cast,simprocAttr,tte]
 refine zo mixed ttok 11 [0,9,10] [] (by simp only [zC,ends,push_cast,simprocAttr];rfl) (by simp only [zH,zp,ends,push_cast,simprocAttr];rfl) ll.length (fun _=>True) (fun n=>[(3,num ((ll.take n).flatten.length:Nat))]) (fun _=>[]) trivial ?_ ?_
 ·exact Weak.keepL (by simp [cst,ends]) (by simp [cst,ends]) (by simp [cst,ends])
 intro I hI n hn hi
 simp -implicitDefEqProofs only [cst,↓zb,push_cast,simprocAttr,tte]
 refine za (fun h=>?_) fun h=>?_
 ·have h':n<ll.length:=by have:=of_decide_eq_true h;omega
  have hw:=zh h' (by omega)
  have hs:=flat_snoc ll n h'
  have h1:=hfl n
  have h2:=hb _ (zk h')
  have hws:IntKind.i64.wrap (((ll.take n).flatten.length:Nat)+((ll.getD n default).length:Nat):Int)=(((ll.take (n+1)).flatten.length:Nat):Int):=by
   rw [hs,List.length_append,zm (by omega) (by omega)];omega
  refine ⟨(by first | omega | trivial | (refine ⟨?_,?_⟩<;>first | omega | trivial | (refine ⟨?_,?_⟩<;>first | omega | trivial | (refine ⟨?_,?_⟩<;>first | omega | trivial | rfl)))),?_⟩
  rw [hws]
  refine za (fun h=>absurd (of_decide_eq_true h) (by omega)) (fun _=>?_)
  exact zn hI n rfl h' trivial (by simp [hw,ends]) (by simp [hw,ends]) (by simp [hw,ends]) (by simp [hw,ends])
 obtain rfl:n=ll.length:=by have:=of_decide_eq_false h;omega
 clear hI
 refine callx_fn (fn_grow (d:=600) (n:=(ll.take ll.length).flatten.length) rfl (hfl _)) rfl ?_
 simp -implicitDefEqProofs only [↓zb,push_cast,simprocAttr,tte]
 refine zo mixed ttok 27 [25,26] [] (by simp only [zC,ends,push_cast,simprocAttr];rfl) (by simp only [zH,zp,ends,push_cast,simprocAttr];rfl) ll.length (fun _=>True) (fun n=>[(6,.vec 600 (ll.take n).flatten.length)]) (fun n=>[(600,.vec 3 1 (zd rI (ll.take n).flatten) 0)]) trivial ?_ ?_
 ·exact Weak.keepL (by simp [cst,ends]) (by simp [cst,zd,ends]) (by simp [cst,ends])
 intro I hI n hn hi
 simp -implicitDefEqProofs only [cst,↓zb,push_cast,simprocAttr,tte]
 refine za (fun h=>?_) fun h=>?_
 ·have h':n<ll.length:=by have:=of_decide_eq_true h;omega
  have hw:=zh h' (by omega)
  have hs:=flat_snoc ll n h'
  have h1:=hfl n
  have h2:=hb _ (zk h')
  have hz:(ll.take n++[ll.getD n default]).flatten.length=(ll.take n).flatten.length+(ll.getD n default).length:=by rw [List.flatten_append,List.length_append];simp
  refine ⟨(by first | omega | trivial | (refine ⟨?_,?_⟩<;>first | omega | trivial | (refine ⟨?_,?_⟩<;>first | omega | trivial | (refine ⟨?_,?_⟩<;>first | omega | trivial | rfl)))),?_⟩
  refine ⟨by omega,?_⟩
  exact zn hI n rfl h' trivial (by simp [hw,hs,hz,zj,ends]) (by simp [hw,hs,hz,zj,ends]) (by simp [hw,hs,hz,zj,ends]) (by simp [hw,hs,hz,zj,ends])
 obtain rfl:n=ll.length:=by have:=of_decide_eq_false h;omega
 rw [List.take_length]
 refine zt [1] rfl (by simp) (by simp [zc]<;>omega) ?_ (by first | rfl | simp [ends] | (subst_vars;simp [ends])) (by simp [ends]) (by simp [ends])
 exact hr
theorem c_cloneI' (l:List Int) (R:A) (hr:ints l=R) (hl:l.length<=1000000):ACall Tryz.prog 100 [ints l] [] R []:=by
 refine zl mixed ttok Tryz.func100 Tryz.ntmps100 Tryz.results100 ?_
 cases l with
 | nil=>
   simp -implicitDefEqProofs only [argT,zV,List.isEmpty_nil,if_true,↓zb,push_cast,simprocAttr,tte]
   refine ⟨?_,?_⟩
   ·refine zt [1] rfl (by simp) (by simp [zc]<;>omega) ?_ (by first | rfl | simp [ends] | (subst_vars;simp [ends])) (by simp [ends]) (by simp [ends])
    exact hr
   ·refine zt [1] rfl (by simp) (by simp [zc]<;>omega) ?_ (by first | rfl | simp [ends] | (subst_vars;simp [ends])) (by simp [ends]) (by simp [ends])
    exact hr
 | cons x l=>
   simp only [List.length_cons] at hl
   simp -implicitDefEqProofs only [argT,zB,List.isEmpty_cons,↓zb,push_cast,simprocAttr,tte]
   refine ⟨by omega,?_⟩
   refine zt [1] rfl (by simp) (by simp [zc]<;>omega) ?_ (by first | rfl | simp [ends] | (subst_vars;simp [ends])) (by simp [ends]) (by simp [ends])
   exact hr
theorem c_cloneI (l:List Int) (hl:l.length<=1000000):ACall Tryz.prog 100 [ints l] [] (ints l) []:=c_cloneI' l _ rfl hl
theorem c_eqI (a b:List Int) (hl:a.length≤1000000) (hm:b.length≤1000000):ACall Tryz.prog 105 [ints a,ints b] [] (boo (a==b)) []:=by
 refine zl mixed ttok Tryz.func105 Tryz.ntmps105 Tryz.results105 ?_
 generalize hr:boo (a==b)=R
 simp -implicitDefEqProofs only [argT,↓zb,push_cast,simprocAttr,tte]
 refine za (fun h0=>?_) fun h0=>?_
 ·have h0': ¬a.length=b.length:=qm h0
  have he:(a==b)=false:=by
   cases hq:a==b with
   | false=>rfl
   | true=>exact absurd (congrArg List.length (beq_iff_eq.1 hq)) h0'
  exact zi trivial (by rw [<-hr,he];rfl) (by simp [ends])
 have h0':a.length=b.length:=u7 h0
 refine zo mixed ttok 13 [0,1,11,12] [] (by simp only [zC,ends,push_cast,simprocAttr];rfl) (by simp only [zH,zp,ends,push_cast,simprocAttr];rfl) a.length (fun n=> ∀i,i<n->a.getD i default=b.getD i default) (fun _=>[]) (fun _=>[]) (fun i h=>absurd h (Nat.not_lt_zero _)) ?_ ?_
 ·exact Weak.keepL (by simp [cst,ends]) (by simp [cst,ends]) (by simp [cst,ends])
 intro I hI n hn hi
 simp -implicitDefEqProofs only [cst,↓zb,push_cast,simprocAttr,tte]
 refine za (fun h=>?_) fun h=>?_
 ·have h':n<a.length:=by have:=of_decide_eq_true h;omega
  have hw:=zh h' (by omega)
  refine ⟨by omega,by omega,zf (by kernel_rfl),?_⟩
  refine za (fun g=>?_) fun g=>?_
  ·have g': ¬a.getD n default=b.getD n default:=by simpa using g
   have he:(a==b)=false:=by
    cases hq:a==b with
    | false=>rfl
    | true=>exact absurd (by rw [beq_iff_eq.1 hq]) g'
   exact zi trivial (by rw [<-hr,he];rfl) (by simp [ends])
  ·have g':a.getD n default=b.getD n default:=by simpa using g
   exact zn hI n rfl h' (fun i h2=>if h3:i=n then by rw [h3];exact g' else hi i (by omega)) (by simp [hw,ends]) (by simp [hw,ends]) (by simp [hw,ends]) (by simp [hw,ends])
 ·obtain rfl:n=a.length:=by have:=of_decide_eq_false h;omega
  have he:a=b:=by
   apply List.ext_getElem h0'
   intro i h1 h2
   have:=hi i h1
   rwa [List.getD_eq_getElem?_getD,List.getD_eq_getElem?_getD,List.getElem?_eq_getElem h1,List.getElem?_eq_getElem h2] at this
  exact zi trivial (by rw [<-hr,he,beq_self_eq_true];rfl) (by simp [ends])
end
section
open Go.Am
attribute [local simp, local push_cast] num boo str ints aV aTab zx aS aT aC yQ wW wu zP zO aAgg
theorem ret_vec2 {p:Prop} {t:List (Nat×A)} {o:List (Nat×Ob)} {n e wd fz:Nat} {y:D} {rows:List (List D)} (a:Nat) (hp:p) (ha:a<1000) (ho:lookO o a=some (.vec e wd rows fz)) (hb:lookO o 1000=none)
 (hin:keepIn (fun _=>false) o):retx (some (p,.tup [.vec a n,.d y])) ⟨t,o⟩ (.tup [.vec 1000 n,.d y]) [(1000,.vec e wd rows fz)]:=by
 refine ⟨hp,?_⟩
 have h1:Weak (SL.mk [(0,.tup [.vec a n,.d y])] o).st (SL.mk [(0,.tup [.vec a n,.d y])] [(a,.vec e wd rows fz)]).st:=by
  refine Weak.keepL ⟨⟨rfl,by simp [A.closed,closedL,inO,lookO]⟩,trivial⟩ ⟨⟨ho,rfl⟩,trivial⟩ ?_
  have key: ∀(l:List (Nat×Ob)),keepIn (fun _=>false) l->keepIn (inO [(a,.vec e wd rows fz)]) l:=by
   intro l
   induction l with
   | nil=>intro _;trivial
   | cons x l ih=>intro hl;obtain ⟨k,v⟩:=x;simp only [keepIn] at hl ⊢;exact ⟨.inl (hl.1.resolve_right (by simp)),ih hl.2⟩
  exact key o hin
 have h2:=Weak.ren (t:=[(0,.tup [.vec a n,.d y])]) (o:=[(a,.vec e wd rows fz)]) a 1000 (by omega) ha (by simp only [lookO];rw [if_neg (by omega)])
 simp only [renT,renO,A.ren,renL,Ob.ren,zQ,if_true] at h2
 exact h1.trans h2
theorem listM_two {α:Type} [Inhabited α] (f:α->Int×Int) (l:List α) (h:(wo f l).2=0): ∀i,i<l.length->(f (l.getD i default)).2=0:=by
 intro i hi
 have h0:ferr (fun e=>(f e).2) l=0:=by
  unfold wo at h
  split at h
  ·assumption
  ·exact h
 clear h
 induction l generalizing i with
 | nil=>simp at hi
 | cons x l ih=>
   have hx:(f x).2=0:=by
    simp only [ferr] at h0
    split at h0
    ·assumption
    ·exact h0
   cases i with
   | zero=>simpa using hx
   | succ i=>
     have:=ih i (by simpa using hi) (by simpa only [ferr,hx,if_true] using h0)
     simpa using this
theorem c_colsV (ts:List Int) (l:List Ex) (hts:ts.length<=1000000) (hl:l.length<=1000) (ho: ∀e∈l,Ok12 e) (h0:(wL ts l).2=0):
 ACall Tryz.prog 102 [ints ts,.d (.sl 6 (zd rE l))] [] (.tup [.vec 1000 l.length,num 0]) [(1000,.vec 3 1 (zd rI (l.map fun e=>(zW (ownM ts) e).1)) 0)]:=by
 have hall:=listM_two _ l h0
 refine zl mixed ttok Tryz.func102 Tryz.ntmps102 Tryz.results102 ?_
 simp -implicitDefEqProofs only [argT,↓zb,push_cast,simprocAttr,tte]
 refine zo mixed ttok 13 [0,11,12] [] (by simp only [zC,ends,push_cast,simprocAttr];rfl) (by simp only [zH,zp,ends,push_cast,simprocAttr];rfl) l.length (fun _=>True) (fun n=>[(6,.vec 500 n)]) (fun n=>[(500,.vec 3 1 (zd rI ((l.take n).map fun e=>(zW (ownM ts) e).1)) 0)]) trivial ?_ ?_
 ·exact (Weak.nilL 6 500 3 1 rfl rfl).trans (Weak.keepL (by simp [cst,ends]) (by simp [cst,ends]) (by simp [cst,ends]))
 intro I hI n hn hi
 have hl2:((l.take n).map fun e=>(zW (ownM ts) e).1).length=n:=by rw [List.length_map,List.length_take];omega
 simp -implicitDefEqProofs only [cst,↓zb,push_cast,simprocAttr,tte]
 refine za (fun h=>?_) fun h=>?_
 ·have h':n<l.length:=by have:=of_decide_eq_true h;omega
  have hw:=zh h' (by omega)
  have hs:=jq (fun e=>(zW (ownM ts) e).1) l n h'
  refine ⟨(by first | omega | trivial | (refine ⟨?_,?_⟩<;>first | omega | trivial | (refine ⟨?_,?_⟩<;>first | omega | trivial | (refine ⟨?_,?_⟩<;>first | omega | trivial | rfl)))),?_⟩
  refine ze [[1],[0,0,0,0,0,6]] [] (c_type ts (by omega) _ (ho _ (zk h'))) ?_
  simp -implicitDefEqProofs only [zO,↓zb,push_cast,simprocAttr,tte]
  refine za (fun g=>absurd (hall n h') (by simpa using g)) (fun _=>?_)
  refine ⟨⟨hl2.symm,by rw [hl2];omega⟩,?_⟩
  exact zn hI n rfl h' trivial (by simp [hw,hs,hl2,Nat.min_eq_left hn,zj,ends]) (by simp [hw,hs,hl2,Nat.min_eq_left hn,zj,ends]) (by simp [hw,hs,hl2,Nat.min_eq_left hn,zj,ends]) (by simp [hw,hs,hl2,Nat.min_eq_left hn,zj,ends])
 obtain rfl:n=l.length:=by have:=of_decide_eq_false h;omega
 rw [List.take_length]
 exact ret_vec2 500 trivial (by omega) rfl rfl (by simp [ends])
def jf (ts:List Int) (q:Qr):List Int×Int:=
 if q.exprs.length+q.aggs.length<1\/q.exprs.length+q.aggs.length>24 then ([],9)
 else if (wL ts q.exprs).2≠0 then ([],(wL ts q.exprs).2)
 else if (wo (vi ts) q.aggs).2≠0 then ([],(wo (vi ts) q.aggs).2)
 else ((wL ts q.exprs).1++(wo (vi ts) q.aggs).1,0)
theorem c_group (ts:List Int) (q:Qr) (hts:ts.length≤1000000) (hq:OkQ1 q):ACall Tryz.prog 104 [ints ts,aQ q] [] (zP (jf ts q)) []:=by
 have hel:=hq.exprs
 have hal:=hq.aggs
 rw [x4]
 refine zl mixed ttok Tryz.func104 Tryz.ntmps104 Tryz.results104 ?_
 generalize hr:zP (jf ts q)=R
 have hwr:IntKind.i64.wrap ((q.exprs.length:Nat)+(q.aggs.length:Nat):Int)=((q.exprs.length+q.aggs.length:Nat):Int):=by rw [zm (by omega) (by omega)];omega
 unfold jf at hr
 simp -implicitDefEqProofs only [argT,↓zb,push_cast,simprocAttr,tte]
 rw [hwr]
 have hM:(wo (vi ts) q.aggs).1.length<=q.aggs.length:=by
  unfold wo;split
  ·simp
  ·simp
 refine za (fun k1=>?_) fun k1=>?_
 ·have k1':q.exprs.length+q.aggs.length<1:=by have:=of_decide_eq_true k1;omega
  rw [<-hr,if_pos (.inl k1'),zP]
  refine zv [[1],[0]] rfl (by simp) (by simp [zc]<;>omega) ?_ (by first | rfl | simp [ends] | (subst_vars;simp [ends])) (by simp [ends]) (by simp [ends])
  rfl
 have k1': ¬q.exprs.length+q.aggs.length<1:=by have:=of_decide_eq_false k1;omega
 refine za (fun k2=>?_) fun k2=>?_
 ·have k2':q.exprs.length+q.aggs.length>24:=by have:=of_decide_eq_true k2;omega
  rw [<-hr,if_pos (.inr k2'),zP]
  refine zv [[1],[0]] rfl (by simp) (by simp [zc]<;>omega) ?_ (by first | rfl | simp [ends] | (subst_vars;simp [ends])) (by simp [ends]) (by simp [ends])
  rfl
 have k2': ¬q.exprs.length+q.aggs.length>24:=by have:=of_decide_eq_false k2;omega
 rw [if_neg (fun h=>h.elim k1' k2')] at hr
 by_cases hc0:(wL ts q.exprs).2=0
 ·rw [if_neg (fun h=>h hc0)] at hr
  have hcv:(wL ts q.exprs).1=q.exprs.map fun e=>(zW (ownM ts) e).1:=by
   rw [wL,qp _ _ (listM_two _ _ hc0)]
  rw [hcv] at hr
  refine ze [[1],[6]] [(1000,700)] (c_colsV ts q.exprs hts hel hq.ex hc0) ?_
  simp -implicitDefEqProofs only [↓zb,push_cast,simprocAttr,tte]
  refine zo mixed ttok 39 [0,37,38] [] (by simp only [zC,ends,push_cast,simprocAttr];rfl) (by simp only [zH,zp,ends,push_cast,simprocAttr];rfl) q.aggs.length (fun n=> ∀i,i<n->(vi ts (q.aggs.getD i default)).2=0) (fun n=>[(7,.vec 700 (q.exprs.length+n))]) (fun n=>[(700,.vec 3 1 (zd rI ((q.exprs.map fun e=>(zW (ownM ts) e).1)++(q.aggs.take n).map fun e=>(vi ts e).1)) 0)]) (fun i h=>absurd h (Nat.not_lt_zero _)) ?_ ?_
  ·exact Weak.keepL (by simp [cst,ends]) (by simp [cst,ends]) (by simp [cst,ends])
  intro I hI n hn hi
  have hl2:((q.exprs.map fun e=>(zW (ownM ts) e).1)++(q.aggs.take n).map fun e=>(vi ts e).1).length=q.exprs.length+n:=by rw [List.length_append,List.length_map,List.length_map,List.length_take];omega
  simp -implicitDefEqProofs only [cst,↓zb,push_cast,simprocAttr,tte]
  refine za (fun h=>?_) fun h=>?_
  ·have h':n<q.aggs.length:=by have:=of_decide_eq_true h;omega
   have hw:=zh h' (by omega)
   have hs:=jq (fun e=>(vi ts e).1) q.aggs n h'
   refine ⟨(by first | omega | trivial | (refine ⟨?_,?_⟩<;>first | omega | trivial | (refine ⟨?_,?_⟩<;>first | omega | trivial | (refine ⟨?_,?_⟩<;>first | omega | trivial | rfl)))),?_⟩
   have hca:=c_aggT ts (q.aggs.getD n default) hts (hq.ag _ (zk h'))
   simp only [aAgg] at hca
   refine ze [[1],[0,0,0,0,0,0,6]] [] (hca) ?_
   simp -implicitDefEqProofs only [zO,↓zb,push_cast,simprocAttr,tte]
   refine za (fun g=>?_) fun g=>?_
   ·have g':(vi ts (q.aggs.getD n default)).2≠0:=by simpa using g
    have hb:=listM_bad (vi ts) q.aggs n h' hi g'
    rw [<-hr,hb,if_pos g',zP]
    refine zv [[1],[0]] rfl (by simp) (by simp [zc]<;>omega) ?_ (by first | rfl | simp [ends] | (subst_vars;simp [ends])) (by simp [ends]) (by simp [ends])
    rfl
   ·have g':(vi ts (q.aggs.getD n default)).2=0:=by simpa using g
    refine ⟨⟨hl2.symm,by rw [hl2];omega⟩,?_⟩
    exact zn hI n rfl h' (fun i h2=>if h3:i=n then by rw [h3];exact g' else hi i (by omega)) (by simp [hw,hs,hl2,Nat.min_eq_left hn,zj,Nat.add_assoc,List.append_assoc,ends]) (by simp [hw,hs,hl2,Nat.min_eq_left hn,zj,Nat.add_assoc,List.append_assoc,ends]) (by simp [hw,hs,hl2,Nat.min_eq_left hn,zj,Nat.add_assoc,List.append_assoc,ends]) (by simp [hw,hs,hl2,Nat.min_eq_left hn,zj,Nat.add_assoc,List.append_assoc,ends])
  ·obtain rfl:n=q.aggs.length:=by have:=of_decide_eq_false h;omega
   have hg:=qp (vi ts) q.aggs hi
   rw [hg] at hr
   rw [<-hr,if_neg (fun h=>h rfl),List.take_length,zP]
   refine zv [[1],[0]] rfl (by simp) (by simp [zc]<;>omega) ?_ (by first | rfl | simp [ends] | (subst_vars;simp [ends])) (by simp [ends]) (by simp [ends])
   rfl
 ·have hb:wL ts q.exprs=([],(wL ts q.exprs).2):=by
   unfold wL wo at hc0 ⊢
   split
   ·rename_i h;rw [if_pos h] at hc0;exact absurd rfl hc0
   ·rfl
  refine ze [[1],[6]] [] (c_cols ts q.exprs hts hel hq.ex) ?_
  simp -implicitDefEqProofs only [zP,↓zb,push_cast,simprocAttr,tte]
  refine za (fun _=>?_) (fun h=>absurd (by simpa using h) hc0)
  rw [<-hr,if_pos hc0,zP]
  refine zv [[1],[0]] rfl (by simp) (by simp [zc]<;>omega) ?_ (by first | rfl | simp [ends] | (subst_vars;simp [ends])) (by simp [ends]) (by simp [ends])
  rfl
def joinM (a b:List Int) (q:Qr):List Int×Int:=
 if q.kind<1\/q.kind>6 then ([],1)
 else if (a++b).length>24 then ([],9)
 else if uE (a++b) q.cond≠0 then ([],uE (a++b) q.cond)
 else if q.kind=5\/q.kind=6 then (a,0) else (a++b,0)
theorem c_join (a b:List Int) (q:Qr) (ha:a.length<=1000) (hb:b.length<=1000) (hq:OkQ1 q):ACall Tryz.prog 103 [ints a,ints b,aQ q] [] (zP (joinM a b q)) []:=by
 have hcc:=c_concat [a,b] (by simp) (by intro l hl;simp at hl;rcases hl with rfl | rfl<;>assumption)
 have hfl:[a,b].flatten=a++b:=by simp
 rw [hfl] at hcc
 simp only [zB,rIs] at hcc
 rw [x4]
 refine zl mixed ttok Tryz.func103 Tryz.ntmps103 Tryz.results103 ?_
 generalize hr:zP (joinM a b q)=R
 unfold joinM at hr
 simp -implicitDefEqProofs only [argT,↓zb,push_cast,simprocAttr,tte]
 refine ze [[1]] [] (hcc) ?_
 simp -implicitDefEqProofs only [↓zb,push_cast,simprocAttr,tte]
 refine za (fun k1=>?_) fun k1=>?_
 ·rw [←hr,if_pos (.inl (of_decide_eq_true k1)),zP]
  refine zv [[1],[0]] rfl (by simp) (by simp [zc]<;>omega) ?_ (by first | rfl | simp [ends] | (subst_vars;simp [ends])) (by simp [ends]) (by simp [ends])
  rfl
 refine za (fun k2=>?_) fun k2=>?_
 ·rw [←hr,if_pos (.inr (of_decide_eq_true k2)),zP]
  refine zv [[1],[0]] rfl (by simp) (by simp [zc]<;>omega) ?_ (by first | rfl | simp [ends] | (subst_vars;simp [ends])) (by simp [ends]) (by simp [ends])
  rfl
 rw [if_neg (fun h=>h.elim (of_decide_eq_false k1) (of_decide_eq_false k2))] at hr
 refine za (fun k3=>?_) fun k3=>?_
 ·have k3':(a++b).length>24:=by have:=of_decide_eq_true k3;omega
  rw [<-hr,if_pos k3',zP]
  refine zv [[1],[0]] rfl (by simp) (by simp [zc]<;>omega) ?_ (by first | rfl | simp [ends] | (subst_vars;simp [ends])) (by simp [ends]) (by simp [ends])
  rfl
 have k3': ¬(a++b).length>24:=by have:=of_decide_eq_false k3;omega
 rw [if_neg k3'] at hr
 have hcd:=c_cond (a++b) q.cond (by omega) hq.cond
 rw [wP] at hcd
 refine ze [[1],[0,0,0,0,0,6]] [] (hcd) ?_
 simp -implicitDefEqProofs only [↓zb,push_cast,simprocAttr,tte]
 refine za (fun k4=>?_) fun k4=>?_
 ·have k4':uE (a++b) q.cond≠0:=by simpa using k4
  rw [<-hr,if_pos k4',zP]
  refine zv [[1],[0]] rfl (by simp) (by simp [zc]<;>omega) ?_ (by first | rfl | simp [ends] | (subst_vars;simp [ends])) (by simp [ends]) (by simp [ends])
  rfl
 have k4': ¬uE (a++b) q.cond≠0:=by simpa using k4
 rw [if_neg k4'] at hr
 refine za (fun k5=>?_) fun k5=>?_
 ·have k5':q.kind=5:=by simpa using k5
  rw [<-hr,if_pos (.inl k5'),zP]
  refine zv [[1],[0]] rfl (by simp) (by simp [zc]<;>omega) ?_ (by first | rfl | simp [ends] | (subst_vars;simp [ends])) (by simp [ends]) (by simp [ends])
  rfl
 have k5': ¬q.kind=5:=by simpa using k5
 refine za (fun k6=>?_) fun k6=>?_
 ·have k6':q.kind=6:=by simpa using k6
  rw [<-hr,if_pos (.inr k6'),zP]
  refine zv [[1],[0]] rfl (by simp) (by simp [zc]<;>omega) ?_ (by first | rfl | simp [ends] | (subst_vars;simp [ends])) (by simp [ends]) (by simp [ends])
  rfl
 have k6': ¬q.kind=6:=by simpa using k6
 rw [<-hr,if_neg (fun h=>h.elim k5' k6'),zP]
 refine zv [[1],[0]] rfl (by simp) (by simp [zc]<;>omega) ?_ (by first | rfl | simp [ends] | (subst_vars;simp [ends])) (by simp [ends]) (by simp [ends])
 rfl
end
section
open Go.Am
attribute [local simp, local push_cast] num boo str ints aV aTab zx aS aT aC yQ wW wu zP zO aAgg aFm zY
def ownQ (s:Sch) (q:Qr) (ks:List (List Int)):List Int×Int:=
 if isFm q.op=false\/vX q (yZ q.op)=false then ([],1)
 else if (ks.length:Int)≠(yZ q.op).kids then ([],9)
 else if q.op=1 then (if byT s q.table≥0 then (zL (s.getD (byT s q.table).toNat default),0) else ([],11))
 else if q.op=2 then (if wQ q≠0 then ([],wQ q) else (q.types,0))
 else if q.op=3 then (if uE (ks.getD 0 default) q.cond≠0 then ([],uE (ks.getD 0 default) q.cond) else (ks.getD 0 default,0))
 else if q.op=4 then (if q.exprs.length=0\/q.exprs.length>24 then ([],9) else wL (ks.getD 0 default) q.exprs)
 else if q.op=5 then joinM (ks.getD 0 default) (ks.getD 1 default) q
 else if q.op=10 then jf (ks.getD 0 default) q
 else if q.op=6\/q.op=7\/q.op=8 then (if (ks.getD 0 default==ks.getD 1 default)=true then (ks.getD 0 default,0) else ([],4))
 else (ks.getD 0 default,0)
def q9 (s:Sch) (q:Qr) (rs:List (List Int×Int)):List Int×Int:=if ferr Prod.snd rs=0 then ownQ s q (rs.map Prod.fst) else ([],ferr Prod.snd rs)
mutual
def typQ (s:Sch):Qr->List Int×Int
 | .mk a b c d e f g h i ks=>q9 s (.mk a b c d e f g h i ks) (typQs s ks)
def typQs (s:Sch):List Qr->List (List Int×Int)
 | []=>[]
 | q::l=>typQ s q::typQs s l
end
theorem typQs_eq (s:Sch): ∀l,typQs s l=l.map (typQ s)
 | []=>rfl
 | q::l=>by rw [typQs,typQs_eq s l];rfl
theorem kI (s:Sch) (q:Qr):typQ s q=q9 s q (q.kids.map (typQ s)):=by cases q;rw [typQ,typQs_eq];rfl
theorem listM_len {α:Type} (f:α->Int×Int) (l:List α):(wo f l).1.length<=l.length:=by
 unfold wo;split<;>simp
theorem ownQ_len {s:Sch} {q:Qr} {ks:List (List Int)} (hs:SmallS s) (hq:OkQ1 q) (hk: ∀l∈ks,l.length<=1000):(ownQ s q ks).1.length<=1000:=by
 have hg: ∀i,(ks.getD i default).length<=1000:=fun i=>by
  by_cases h:i<ks.length
  ·exact hk _ (zk h)
  ·rw [List.getD_eq_getElem?_getD,List.getElem?_eq_none (by omega)];exact Nat.zero_le _
 have h0:=hg 0
 have htl:=hq.types
 have hel:=hq.exprs
 unfold ownQ
 split
 ·exact Nat.zero_le _
 split
 ·exact Nat.zero_le _
 split
 ·split
  ·rename_i hb
   have h1:=wh (fun t:Tbl=>t.name.toList==q.table.toList) s
   have hm:=zk (l:=s) (n:=(byT s q.table).toNat) (by unfold byT at hb ⊢;omega)
   have:=(hs.tab _ hm).cols
   simpa [zL] using this
  ·exact Nat.zero_le _
 split
 ·split
  ·exact Nat.zero_le _
  ·exact htl
 split
 ·split
  ·exact Nat.zero_le _
  ·exact h0
 split
 ·split
  ·exact Nat.zero_le _
  ·exact Nat.le_trans (listM_len _ _) hel
 split
 ·unfold joinM
  split
  ·exact Nat.zero_le _
  split
  ·exact Nat.zero_le _
  rename_i h24
  split
  ·exact Nat.zero_le _
  split
  ·exact h0
  ·simp only;omega
 split
 ·unfold jf
  split
  ·exact Nat.zero_le _
  split
  ·exact Nat.zero_le _
  split
  ·exact Nat.zero_le _
  rename_i h24 _ _
  have h1:=listM_len (zW (ownM (ks.getD 0 default))) q.exprs
  have h2:=listM_len (vi (ks.getD 0 default)) q.aggs
  simp only [List.length_append,wL]
  omega
 split
 ·split
  ·exact h0
  ·exact Nat.zero_le _
 ·exact h0
theorem typQ_len {s:Sch} (hs:SmallS s): ∀q:Qr,OkQ q->(typQ s q).1.length<=1000:=
 q_ind (p:=fun q=>OkQ q->(typQ s q).1.length<=1000) fun q ih ho=>by
 rw [kI,q9]
 split
 ·refine ownQ_len hs ho.one fun l hl=>?_
  simp only [List.map_map,List.mem_map] at hl
  obtain ⟨k,hk,rfl⟩:=hl
  exact ih k hk (ho.kid hk)
 ·exact Nat.zero_le _
theorem formM_uses (op:Int):(yZ op).uses.size<=1000:=by
 unfold yZ
 split
 ·rename_i h
  simp only [isFm,Bool.and_eq_true,decide_eq_true_eq] at h
  have key:(List.range 11).all (fun n=>decide ((fmTab.getD n default).uses.size<=1000))=true:=by decide
  have:=all_range.1 key op.toNat (by omega)
  simpa [fmAt] using this
 ·exact Nat.zero_le _
def kidT (s:Sch) (q:Qr) (n:Nat):List (List Int):=(q.kids.take n).map fun k=>(typQ s k).1
theorem c_typQ (s:Sch) (hs:SmallS s): ∀q:Qr,OkQ q->ACall Tryz.prog 58 [aS s,aQ q] [] (zP (typQ s q)) []:=
 q_ind (p:=fun q=>OkQ q->ACall Tryz.prog 58 [aS s,aQ q] [] (zP (typQ s q)) []) fun q ih ho=>by
 have hq:=ho.one
 have hkl:=hq.kids
 have hsl:=hs.len
 rw [x4]
 refine zl mixed ttok Tryz.func58 Tryz.ntmps58 Tryz.results58 ?_
 generalize hr:zP (typQ s q)=R
 simp -implicitDefEqProofs only [argT,↓zb,push_cast,simprocAttr,tte]
 refine zo mixed ttok 20 [2,3,18,19] [2,3] (by simp only [zC,ends,push_cast,simprocAttr];rfl) (by simp only [zH,zp,ends,push_cast,simprocAttr];rfl) q.kids.length (fun n=> ∀i,i<n->(typQ s (q.kids.getD i default)).2=0) (fun n=>[(6,.vec 500 n)]) (fun n=>[(500,.vec 22 1 (zd rIs (kidT s q n)) 0)]) (fun i h=>absurd h (Nat.not_lt_zero _)) ?_ ?_
 ·exact (Weak.nilL 6 500 22 1 rfl rfl).trans (Weak.keepL (by simp [cst,ends]) (by simp [cst,kidT,zd,ends]) (by simp [cst,ends]))
 intro I hI n hn hi
 have hl2:(kidT s q n).length=n:=by rw [kidT,List.length_map,List.length_take];omega
 simp -implicitDefEqProofs only [cst,↓zb,push_cast,simprocAttr,tte]
 refine za (fun h=>?_) fun h=>?_
 ·have h':n<q.kids.length:=by have:=of_decide_eq_true h;omega
  have hw:=zh h' (by omega)
  have hst:=jq (fun k=>(typQ s k).1) q.kids n h'
  have hc:=ih _ (zk h') (ho.kid (zk h'))
  rw [x4] at hc
  refine ⟨(by first | omega | trivial | (refine ⟨?_,?_⟩<;>first | omega | trivial | (refine ⟨?_,?_⟩<;>first | omega | trivial | (refine ⟨?_,?_⟩<;>first | omega | trivial | rfl)))),?_⟩
  refine ze [[6],[0,0,0,0,0,0,0,0,0,6,6,7,1,1,15]] [] (hc) ?_
  simp -implicitDefEqProofs only [zP,↓zb,push_cast,simprocAttr,tte]
  refine za (fun g=>?_) fun g=>?_
  ·have g':(typQ s (q.kids.getD n default)).2≠0:=by simpa using g
   have hf:ferr Prod.snd (q.kids.map (typQ s))=(typQ s (q.kids.getD n default)).2:=by rw [vJ];exact xA _ _ n h' hi g'
   have hE:typQ s q=([],(typQ s (q.kids.getD n default)).2):=by rw [kI s q,q9,hf,if_neg g']
   rw [<-hr,hE,zP]
   refine zv [[1],[0]] rfl (by simp) (by simp [zc]<;>omega) ?_ (by first | rfl | simp [ends] | (subst_vars;simp [ends])) (by simp [ends]) (by simp [ends])
   rfl
  ·have g':(typQ s (q.kids.getD n default)).2=0:=by simpa using g
   have hk2:kidT s q (n+1)=kidT s q n++[(typQ s (q.kids.getD n default)).1]:=hst
   refine ⟨⟨hl2.symm,by rw [hl2];omega⟩,?_⟩
   exact zn hI n rfl h' (fun i h2=>if h3:i=n then by rw [h3];exact g' else hi i (by omega)) (by simp [hw,hk2,hl2,zj,ends]) (by simp [hw,hk2,hl2,zj,ends]) (by simp [hw,hk2,hl2,zj,ends]) (by simp [hw,hk2,hl2,zj,ends])
 obtain rfl:n=q.kids.length:=by have:=of_decide_eq_false h;omega
 clear hI
 have hf:ferr Prod.snd (q.kids.map (typQ s))=0:=by rw [vJ];exact yA _ _ hi
 have hT:kidT s q q.kids.length=(q.kids.map (typQ s)).map Prod.fst:=by rw [kidT,List.take_length,List.map_map];rfl
 have hM:typQ s q=ownQ s q (kidT s q q.kids.length):=by rw [kI s q,q9,if_pos hf,hT]
 have hks: ∀l∈kidT s q q.kids.length,l.length<=1000:=fun l hl=>by
  simp only [kidT,List.take_length,List.mem_map] at hl
  obtain ⟨k,hk,rfl⟩:=hl
  exact typQ_len hs k (ho.kid hk)
 rw [hM] at hr
 clear hM hT hf hi
 generalize kidT s q q.kids.length=ks at hr hks hl2 ⊢
 have hg: ∀i,(ks.getD i default).length<=1000:=fun i=>by
  by_cases h:i<ks.length
  ·exact hks _ (zk h)
  ·rw [List.getD_eq_getElem?_getD,List.getElem?_eq_none (by omega)];exact Nat.zero_le _
 rw [<-hl2]
 refine ze [[0]] [] (c_form q.op) ?_
 simp -implicitDefEqProofs only [aFm,↓zb,push_cast,simprocAttr,tte]
 unfold ownQ at hr
 refine za (fun k1=>?_) fun k1=>?_
 ·have k1':isFm q.op=false:=by simpa using k1
  rw [<-hr,if_pos (.inl k1'),zP]
  refine zv [[1],[0]] rfl (by simp) (by simp [zc]<;>omega) ?_ (by first | rfl | simp [ends] | (subst_vars;simp [ends])) (by simp [ends]) (by simp [ends])
  rfl
 have k1':isFm q.op=true:=by simpa using k1
 have hcl:=c_qclean q (yZ q.op) hq (formM_uses q.op)
 rw [x4] at hcl
 simp only [aFm] at hcl
 refine ze [[0,0,0,0,0,0,0,0,0,6,6,7,1,1,15],[0,0,0]] [] (hcl) ?_
 simp -implicitDefEqProofs only [↓zb,push_cast,simprocAttr,tte]
 refine za (fun k2=>?_) fun k2=>?_
 ·have k2':vX q (yZ q.op)=false:=by simpa using k2
  rw [<-hr,if_pos (.inr k2'),zP]
  refine zv [[1],[0]] rfl (by simp) (by simp [zc]<;>omega) ?_ (by first | rfl | simp [ends] | (subst_vars;simp [ends])) (by simp [ends]) (by simp [ends])
  rfl
 have k2': ¬(isFm q.op=false\/vX q (yZ q.op)=false):=by
  have:vX q (yZ q.op)=true:=by simpa using k2
  rw [k1',this];simp
 rw [if_neg k2'] at hr
 refine za (fun k3=>?_) fun k3=>?_
 ·have k3':(ks.length:Int)≠(yZ q.op).kids:=by simpa using k3
  rw [<-hr,if_pos k3',zP]
  refine zv [[1],[0]] rfl (by simp) (by simp [zc]<;>omega) ?_ (by first | rfl | simp [ends] | (subst_vars;simp [ends])) (by simp [ends]) (by simp [ends])
  rfl
 have k3': ¬(ks.length:Int)≠(yZ q.op).kids:=by simpa using k3
 rw [if_neg k3'] at hr
 have k3'':(ks.length:Int)=(yZ q.op).kids:=by simpa using k3
 refine za (fun o1=>?_) fun o1=>?_
 ·have o1':q.op=1:=by simpa using o1
  have hkn:(yZ q.op).kids=0:=by rw [o1'];rfl
  rw [if_pos o1'] at hr
  refine ze [[6],[0]] [] (c_find s q.table (by omega)) ?_
  have hlt:=wh (fun t:Tbl=>t.name.toList==q.table.toList) s
  have hbd:byT s q.table=fidx (fun t:Tbl=>t.name.toList==q.table.toList) s:=rfl
  rw [<-hbd] at hlt
  generalize byT s q.table=b at hr hlt ⊢
  by_cases hb:b≥0
  ·have hb2:(if 0>b then (0:Int) else b)=b:=if_neg (by omega)
   have hb3:decide (b≥0)=true:=decide_eq_true hb
   rw [if_pos hb] at hr
   simp -implicitDefEqProofs only [zY,hb2,hb3,↓zb,push_cast,simprocAttr,tte]
   refine ⟨⟨hb,by omega⟩,?_⟩
   have hm:=zk (l:=s) (n:=b.toNat) (by omega)
   have hct:=c_types (s.getD b.toNat default) (by have:=(hs.tab _ hm).cols;omega)
   simp only [aT] at hct
   refine ze [[0,3,1,1,2,6]] [] (hct) ?_
   simp -implicitDefEqProofs only [↓zb,push_cast,simprocAttr,tte]
   rw [<-hr,zP]
   refine zv [[1],[0]] rfl (by simp) (by simp [zc]<;>omega) ?_ (by first | rfl | simp [ends] | (subst_vars;simp [ends])) (by simp [ends]) (by simp [ends])
   rfl
  ·have hb3:decide (b≥0)=false:=decide_eq_false hb
   rw [if_neg hb] at hr
   simp -implicitDefEqProofs only [zY,hb3,↓zb,push_cast,simprocAttr,tte]
   rw [<-hr,zP]
   refine zv [[1],[0]] rfl (by simp) (by simp [zc]<;>omega) ?_ (by first | rfl | simp [ends] | (subst_vars;simp [ends])) (by simp [ends]) (by simp [ends])
   rfl
 have o1': ¬q.op=1:=by simpa using o1
 rw [if_neg o1'] at hr
 refine za (fun o2=>?_) fun o2=>?_
 ·have o2':q.op=2:=by simpa using o2
  have hkn:(yZ q.op).kids=0:=by rw [o2'];rfl
  rw [if_pos o2'] at hr
  have hv:=c_values q hq
  rw [x4] at hv
  refine ze [[0,0,0,0,0,0,0,0,0,6,6,7,1,1,15]] [] (hv) ?_
  simp -implicitDefEqProofs only [↓zb,push_cast,simprocAttr,tte]
  refine za (fun g=>?_) fun g=>?_
  ·have g':wQ q≠0:=by simpa using g
   rw [<-hr,if_pos g',zP]
   refine zv [[1],[0]] rfl (by simp) (by simp [zc]<;>omega) ?_ (by first | rfl | simp [ends] | (subst_vars;simp [ends])) (by simp [ends]) (by simp [ends])
   rfl
  ·have g': ¬wQ q≠0:=by simpa using g
   rw [if_neg g'] at hr
   refine ze [[1]] [] (c_cloneI q.types (by have:=hq.types;omega)) ?_
   simp -implicitDefEqProofs only [↓zb,push_cast,simprocAttr,tte]
   rw [<-hr,zP]
   refine zv [[1],[0]] rfl (by simp) (by simp [zc]<;>omega) ?_ (by first | rfl | simp [ends] | (subst_vars;simp [ends])) (by simp [ends]) (by simp [ends])
   rfl
 have o2': ¬q.op=2:=by simpa using o2
 rw [if_neg o2'] at hr
 refine za (fun o3=>?_) fun o3=>?_
 ·have o3':q.op=3:=by simpa using o3
  have hkn:(yZ q.op).kids=1:=by rw [o3'];rfl
  rw [if_pos o3'] at hr
  have hk1:ks.length=1:=by omega
  have hcd:=c_cond (ks.getD 0 default) q.cond (Nat.le_trans (hg 0) (by omega)) hq.cond
  rw [wP] at hcd
  refine ⟨by omega,by omega,?_⟩
  refine ze [[1],[0,0,0,0,0,6]] [] (hcd) ?_
  simp -implicitDefEqProofs only [↓zb,push_cast,simprocAttr,tte]
  refine ⟨zf (by kernel_rfl),?_⟩
  refine za (fun g=>?_) fun g=>?_
  ·have g':uE (ks.getD 0 default) q.cond≠0:=by simpa using g
   rw [<-hr,if_pos g',zP]
   refine zv [[1],[0]] rfl (by simp) (by simp [zc]<;>omega) ?_ (by first | rfl | simp [ends] | (subst_vars;simp [ends])) (by simp [ends]) (by simp [ends])
   rfl
  ·have g': ¬uE (ks.getD 0 default) q.cond≠0:=by simpa using g
   rw [if_neg g'] at hr
   refine ⟨by omega,by omega,?_⟩
   rw [<-hr,zP]
   refine zv [[1],[0]] rfl (by simp) (by simp [zc]<;>omega) ?_ (by first | rfl | simp [ends] | (subst_vars;simp [ends])) (by simp [ends]) (by simp [ends])
   rfl
 have o3': ¬q.op=3:=by simpa using o3
 rw [if_neg o3'] at hr
 refine za (fun o4=>?_) fun o4=>?_
 ·have o4':q.op=4:=by simpa using o4
  have hkn:(yZ q.op).kids=1:=by rw [o4'];rfl
  rw [if_pos o4'] at hr
  have hk1:ks.length=1:=by omega
  have hel:=hq.exprs
  refine za (fun g1=>?_) fun g1=>?_
  ·have g1':q.exprs.length=0:=by simpa using g1
   rw [<-hr,if_pos (.inl g1'),zP]
   refine zv [[1],[0]] rfl (by simp) (by simp [zc]<;>omega) ?_ (by first | rfl | simp [ends] | (subst_vars;simp [ends])) (by simp [ends]) (by simp [ends])
   rfl
  have g1': ¬q.exprs.length=0:=by simpa using g1
  refine za (fun g2=>?_) fun g2=>?_
  ·have g2':q.exprs.length>24:=by have:=of_decide_eq_true g2;omega
   rw [<-hr,if_pos (.inr g2'),zP]
   refine zv [[1],[0]] rfl (by simp) (by simp [zc]<;>omega) ?_ (by first | rfl | simp [ends] | (subst_vars;simp [ends])) (by simp [ends]) (by simp [ends])
   rfl
  have g2': ¬q.exprs.length>24:=by have:=of_decide_eq_false g2;omega
  rw [if_neg (fun h=>h.elim g1' g2')] at hr
  refine ⟨by omega,by omega,?_⟩
  refine ze [[1],[6]] [] (c_cols (ks.getD 0 default) q.exprs (Nat.le_trans (hg 0) (by omega)) hel hq.ex) ?_
  simp -implicitDefEqProofs only [zP,↓zb,push_cast,simprocAttr,tte]
  refine ⟨zf (by kernel_rfl),?_⟩
  rw [<-hr,zP]
  refine zv [[1],[0]] rfl (by simp) (by simp [zc]<;>omega) ?_ (by first | rfl | simp [ends] | (subst_vars;simp [ends])) (by simp [ends]) (by simp [ends])
  rfl
 have o4': ¬q.op=4:=by simpa using o4
 rw [if_neg o4'] at hr
 refine za (fun o5=>?_) fun o5=>?_
 ·have o5':q.op=5:=by simpa using o5
  have hkn:(yZ q.op).kids=2:=by rw [o5'];rfl
  rw [if_pos o5'] at hr
  have hk1:ks.length=2:=by omega
  refine ⟨by omega,by omega,by omega,by omega,?_⟩
  have hj:=c_join (ks.getD 0 default) (ks.getD 1 default) q (hg 0) (hg 1) hq
  rw [x4] at hj
  refine ze [[1],[1],[0,0,0,0,0,0,0,0,0,6,6,7,1,1,15]] [] (hj) ?_
  simp -implicitDefEqProofs only [zP,↓zb,push_cast,simprocAttr,tte]
  refine ⟨zf (by kernel_rfl),?_⟩
  rw [<-hr,zP]
  refine zv [[1],[0]] rfl (by simp) (by simp [zc]<;>omega) ?_ (by first | rfl | simp [ends] | (subst_vars;simp [ends])) (by simp [ends]) (by simp [ends])
  rfl
 have o5': ¬q.op=5:=by simpa using o5
 rw [if_neg o5'] at hr
 refine za (fun o10=>?_) fun o10=>?_
 ·have o10':q.op=10:=by simpa using o10
  have hkn:(yZ q.op).kids=1:=by rw [o10'];rfl
  rw [if_pos o10'] at hr
  have hk1:ks.length=1:=by omega
  refine ⟨by omega,by omega,?_⟩
  have hj:=c_group (ks.getD 0 default) q (Nat.le_trans (hg 0) (by omega)) hq
  rw [x4] at hj
  refine ze [[1],[0,0,0,0,0,0,0,0,0,6,6,7,1,1,15]] [] (hj) ?_
  simp -implicitDefEqProofs only [zP,↓zb,push_cast,simprocAttr,tte]
  refine ⟨zf (by kernel_rfl),?_⟩
  rw [<-hr,zP]
  refine zv [[1],[0]] rfl (by simp) (by simp [zc]<;>omega) ?_ (by first | rfl | simp [ends] | (subst_vars;simp [ends])) (by simp [ends]) (by simp [ends])
  rfl
 have o10': ¬q.op=10:=by simpa using o10
 rw [if_neg o10'] at hr
 refine za (fun o6=>?_) fun o6=>?_
 ·have o6':q.op=6:=by simpa using o6
  have hkn:(yZ q.op).kids=2:=by rw [o6'];rfl
  have hk1:ks.length=2:=by omega
  rw [if_pos (by omega)] at hr
  refine za (fun _=>?_) (fun h=>absurd (o6.symm.trans h) (by decide))
  refine ⟨by omega,by omega,by omega,by omega,?_⟩
  refine ze [[1],[1]] [] (c_eqI (ks.getD 0 default) (ks.getD 1 default) (Nat.le_trans (hg 0) (by omega)) (Nat.le_trans (hg 1) (by omega))) ?_
  simp -implicitDefEqProofs only [↓zb,push_cast,simprocAttr,tte]
  refine ⟨zf (by kernel_rfl),?_⟩
  refine za (fun g=>?_) fun g=>?_
  ·have g': ¬(ks.getD 0 default==ks.getD 1 default)=true:=by simpa using g
   rw [<-hr,if_neg g',zP]
   refine zv [[1],[0]] rfl (by simp) (by simp [zc]<;>omega) ?_ (by first | rfl | simp [ends] | (subst_vars;simp [ends])) (by simp [ends]) (by simp [ends])
   rfl
  ·have g':(ks.getD 0 default==ks.getD 1 default)=true:=by simpa using g
   refine ⟨by omega,by omega,?_⟩
   rw [<-hr,if_pos g',zP]
   refine zv [[1],[0]] rfl (by simp) (by simp [zc]<;>omega) ?_ (by first | rfl | simp [ends] | (subst_vars;simp [ends])) (by simp [ends]) (by simp [ends])
   rfl
 have o6': ¬q.op=6:=by simpa using o6
 refine za (fun o7=>?_) fun o7=>?_
 ·have o7':q.op=7:=by simpa using o7
  have hkn:(yZ q.op).kids=2:=by rw [o7'];rfl
  have hk1:ks.length=2:=by omega
  rw [if_pos (by omega)] at hr
  refine za (fun _=>?_) (fun h=>absurd (o7.symm.trans h) (by decide))
  refine ⟨by omega,by omega,by omega,by omega,?_⟩
  refine ze [[1],[1]] [] (c_eqI (ks.getD 0 default) (ks.getD 1 default) (Nat.le_trans (hg 0) (by omega)) (Nat.le_trans (hg 1) (by omega))) ?_
  simp -implicitDefEqProofs only [↓zb,push_cast,simprocAttr,tte]
  refine ⟨zf (by kernel_rfl),?_⟩
  refine za (fun g=>?_) fun g=>?_
  ·have g': ¬(ks.getD 0 default==ks.getD 1 default)=true:=by simpa using g
   rw [<-hr,if_neg g',zP]
   refine zv [[1],[0]] rfl (by simp) (by simp [zc]<;>omega) ?_ (by first | rfl | simp [ends] | (subst_vars;simp [ends])) (by simp [ends]) (by simp [ends])
   rfl
  ·have g':(ks.getD 0 default==ks.getD 1 default)=true:=by simpa using g
   refine ⟨by omega,by omega,?_⟩
   rw [<-hr,if_pos g',zP]
   refine zv [[1],[0]] rfl (by simp) (by simp [zc]<;>omega) ?_ (by first | rfl | simp [ends] | (subst_vars;simp [ends])) (by simp [ends]) (by simp [ends])
   rfl
 have o7': ¬q.op=7:=by simpa using o7
 refine za (fun o8=>?_) fun o8=>?_
 ·have o8':q.op=8:=by simpa using o8
  have hkn:(yZ q.op).kids=2:=by rw [o8'];rfl
  have hk1:ks.length=2:=by omega
  rw [if_pos (by omega)] at hr
  refine ⟨by omega,by omega,by omega,by omega,?_⟩
  refine ze [[1],[1]] [] (c_eqI (ks.getD 0 default) (ks.getD 1 default) (Nat.le_trans (hg 0) (by omega)) (Nat.le_trans (hg 1) (by omega))) ?_
  simp -implicitDefEqProofs only [↓zb,push_cast,simprocAttr,tte]
  refine ⟨zf (by kernel_rfl),?_⟩
  refine za (fun g=>?_) fun g=>?_
  ·have g': ¬(ks.getD 0 default==ks.getD 1 default)=true:=by simpa using g
   rw [<-hr,if_neg g',zP]
   refine zv [[1],[0]] rfl (by simp) (by simp [zc]<;>omega) ?_ (by first | rfl | simp [ends] | (subst_vars;simp [ends])) (by simp [ends]) (by simp [ends])
   rfl
  ·have g':(ks.getD 0 default==ks.getD 1 default)=true:=by simpa using g
   refine ⟨by omega,by omega,?_⟩
   rw [<-hr,if_pos g',zP]
   refine zv [[1],[0]] rfl (by simp) (by simp [zc]<;>omega) ?_ (by first | rfl | simp [ends] | (subst_vars;simp [ends])) (by simp [ends]) (by simp [ends])
   rfl
 have o8': ¬q.op=8:=by simpa using o8
 have o9:q.op=9:=by
  simp only [isFm,Bool.and_eq_true,decide_eq_true_eq] at k1'
  omega
 have hkn:(yZ q.op).kids=1:=by rw [o9];rfl
 have hk1:ks.length=1:=by omega
 rw [if_neg (by omega)] at hr
 refine ⟨by omega,by omega,?_⟩
 rw [<-hr,zP]
 refine zv [[1],[0]] rfl (by simp) (by simp [zc]<;>omega) ?_ (by first | rfl | simp [ends] | (subst_vars;simp [ends])) (by simp [ends]) (by simp [ends])
 rfl
def uK (s:Sch) (q:Qr):List Int×Int:=if ur q>200 then ([],8) else if vt q>24 then ([],13) else typQ s q
theorem c_Type (s:Sch) (hs:SmallS s) (q:Qr) (ho:OkQ q):ACall Tryz.prog 34 [aS s,aQ q] [] (zP (uK s q)) []:=by
 have h1:=c_qsize q ho
 have h2:=c_qdepth q ho
 have h3:=c_typQ s hs q ho
 rw [x4] at h1 h2 h3 ⊢
 refine zl mixed ttok Tryz.func34 Tryz.ntmps34 Tryz.results34 ?_
 generalize hr:zP (uK s q)=R
 unfold uK at hr
 simp -implicitDefEqProofs only [argT,↓zb,push_cast,simprocAttr,tte]
 refine ze [[0,0,0,0,0,0,0,0,0,6,6,7,1,1,15]] [] (h1) ?_
 simp -implicitDefEqProofs only [↓zb,push_cast,simprocAttr,tte]
 refine za (fun k1=>?_) fun k1=>?_
 ·rw [←hr,if_pos (of_decide_eq_true k1),zP]
  refine zv [[1],[0]] rfl (by simp) (by simp [zc]<;>omega) ?_ (by first | rfl | simp [ends] | (subst_vars;simp [ends])) (by simp [ends]) (by simp [ends])
  rfl
 rw [if_neg (of_decide_eq_false k1)] at hr
 refine ze [[0,0,0,0,0,0,0,0,0,6,6,7,1,1,15]] [] (h2) ?_
 simp -implicitDefEqProofs only [↓zb,push_cast,simprocAttr,tte]
 refine za (fun k2=>?_) fun k2=>?_
 ·rw [←hr,if_pos (of_decide_eq_true k2),zP]
  refine zv [[1],[0]] rfl (by simp) (by simp [zc]<;>omega) ?_ (by first | rfl | simp [ends] | (subst_vars;simp [ends])) (by simp [ends]) (by simp [ends])
  rfl
 rw [if_neg (of_decide_eq_false k2)] at hr
 refine ze [[6],[0,0,0,0,0,0,0,0,0,6,6,7,1,1,15]] [] (h3) ?_
 simp -implicitDefEqProofs only [zP,↓zb,push_cast,simprocAttr,tte]
 rw [<-hr,zP]
 refine zv [[1],[0]] rfl (by simp) (by simp [zc]<;>omega) ?_ (by first | rfl | simp [ends] | (subst_vars;simp [ends])) (by simp [ends]) (by simp [ends])
 rfl
end
end Go.Proofs.YtnmibokjpedkiaaGreatDoor
