/- What random makes of a tape is valid, of its types, and not too large: a proof over an abstract machine of our own (part Wf) -/
import Derived.Test.YtampbaaiddbacaaGreatDoorWd
import Derived.Test.YtampbaaiddbacaaGreatDoorWc
import Derived.Test.YtampbaaiddbacaaGreatDoorWe
import Derived.Test.YtampbaaiddbacaaGreatDoorLe
import Derived.Test.YtampbaaiddbacaaGreatDoorWb
set_option maxRecDepth 100000
set_option maxHeartbeats 4000000
set_option linter.all false
namespace Go.Proofs.YtampbaaiddbacaaGreatDoor
section
open Go.Am
attribute [local simp, local push_cast] num boo str ints aV aTab zA aS aT aC aRow rRow rTab vO rVio
def isK0 (v:Val):Bool:=v.kind==0
theorem c_rin (l:List Int) (v:Int) (hl:l.length≤1000000):ACall Tryz.prog 128 [ints l,num v] [] (boo (l.contains v)) []:=by
 refine zp mixed ttok Tryz.func128 Tryz.ntmps128 Tryz.results128 ?_
 generalize hr:boo (l.contains v)=R
 simp -implicitDefEqProofs only [argT,↓zb,push_cast,simprocAttr,tte]
 refine zn mixed ttok 5 [0,1] [] (by simp only [z6,ends,push_cast,simprocAttr];rfl) (by simp only [zB,zo,ends,push_cast,simprocAttr];rfl) l.length (fun n=> ∀i,i<n->l.getD i default≠v) (fun _=>[]) (fun _=>[]) (fun i h=>absurd h (Nat.not_lt_zero _)) ?_ ?_
 ·exact Weak.keepL (by simp [cst,ends]) (by simp [cst,ends]) (by simp [cst,ends])
 intro I hI n hn hi
 simp -implicitDefEqProofs only [cst,↓zb,push_cast,simprocAttr,tte]
 refine za (fun h=>?_) fun h=>?_
 ·simp only [decide_eq_true_eq] at h
  have h':n<l.length:=by omega
  have hw:=zj h' (by omega)
  refine ⟨(by first | omega | trivial | (refine ⟨?_,?_⟩<;>first | omega | trivial | (refine ⟨?_,?_⟩<;>first | omega | trivial | (refine ⟨?_,?_⟩<;>first | omega | trivial | rfl)))),?_⟩
  refine za (fun g=>?_) fun g=>?_
  ·have hc:l.contains v=true:=by
    rw [List.contains_iff_mem]
    have:=zi h'
    rwa [beq_iff_eq.1 g] at this
   exact zk trivial (by rw [<-hr,hc];rfl) (by simp [ends])
  ·have g':l.getD n default≠v:=by simpa using g
   exact zl hI n rfl h' (fun i h2=>if h3:i=n then by rw [h3];exact g' else hi i (by omega)) (by simp [hw,ends]) (by simp [hw,ends]) (by simp [hw,ends]) (by simp [hw,ends])
 ·simp only [decide_eq_false_iff_not] at h
  obtain rfl:n=l.length:=by omega
  have hc:l.contains v=false:=by
   cases hq:l.contains v with
   | false=>rfl
   | true=>
     obtain ⟨i,hi2,he⟩:=jE (List.contains_iff_mem.1 hq)
     exact absurd he (hi i hi2)
  exact zk trivial (by rw [<-hr,hc];rfl) (by simp [ends])
theorem c_rnull (l:List Val) (hl:l.length<=1000000):ACall Tryz.prog 131 [aRow l] [] (boo (l.any isK0)) []:=by
 refine zp mixed ttok Tryz.func131 Tryz.ntmps131 Tryz.results131 ?_
 generalize hr:boo (l.any isK0)=R
 simp -implicitDefEqProofs only [argT,↓zb,push_cast,simprocAttr,tte]
 refine zn mixed ttok 3 [0] [] (by simp only [z6,ends,push_cast,simprocAttr];rfl) (by simp only [zB,zo,ends,push_cast,simprocAttr];rfl) l.length (fun n=> ∀i,i<n->isK0 (l.getD i default)=false) (fun _=>[]) (fun _=>[]) (fun i h=>absurd h (Nat.not_lt_zero _)) ?_ ?_
 ·exact Weak.keepL (by simp [cst,ends]) (by simp [cst,ends]) (by simp [cst,ends])
 intro I hI n hn hi
 simp -implicitDefEqProofs only [cst,↓zb,push_cast,simprocAttr,tte]
 refine za (fun h=>?_) fun h=>?_
 ·simp only [decide_eq_true_eq] at h
  have h':n<l.length:=by omega
  have hw:=zj h' (by omega)
  refine ⟨(by first | omega | trivial | (refine ⟨?_,?_⟩<;>first | omega | trivial | (refine ⟨?_,?_⟩<;>first | omega | trivial | (refine ⟨?_,?_⟩<;>first | omega | trivial | rfl)))),?_⟩
  refine za (fun g=>?_) fun g=>?_
  ·have hc:l.any isK0=true:=List.any_eq_true.2 ⟨_,zi h',by rw [isK0];exact g⟩
   exact zk trivial (by rw [<-hr,hc];rfl) (by simp [ends])
  ·have g':isK0 (l.getD n default)=false:=by rw [isK0];exact g
   exact zl hI n rfl h' (fun i h2=>if h3:i=n then by rw [h3];exact g' else hi i (by omega)) (by simp [hw,ends]) (by simp [hw,ends]) (by simp [hw,ends]) (by simp [hw,ends])
 ·simp only [decide_eq_false_iff_not] at h
  obtain rfl:n=l.length:=by omega
  have hc:l.any isK0=false:=by
   rw [List.any_eq_false]
   intro x hx
   obtain ⟨i,hi2,rfl⟩:=jE hx
   rw [hi i hi2];decide
  exact zk trivial (by rw [<-hr,hc];rfl) (by simp [ends])
theorem c_rpick (r:Row) (cols:List Int) (hl:cols.length<=1000000) (hc: ∀c∈cols,0<=c/\c<r.length):ACall Tryz.prog 130 [aRow r,ints cols] [] (aRow (z7 r cols)) []:=by
 refine zp mixed ttok Tryz.func130 Tryz.ntmps130 Tryz.results130 ?_
 generalize hr:aRow (z7 r cols)=R
 simp -implicitDefEqProofs only [argT,↓zb,push_cast,simprocAttr,tte]
 refine zn mixed ttok 6 [0,1] [] (by simp only [z6,ends,push_cast,simprocAttr];rfl) (by simp only [zB,zo,ends,push_cast,simprocAttr];rfl) cols.length (fun _=>True) (fun n=>[(5,.vec 500 n)]) (fun n=>[(500,.vec 45 3 (ze rV (z7 r (cols.take n))) 0)]) trivial ?_ ?_
 ·exact (Weak.nilL 5 500 45 3 rfl rfl).trans (Weak.keepL (by simp [cst,ends]) (by simp [cst,z7,ends]) (by simp [cst,ends]))
 intro I hI n hn hi
 have hl2:(z7 r (cols.take n)).length=n:=by simp [z7];omega
 simp -implicitDefEqProofs only [cst,↓zb,push_cast,simprocAttr,tte]
 refine za (fun h=>?_) fun h=>?_
 ·simp only [decide_eq_true_eq] at h
  have h':n<cols.length:=by omega
  have hw:=zj h' (by omega)
  have hcn:=hc _ (zi h')
  have ht:z7 r (cols.take (n+1))=z7 r (cols.take n)++[r.getD (cols.getD n default).toNat default]:=by rw [zH _ _ h',z7,List.map_append];rfl
  refine ⟨(by first | omega | trivial | (refine ⟨?_,?_⟩<;>first | omega | trivial | (refine ⟨?_,?_⟩<;>first | omega | trivial | (refine ⟨?_,?_⟩<;>first | omega | trivial | rfl)))),⟨by omega,by omega⟩,⟨hl2.symm,by rw [hl2];omega⟩,?_⟩
  exact zl hI n rfl h' trivial (by simp [hw,ht,hl2,zf,Nat.min_eq_left hn,ends]) (by simp [hw,ht,hl2,zf,Nat.min_eq_left hn,ends]) (by simp [hw,ht,hl2,zf,Nat.min_eq_left hn,ends]) (by simp [hw,ht,hl2,zf,Nat.min_eq_left hn,ends])
 ·simp only [decide_eq_false_iff_not] at h
  obtain rfl:n=cols.length:=by omega
  rw [List.take_length] at hl2 ⊢
  refine zr [3] rfl (by simp) (by simp [zc]<;>omega) ?_ (by first | rfl | simp [ends] | (subst_vars;simp [ends])) (by simp [ends]) (by simp [ends])
  exact hr
def vd (cols:List Int) (x:List Val) (q:Row):Bool:=cmpR (z7 q cols) x==0
def repAt (kind table index:Int) (cols:List Int) (nulls:Bool) (rows:List Row) (n:Nat):List Vio:=
 if (!nulls&&(z7 (rows.getD n default) cols).any isK0)=true then []
 else if fidx (vd cols (z7 (rows.getD n default) cols)) (rows.take n)<0 then []
 else [⟨kind,table,index,n,fidx (vd cols (z7 (rows.getD n default) cols)) (rows.take n)⟩]
def wG (kind table index:Int) (cols:List Int) (nulls:Bool) (rows:List Row) (n:Nat):List Vio:=(List.range n).flatMap (repAt kind table index cols nulls rows)
theorem kZ (kind table index:Int) (cols:List Int) (nulls:Bool) (rows:List Row) (n:Nat):
 wG kind table index cols nulls rows (n+1)=wG kind table index cols nulls rows n++repAt kind table index cols nulls rows n:=by simp [wG,List.range_succ]
theorem repAt_len (kind table index:Int) (cols:List Int) (nulls:Bool) (rows:List Row) (n:Nat):(repAt kind table index cols nulls rows n).length<=1:=by
 unfold repAt;split
 ·simp
 ·split<;>simp
theorem kh (kind table index:Int) (cols:List Int) (nulls:Bool) (rows:List Row): ∀n:Nat,(wG kind table index cols nulls rows n).length<=n
 | 0=>by simp [wG]
 | n+1=>by
   have h1:=kh kind table index cols nulls rows n
   have h2:=repAt_len kind table index cols nulls rows n
   rw [kZ,List.length_append];omega
theorem take_getD {α:Type} [Inhabited α] (l:List α) {n i:Nat} (h:i<n):(l.take n).getD i default=l.getD i default:=by
 simp [List.getD_eq_getElem?_getD,List.getElem?_take,h]
theorem c_repeated (kind table index:Int) (cols:List Int) (nulls:Bool) (rows:List Row) (hl:rows.length≤1000) (hcl:cols.length≤1000) (hc: ∀r∈rows,∀c∈cols,0≤c∧c<r.length):
 ACall Tryz.prog 129 [num kind,num table,num index,ints cols,aTab rows,boo nulls] [] (.vec 1000 (wG kind table index cols nulls rows rows.length).length) [(1000,vO (wG kind table index cols nulls rows rows.length))]:=by
 refine zp mixed ttok Tryz.func129 Tryz.ntmps129 Tryz.results129 ?_
 simp -implicitDefEqProofs only [argT,↓zb,push_cast,simprocAttr,tte]
 refine zn mixed ttok 14 [0,1,2,3,4,5] [] (by simp only [z6,ends,push_cast,simprocAttr];rfl) (by simp only [zB,zo,ends,push_cast,simprocAttr];rfl) rows.length (fun _=>True) (fun n=>[(13,.vec 600 (wG kind table index cols nulls rows n).length)]) (fun n=>[(600,vO (wG kind table index cols nulls rows n))]) trivial ?_ ?_
 ·exact (Weak.nilL 13 600 173 5 rfl rfl).trans (Weak.keepL (by simp [cst,wG,ends]) (by simp [cst,wG,ze,ends]) (by simp [cst,ends]))
 intro I hI n hn _
 have hs:=kZ kind table index cols nulls rows n
 have hlen:=kh kind table index cols nulls rows n
 simp -implicitDefEqProofs only [cst,↓zb,push_cast,simprocAttr,tte]
 refine za (fun h=>?_) fun h=>?_
 rotate_left
 ·simp only [decide_eq_false_iff_not] at h
  obtain rfl:n=rows.length:=by omega
  exact ret_vec 600 trivial (by omega) rfl rfl ⟨.inl (by omega),trivial⟩
 simp only [decide_eq_true_eq] at h
 have h':n<rows.length:=by omega
 have hw:=zj h' (by omega)
 have hcn:=hc _ (zi h')
 refine ⟨(by first | omega | trivial | (refine ⟨?_,?_⟩<;>first | omega | trivial | (refine ⟨?_,?_⟩<;>first | omega | trivial | (refine ⟨?_,?_⟩<;>first | omega | trivial | rfl)))),?_⟩
 generalize hrn:rows.getD n default=r at hcn
 refine zd [[3],[1]] [] (c_rpick r cols (by omega) hcn) ?_
 have hxl:(z7 r cols).length=cols.length:=by simp [z7]
 rw [repAt,hrn] at hs
 generalize hx:z7 r cols=x at hs hxl
 simp -implicitDefEqProofs only [↓zb,push_cast,simprocAttr,tte]
 refine zd [[3]] [] (c_rnull x (by omega)) ?_
 simp -implicitDefEqProofs only [↓zb,push_cast,simprocAttr,tte]
 cases nulls<;>cases hN:x.any isK0<;>simp -implicitDefEqProofs only [↓zb,push_cast,simprocAttr,tte]
 rotate_left
 ·rw [hN,if_pos (by rfl),List.append_nil] at hs
  exact zl hI n rfl h' trivial (by simp [hw,hs,ends]) (by simp [hw,hs,ends]) (by simp [hw,hs,ends]) (by simp [hw,hs,ends])
 rotate_right
 all_goals
  rw [hN,if_neg (by decide)] at hs
  refine zn mixed ttok 16 [0,1,2,3,4,5,13,14,15] [600] (by simp only [z6,ends,push_cast,simprocAttr];rfl) (by simp only [zB,zo,ends,push_cast,simprocAttr];rfl) n (fun k=> ∀i,i<k->vd cols x (rows.getD i default)=false) (fun _=>[]) (fun _=>[]) (fun i h=>absurd h (Nat.not_lt_zero _)) ?_ ?_
  ·exact Weak.keepL (by simp [cst,ends]) (by simp [cst,ends]) (by simp [cst,ends])
  intro J hJ k hk hki
  simp -implicitDefEqProofs only [cst,↓zb,push_cast,simprocAttr,tte]
  refine za (fun q=>?_) fun q=>?_
  rotate_left
  ·simp only [decide_eq_false_iff_not] at q
   obtain rfl:k=n:=by omega
   have hf:fidx (vd cols x) (rows.take k)= -1:=yO _ _ fun i hi=>by
    have hi:i<k:=by simpa [Nat.min_eq_left (show k<=rows.length by omega)] using hi
    rw [take_getD rows hi];exact hki i hi
   rw [hf,if_pos (by decide),List.append_nil] at hs
   exact zl hI k rfl h' trivial (by simp [hw,hs,ends]) (by simp [hw,hs,ends]) (by simp [hw,hs,ends]) (by simp [hw,hs,ends])
  simp only [decide_eq_true_eq] at q
  have q':k<n:=by omega
  have hwk:=zj q' (by omega)
  have hck:=hc _ (zi (show k<rows.length by omega))
  refine ⟨(by first | omega | trivial | (refine ⟨?_,?_⟩<;>first | omega | trivial | (refine ⟨?_,?_⟩<;>first | omega | trivial | (refine ⟨?_,?_⟩<;>first | omega | trivial | rfl)))),?_⟩
  refine zd [[3],[1]] [] (c_rpick (rows.getD k default) cols (by omega) hck) ?_
  simp -implicitDefEqProofs only [↓zb,push_cast,simprocAttr,tte]
  refine zd [[3],[3]] [] (c_cmpRows (z7 (rows.getD k default) cols) x (by simp [z7];omega)) ?_
  simp -implicitDefEqProofs only [↓zb,push_cast,simprocAttr,tte]
  refine za (fun e=>?_) fun e=>?_
  ·have hf:fidx (vd cols x) (rows.take n)=k:=by
    have hlt:(rows.take n).length=n:=by simp;omega
    refine x4 _ _ k (by omega) (fun i hi=>?_) ?_
    ·rw [take_getD rows (show i<n by omega)];exact hki i hi
    ·rw [take_getD rows q'];exact e
   rw [hf,if_neg (by omega)] at hs
   have hl1:=hlen
   refine ⟨(by first | omega | trivial | (refine ⟨?_,?_⟩<;>first | omega | trivial | (refine ⟨?_,?_⟩<;>first | omega | trivial | (refine ⟨?_,?_⟩<;>first | omega | trivial | rfl)))),?_⟩
   exact zl hI n rfl h' trivial (by simp [hw,hs,ze,ends]) (by simp [hw,hs,ze,ends]) (by simp [hw,hs,ze,ends]) (by simp [hw,hs,ze,ends])
  ·have g':vd cols x (rows.getD k default)=false:=e
   exact zl hJ k rfl q' (fun i h2=>if h3:i=k then by rw [h3];exact g' else hki i (by omega)) (by simp [hwk,ends]) (by simp [hwk,ends]) (by simp [hwk,ends]) (by simp [hwk,ends])
end
section
open Go.Am
theorem cmpR_eq: ∀(a b:List Val),cmpR a b=0 ↔ a=b
 | [],[]=>by simp [cmpR]
 | [],_::_=>by simp [cmpR]
 | _::_,[]=>by simp [cmpR]
 | x::a,y::b=>by
   rw [cmpR]
   split
   ·rename_i h
    constructor
    ·intro e;exact absurd e h
    ·intro e;injection e with e1 e2;exact absurd ((cmpM_eq x y).2 e1) h
   ·rename_i h
    have h':cmpM x y=0:=by omega
    rw [cmpR_eq a b,(cmpM_eq x y).1 h'];simp
theorem kA {α:Type} (p:α→Bool) (x:α): ∀l:List α,fidx p (l++[x])=if fidx p l<0 then (if p x then (l.length:Int) else -1) else fidx p l
 | []=>by cases h:p x<;>simp [fidx,h]
 | y::l=>by
   have ih:=kA p x l
   have hg:=fidx_ge p l
   simp only [List.cons_append,fidx,ih,List.length_cons]
   cases p y with
   | true=>simp
   | false=>
     by_cases h:fidx p l<0
     ·cases hx:p x
      ·simp [h]
      ·simp only [h,if_true,if_false,Bool.false_eq_true]
       rw [if_neg (by omega),if_pos (by omega)]
       push_cast
     ·simp only [h,if_false,Bool.false_eq_true]
      rw [if_neg (by omega)]
theorem qi (k t:ByteArray) (v:Int): ∀es:List (ByteArray×Int),wA t (es++[(k,v)])=match wA t es with | some o=>some o | none=>if t=k then some v else none
 | []=>by simp [wA]
 | p::es=>by
   simp only [List.cons_append,wA,qi k t v es]
   split<;>rfl
theorem any_congr {p q:Val->Bool}: ∀{l:List Val},(∀v∈l,p v=q v)->l.any p=l.any q
 | [],_=>rfl
 | v::l,h=>by
   rw [List.any_cons,List.any_cons,h v List.mem_cons_self,any_congr fun x hx=>h x (List.mem_cons_of_mem _ hx)]
structure TextOk (rows:List Row) (cols:List Int):Prop where
 inj: ∀q∈rows,∀r∈rows,zN (z7 q cols)=zN (z7 r cols)->z7 q cols=z7 r cols
 nul: ∀r∈rows,∀v∈z7 r cols,yF v=isK0 v
theorem TextOk.any {rows:List Row} {cols:List Int} (h:TextOk rows cols) {r:Row} (hr:r∈rows):(z7 r cols).any yF=(z7 r cols).any isK0:=any_congr (h.nul r hr)
def jy (cols:List Int) (nulls:Bool) (q:Row):Bool:= !(!nulls&&(z7 q cols).any yF)
def uC (cols:List Int) (nulls:Bool) (t:ByteArray) (q:Row):Bool:=jy cols nulls q&&decide (t=zN (z7 q cols))
def EsOk (cols:List Int) (nulls:Bool) (rows:List Row) (n:Nat) (es:List (ByteArray×Int)):Prop:=
 ∀t,wA t es=if fidx (uC cols nulls t) (rows.take n)<0 then none else some (fidx (uC cols nulls t) (rows.take n))
theorem same_text {cols:List Int} {nulls:Bool} {rows:List Row} (h:TextOk rows cols) {q r:Row} (hq:q∈rows) (hr:r∈rows) (hk:jy cols nulls r=true):
 vd cols (z7 r cols) q=uC cols nulls (zN (z7 r cols)) q:=by
 rw [Bool.eq_iff_iff,vd,uC,beq_iff_eq,cmpR_eq,Bool.and_eq_true,decide_eq_true_eq]
 constructor
 ·intro e
  refine ⟨?_,by rw [e]⟩
  rw [jy,e];exact hk
 ·rintro ⟨_,e⟩
  exact (h.inj r hr q hq e).symm
theorem key_go (kind table index:Int) {cols:List Int} {nulls:Bool} {rows:List Row} (h:TextOk rows cols): ∀(m n:Nat) (es:List (ByteArray×Int)),n+m=rows.length→EsOk cols nulls rows n es→
 wG kind table index cols nulls rows n++wL kind table index cols nulls (rows.drop n) n es=wG kind table index cols nulls rows rows.length
 | 0,n,es,hn,_=>by
   obtain rfl:n=rows.length:=by omega
   rw [List.drop_length,wL,List.append_nil]
 | m+1,n,es,hn,hE=>by
   have h':n<rows.length:=by omega
   have hs:=kZ kind table index cols nulls rows n
   have hr:=zi h'
   have htk:=zH rows n h'
   have hlen:(rows.take n).length=n:=by simp;omega
   rw [zR rows n h',wL]
   rw [repAt,<-h.any hr] at hs
   by_cases hk:(!nulls&&(z7 (rows.getD n default) cols).any yF)=true
   ·rw [if_pos hk] at hs ⊢
    have hp: ∀t,uC cols nulls t (rows.getD n default)=false:=fun t=>by rw [uC,jy,hk];rfl
    have:=key_go kind table index h m (n+1) es (by omega) (fun t=>by
     rw [htk,kA,hp t,hE t]
     by_cases q:fidx (uC cols nulls t) (rows.take n)<0
     ·simp [q]
     ·simp [q])
    rwa [hs,List.append_nil] at this
   ·rw [if_neg hk] at hs ⊢
    have hkeep:jy cols nulls (rows.getD n default)=true:=by
     rw [jy]
     cases q:(!nulls&&(z7 (rows.getD n default) cols).any yF)
     ·rfl
     ·exact absurd q hk
    have hfi:fidx (vd cols (z7 (rows.getD n default) cols)) (rows.take n)=fidx (uC cols nulls (zN (z7 (rows.getD n default) cols))) (rows.take n):=
     qj _ fun q hq=>same_text h (List.mem_of_mem_take hq) hr hkeep
    rw [hfi] at hs
    have hf:=hE (zN (z7 (rows.getD n default) cols))
    generalize hT:zN (z7 (rows.getD n default) cols)=T at hs hf hfi ⊢
    have hp: ∀t,uC cols nulls t (rows.getD n default)=decide (t=T):=fun t=>by rw [uC,hkeep,hT,Bool.true_and]
    by_cases q:fidx (uC cols nulls T) (rows.take n)<0
    ·rw [if_pos q] at hs hf
     rw [hf]
     have:=key_go kind table index h m (n+1) (es++[(T,(n:Int))]) (by omega) (fun t=>by
      rw [htk,kA,hp t,hlen,qi,hE t]
      by_cases q2:fidx (uC cols nulls t) (rows.take n)<0
      ·by_cases e:t=T
       ·subst e;simp [q2]
       ·simp [q2,e]
      ·simp [q2])
     rwa [hs,List.append_nil] at this
    ·rw [if_neg q] at hs hf
     rw [hf]
     have:=key_go kind table index h m (n+1) es (by omega) (fun t=>by
      rw [htk,kA,hp t,hlen,hE t]
      by_cases q2:fidx (uC cols nulls t) (rows.take n)<0
      ·have e:t≠T:=fun e=>q (e ▸ q2)
       simp [q2,e]
      ·simp [q2])
     rw [hs,List.append_assoc] at this
     exact this
theorem key_eq (kind table index:Int) {cols:List Int} {nulls:Bool} {rows:List Row} (h:TextOk rows cols):wG kind table index cols nulls rows rows.length=keyM kind table index cols nulls rows:=by
 have:=key_go kind table index (nulls:=nulls) h rows.length 0 [] (by omega) (fun t=>by simp [wA,fidx])
 rw [<-this];rfl
theorem val_ok {T:Tbl} {r:Row} (h:misM T r=false) {c:Int} (hc:inC T c):OfType (r.getD c.toNat default) (yB T c)/\r.length=T.columns.length:=by
 have hl: ¬(r.length:Int)≠T.columns.length:=fun q=>by rw [je q] at h;cases h
 have ha:=jf hl
 rw [h] at ha
 have ha:((List.range r.length).all fun j=> !badV (T.columns.getD j default) (r.getD j default))=true:=by
  cases q:((List.range r.length).all fun j=> !badV (T.columns.getD j default) (r.getD j default))
  ·rw [q] at ha;cases ha
  ·rfl
 obtain ⟨c0,c1⟩:=hc
 have hb:=all_range.1 ha c.toNat (by omega)
 have hb:badV (T.columns.getD c.toNat default) (r.getD c.toNat default)=false:=by simpa using hb
 rw [badV,Bool.or_eq_false_iff] at hb
 refine ⟨⟨by simpa using hb.1,?_⟩,by omega⟩
 have h2:=hb.2
 by_cases k:(r.getD c.toNat default).kind=0
 ·exact .inl k
 ·right
  have k1:((r.getD c.toNat default).kind !=0)=true:=by simpa using k
  rw [k1,Bool.true_and] at h2
  simpa [yB] using h2
theorem null_eq {v:Val} (h:zy v=true):yF v=isK0 v:=by
 rw [Bool.eq_iff_iff]
 constructor
 ·intro e
  simp only [yF,Bool.and_eq_true,beq_iff_eq] at e
  rw [isK0,<-e.1.1];rfl
 ·intro e
  have k:v.kind=0:=by simpa [isK0] using e
  rw [valid_0 h k];simp [yF]
theorem part_getD (r:Row) (cols:List Int) {i:Nat} (h:i<cols.length):(z7 r cols).getD i default=r.getD (cols.getD i default).toNat default:=by
 simp [z7,List.getD_eq_getElem?_getD,List.getElem?_map,List.getElem?_eq_getElem h]
theorem text_inj2 {T U:Tbl} {a b:List Int} (hk:xm T U a b=true) (ha: ∀c∈a,inC T c) (hb: ∀c∈b,inC U c) {q r:Row} (hq:misM T q=false) (hr:misM U r=false)
 (h:zN (z7 q a)=zN (z7 r b)):z7 q a=z7 r b:=by
 simp only [xm,Bool.and_eq_true,beq_iff_eq] at hk
 obtain ⟨hl,hk⟩:=hk
 refine textL_inj _ _ (a.map (yB T)) (by simp [z7]) (by simp [z7,hl]) ?_ ?_ h
 ·intro i hi
  have hi:i<a.length:=by simpa using hi
  have:=(val_ok hq (ha _ (zi hi))).1
  rw [part_getD q a hi]
  simpa [List.getD_eq_getElem?_getD,List.getElem?_map,List.getElem?_eq_getElem hi] using this
 ·intro i hi
  have hi:i<a.length:=by simpa using hi
  have hi2:i<b.length:=by omega
  have:=(val_ok hr (hb _ (zi hi2))).1
  have hty:=all_range.1 hk i hi
  rw [beq_iff_eq] at hty
  rw [part_getD r b hi2]
  rw [<-hty] at this
  simpa [List.getD_eq_getElem?_getD,List.getElem?_map,List.getElem?_eq_getElem hi] using this
theorem eqKeys_self (T:Tbl) (a:List Int):xm T T a a=true:=by simp [xm]
theorem part_null {T:Tbl} {a:List Int} (ha: ∀c∈a,inC T c) {r:Row} (hr:misM T r=false): ∀v∈z7 r a,yF v=isK0 v:=by
 intro v hv
 simp only [z7,List.mem_map] at hv
 obtain ⟨c,hc,rfl⟩:=hv
 exact null_eq (val_ok hr (ha c hc)).1.ok
theorem text_ok {T:Tbl} {a:List Int} (ha: ∀c∈a,inC T c) {rows:List Row} (h: ∀r∈rows,misM T r=false):TextOk rows a:=
 ⟨fun q hq r hr e=>text_inj2 (eqKeys_self T a) ha ha (h q hq) (h r hr) e,fun r hr=>part_null ha (h r hr)⟩
end
section
open Go.Am
attribute [local simp, local push_cast] num boo str ints aV aTab zA aS aT aC aRow rRow rTab vO rVio rB vT
def RR (k:Nat) (T:Tbl) (rows:List Row) (x:Nat×List Vio×Bool):SL:=
 ⟨[(10,.d (.lit (.int .i64 x.1))),(9,boo x.2.2),(8,.vec 600 x.2.1.length),(1,num k),(2,aTab rows),(3,.ptr 3 0)],[(3,vT T),(600,vO x.2.1)]⟩
def RC (k:Nat) (T:Tbl) (rows:List Row) (n:Nat) (x:Nat×List Vio×Bool):SL:=
 ⟨[(11,.d (.lit (.int .i64 x.1))),(10,.d (.lit (.int .i64 n))),(9,boo x.2.2),(8,.vec 600 x.2.1.length),(1,num k),(2,aTab rows),(3,.ptr 3 0)],[(3,vT T),(600,vO x.2.1)]⟩
def fineTo (T:Tbl) (r:Row) (c:Nat):Bool:=(List.range c).all fun j=> !badV (T.columns.getD j default) (r.getD j default)
theorem fineTo_succ (T:Tbl) (r:Row) (c:Nat):fineTo T r (c+1)=(fineTo T r c&& !badV (T.columns.getD c default) (r.getD c default)):=by
 simp [fineTo,List.range_succ,List.all_append]
theorem c_rrows (T:Tbl) (k:Nat) (rows:List Row) (hl:rows.length≤1000) (hrl: ∀r∈rows,r.length≤1000) (hpl:T.primary.length≤1000):
 ACall Tryz.prog 84 [aT T,num k,aTab rows] [] (.tup [.d (.sl 5 (ze rVio (yr T k rows 0))),boo (!rows.any (misM T))]) []:=by
 refine zp mixed ttok Tryz.func84 Tryz.ntmps84 Tryz.results84 ?_
 generalize hV:yr T k rows 0=V
 generalize hF:(!rows.any (misM T))=F
 simp -implicitDefEqProofs only [argT,↓zb,push_cast,simprocAttr,tte]
 refine yc mixed ttok (fun x:Nat×List Vio×Bool=>RR k T rows x) (fun x=>rows.length-x.1)
  (fun x=>x.1<=rows.length/\x.2.1++yr T k (rows.drop x.1) x.1=V/\x.2.1.length<=1001 * x.1/\x.2.2= !((rows.take x.1).any (misM T))) (0,[],true) ⟨Nat.zero_le _,hV,by simp,rfl⟩ ?_ ?_
 ·exact (Weak.nilL 8 600 173 5 rfl rfl).trans (Weak.keepL (by simp [RR,ends]) (by simp [RR,ze,ends]) (by simp [RR,ends]))
 rintro I hI ⟨n,o2,f⟩ ⟨hn,hi,hol,hf⟩
 simp only at hn hi hol hf
 simp -implicitDefEqProofs only [RR,↓zb,push_cast,simprocAttr,tte]
 refine za (fun h=>?_) fun h=>?_
 rotate_left
 ·simp only [decide_eq_false_iff_not] at h
  obtain rfl:n=rows.length:=by omega
  have he:V=o2:=by rw [<-hi,List.drop_length];simp [yr]
  have hF2:F=f:=by rw [<-hF,hf,List.take_length]
  rw [he,hF2]
  exact zm [[5],[]] rfl (by simp) (by simp [zc]) rfl (by simp [ends]) trivial (by simp [ends])
 simp only [decide_eq_true_eq] at h
 have h':n<rows.length:=by omega
 have hw:=zj h' (by omega)
 rw [zR rows n h',yr] at hi
 have hrn:=hrl _ (zi h')
 have htk:=zH rows n h'
 refine ⟨(by first | omega | trivial | (refine ⟨?_,?_⟩<;>first | omega | trivial | (refine ⟨?_,?_⟩<;>first | omega | trivial | (refine ⟨?_,?_⟩<;>first | omega | trivial | rfl)))),zg (by kernel_rfl),?_⟩
 refine za (fun h1=>?_) fun h1=>?_
 ·have h1':((rows.getD n default).length:Int)≠T.columns.length:=by simpa using h1
  rw [rowVio,if_pos h1'] at hi
  refine ⟨(by first | omega | trivial | (refine ⟨?_,?_⟩<;>first | omega | trivial | (refine ⟨?_,?_⟩<;>first | omega | trivial | (refine ⟨?_,?_⟩<;>first | omega | trivial | rfl)))),?_⟩
  refine zw hI (n+1,o2++[⟨1,k,0,n,0⟩],false) ⟨h',by simpa using hi,by simp;omega,by simp only [htk,List.any_append,List.any_cons,je h1'];simp⟩ (by show rows.length-(n+1)<rows.length-n;omega) (Weak.keepL (by simp [RR,hw,ends]) (by simp [RR,ze,ends]) (by simp [RR,ends]))
 have h1': ¬((rows.getD n default).length:Int)≠T.columns.length:=by simpa using h1
 have hmis:=jf h1'
 have hrc:(rows.getD n default).length=T.columns.length:=by omega
 rw [rowVio,if_neg h1'] at hi
 refine yc mixed ttok (fun x:Nat×List Vio×Bool=>RC k T rows n x) (fun x=>T.columns.length-x.1)
  (fun x=>x.1<=T.columns.length/\x.2.1++(yM T k n ((rows.getD n default).drop x.1) x.1++yr T k (rows.drop (n+1)) (n+1))=V/\x.2.1.length<=o2.length+x.1/\x.2.2=(f&&fineTo T (rows.getD n default) x.1)) (0,o2,f)
  ⟨Nat.zero_le _,hi,Nat.le_refl _,by simp [fineTo]⟩ ?_ ?_
 ·exact Weak.keepL (by simp [RC,ends]) (by simp [RC,ends]) (by simp [RC,ends])
 rintro J hJ ⟨c,o3,g⟩ ⟨hc,hj,hol3,hg⟩
 simp only at hc hj hol3 hg
 simp -implicitDefEqProofs only [RC,↓zb,push_cast,simprocAttr,tte]
 refine za (fun q=>?_) fun q=>?_
 rotate_left
 ·simp only [decide_eq_false_iff_not] at q
  obtain rfl:c=T.columns.length:=by omega
  rw [<-hrc,List.drop_length,yM,List.nil_append] at hj
  have hm:misM T (rows.getD n default)= !fineTo T (rows.getD n default) (rows.getD n default).length:=hmis
  exact zw hI (n+1,o3,g) ⟨h',hj,by simp only;omega,by simp only [htk,List.any_append,List.any_cons,List.any_nil,hm,hg,hf,hrc];simp⟩ (by show rows.length-(n+1)<rows.length-n;omega) (Weak.keepL (by simp [RR,hw,ends]) (by simp [RR,ends]) (by simp [RR,ends]))
 simp only [decide_eq_true_eq] at q
 have q':c<T.columns.length:=by omega
 have q2:c<(rows.getD n default).length:=by omega
 have hwc:=zj q' (by omega)
 rw [zR _ c q2,yM,List.append_assoc] at hj
 have hfs:=fineTo_succ T (rows.getD n default) c
 refine ⟨(by first | omega | trivial | (refine ⟨?_,?_⟩<;>first | omega | trivial | (refine ⟨?_,?_⟩<;>first | omega | trivial | (refine ⟨?_,?_⟩<;>first | omega | trivial | rfl)))),(by first | omega | trivial | (refine ⟨?_,?_⟩<;>first | omega | trivial | (refine ⟨?_,?_⟩<;>first | omega | trivial | (refine ⟨?_,?_⟩<;>first | omega | trivial | rfl)))),?_⟩
 generalize hv:(rows.getD n default).getD c default=v at hj hfs ⊢
 refine zd [[0,0,0]] [] (uU v) ?_
 simp -implicitDefEqProofs only [↓zb,push_cast,simprocAttr,tte]
 have hcV:vH T k n c v=if badV (T.columns.getD c default) v=true then [⟨2,k,c,n,0⟩]
  else if ((v.kind==0)&&(!(T.columns.getD c default).nullable || T.primary.contains (c:Int)))=true then [⟨3,k,c,n,0⟩] else []:=rfl
 rw [hcV] at hj
 clear hcV
 generalize hcol:T.columns.getD c default=col at hj hfs ⊢
 refine za (fun v1=>?_) fun v1=>?_
 ·have hb:badV col v=true:=by rw [badV,v1,Bool.true_or]
  rw [if_pos hb] at hj
  refine ⟨zg (by kernel_rfl),?_⟩
  refine ⟨(by first | omega | trivial | (refine ⟨?_,?_⟩<;>first | omega | trivial | (refine ⟨?_,?_⟩<;>first | omega | trivial | (refine ⟨?_,?_⟩<;>first | omega | trivial | rfl)))),?_⟩
  exact zw hJ (c+1,o3++[⟨2,k,c,n,0⟩],false) ⟨q',by simpa using hj,by simp;omega,by simp only [hfs,hb];simp⟩ (by show T.columns.length-(c+1)<T.columns.length-c;omega) (Weak.keepL (by simp [RC,hwc,ends]) (by simp [RC,ze,ends]) (by simp [RC,ends]))
 refine za (fun v2=>?_) fun v2=>?_
 ·refine ⟨by omega,zg (by kernel_rfl),?_⟩
  refine za (fun v3=>?_) fun v3=>?_
  ·have hb:badV col v=true:=by rw [badV,v2,v3];simp
   rw [if_pos hb] at hj
   refine ⟨(by first | omega | trivial | (refine ⟨?_,?_⟩<;>first | omega | trivial | (refine ⟨?_,?_⟩<;>first | omega | trivial | (refine ⟨?_,?_⟩<;>first | omega | trivial | rfl)))),?_⟩
   exact zw hJ (c+1,o3++[⟨2,k,c,n,0⟩],false) ⟨q',by simpa using hj,by simp;omega,by simp only [hfs,hb];simp⟩ (by show T.columns.length-(c+1)<T.columns.length-c;omega) (Weak.keepL (by simp [RC,hwc,ends]) (by simp [RC,ze,ends]) (by simp [RC,ends]))
  ·have hb:badV col v=false:=by rw [badV,v1,v3];simp
   rw [if_neg (by rw [hb];decide)] at hj
   refine za (fun w=>?_) fun w=>?_
   ·exfalso
    rw [beq_iff_eq] at w
    rw [w] at v2
    exact absurd v2 (by decide)
   ·rw [if_neg (by rw [w];simp)] at hj
    exact zw hJ (c+1,o3,g) ⟨q',by simpa using hj,by simp only;omega,by simp only [hfs,hb,hg];simp⟩ (by show T.columns.length-(c+1)<T.columns.length-c;omega) (Weak.keepL (by simp [RC,hwc,ends]) (by simp [RC,ze,ends]) (by simp [RC,ends]))
 ·refine ⟨zg (by kernel_rfl),?_⟩
  have hb:badV col v=false:=by rw [badV,v1,v2];simp
  rw [if_neg (by rw [hb];decide)] at hj
  refine za (fun w=>?_) fun w=>?_
  ·refine ⟨by omega,?_⟩
   refine za (fun u=>?_) fun u=>?_
   ·rw [if_pos (by rw [w,u];simp)] at hj
    refine ⟨(by first | omega | trivial | (refine ⟨?_,?_⟩<;>first | omega | trivial | (refine ⟨?_,?_⟩<;>first | omega | trivial | (refine ⟨?_,?_⟩<;>first | omega | trivial | rfl)))),?_⟩
    exact zw hJ (c+1,o3++[⟨3,k,c,n,0⟩],g) ⟨q',by simpa using hj,by simp;omega,by simp only [hfs,hb,hg];simp⟩ (by show T.columns.length-(c+1)<T.columns.length-c;omega) (Weak.keepL (by simp [RC,hwc,ends]) (by simp [RC,ze,ends]) (by simp [RC,ends]))
   ·refine zd [[1],[]] [] (c_rin T.primary c (by omega)) ?_
    simp -implicitDefEqProofs only [↓zb,push_cast,simprocAttr,tte]
    refine za (fun q3=>?_) fun q3=>?_
    ·rw [if_pos (by rw [w,u,q3];simp)] at hj
     refine ⟨(by first | omega | trivial | (refine ⟨?_,?_⟩<;>first | omega | trivial | (refine ⟨?_,?_⟩<;>first | omega | trivial | (refine ⟨?_,?_⟩<;>first | omega | trivial | rfl)))),?_⟩
     exact zw hJ (c+1,o3++[⟨3,k,c,n,0⟩],g) ⟨q',by simpa using hj,by simp;omega,by simp only [hfs,hb,hg];simp⟩ (by show T.columns.length-(c+1)<T.columns.length-c;omega) (Weak.keepL (by simp [RC,hwc,ends]) (by simp [RC,ze,ends]) (by simp [RC,ends]))
    ·rw [if_neg (by rw [w,u,q3];simp)] at hj
     exact zw hJ (c+1,o3,g) ⟨q',by simpa using hj,by simp only;omega,by simp only [hfs,hb,hg];simp⟩ (by show T.columns.length-(c+1)<T.columns.length-c;omega) (Weak.keepL (by simp [RC,hwc,ends]) (by simp [RC,ze,ends]) (by simp [RC,ends]))
  ·exfalso
   have:v.kind=0:=by simpa using v2
   rw [this] at w
   exact absurd w (by decide)
end
section
open Go.Am
attribute [local simp, local push_cast] num boo str ints aV aTab zA aS aT aC aRow rRow rTab vO rVio rB vT zV rE
def foundR (prim cols:List Int) (there:List Row) (r:Row):Bool:=(z7 r cols).any isK0 || there.any (vd prim (z7 r cols))
def jh (k x:Int) (prim cols:List Int) (there:List Row):List Row->Nat->List Vio
 | [],_=>[]
 | r::rs,n=>(if foundR prim cols there r=true then [] else [⟨6,k,x,n,0⟩])++jh k x prim cols there rs (n+1)
def rforM1 (s:Sch) (i:Inst) (fine:List Bool) (k:Nat) (f:Fk) (n:Nat):List Vio:=
 if fine.getD (yi s f) default=true then jh k n (s.getD (yi s f) default).primary f.columns (i.getD (yi s f) default) (i.getD k default) 0 else []
def jg (s:Sch) (i:Inst) (fine:List Bool) (k:Nat):List Fk->Nat->List Vio
 | [],_=>[]
 | f::fs,n=>rforM1 s i fine k f n++jg s i fine k fs (n+1)
def jb (k:Int) (rows:List Row):List (List Int)->Nat->List Vio
 | [],_=>[]
 | u::us,n=>wG 5 k n u false rows rows.length++jb k rows us (n+1)
def rconsM (s:Sch) (i:Inst) (fine:List Bool) (k:Nat):List Vio:=
 wG 4 k 0 (s.getD k default).primary true (i.getD k default) (i.getD k default).length++(jb k (i.getD k default) (s.getD k default).uniques 0++
  (jg s i fine k (s.getD k default).foreigns 0++wa k (i.getD k default) (s.getD k default).checks 0))
theorem rforGo_len (k x:Int) (prim cols:List Int) (there:List Row): ∀(rows:List Row) (n:Nat),(jh k x prim cols there rows n).length<=rows.length
 | [],_=>Nat.le_refl _
 | r::rs,n=>by
   have:=rforGo_len k x prim cols there rs (n+1)
   rw [jh,List.length_append,List.length_cons]
   split<;>simp<;>omega
theorem rforM1_len (s:Sch) (i:Inst) (fine:List Bool) (k:Nat) (f:Fk) (n:Nat):(rforM1 s i fine k f n).length<=(i.getD k default).length:=by
 unfold rforM1
 split
 ·exact rforGo_len ..
 ·simp
def vI (i:Inst):Ob:= .var [.d (.sl 1 (ze rTab i))]
def bD (fine:List Bool):A:= .d (.sl 1 (ze rB fine))
attribute [local simp, local push_cast] bD
def tS (s:Sch) (i:Inst) (fine:List Bool) (k:Nat) (T:Tbl) (rows:List Row) (o:List Vio):List (Nat×A):=
 [(2,num k),(3,bD fine),(4,.ptr 4 0),(5,.ptr 5 0),(9,.ptr 9 0),(10,aTab rows),(11,.vec 600 o.length)]
def oS (s:Sch) (i:Inst) (T:Tbl) (o:List Vio):List (Nat×Ob):=[(4,vS s),(5,vI i),(9,vT T),(600,vO o)]
def U5 (s:Sch) (i:Inst) (fine:List Bool) (k:Nat) (T:Tbl) (rows:List Row) (x:Nat×List Vio):SL:=⟨(12,.d (.lit (.int .i64 x.1)))::tS s i fine k T rows x.2,oS s i T x.2⟩
def V5 (s:Sch) (i:Inst) (fine:List Bool) (k:Nat) (T:Tbl) (rows:List Row) (x:Nat×List Vio):SL:=⟨(13,.d (.lit (.int .i64 x.1)))::tS s i fine k T rows x.2,oS s i T x.2⟩
def W5 (s:Sch) (i:Inst) (fine:List Bool) (k:Nat) (T:Tbl) (rows:List Row) (m to:Nat) (x:Nat×List Vio):SL:=
 ⟨(16,.d (.lit (.int .i64 x.1)))::(14,num to)::(13,.d (.lit (.int .i64 m)))::tS s i fine k T rows x.2,oS s i T x.2⟩
def X5 (s:Sch) (i:Inst) (fine:List Bool) (k:Nat) (T:Tbl) (rows:List Row) (m to n:Nat) (y:List Val) (o:List Vio) (x:Nat×Bool):SL:=
 ⟨(19,.d (.lit (.int .i64 x.1)))::(18,boo x.2)::(17,aRow y)::(16,.d (.lit (.int .i64 n)))::(14,num to)::(13,.d (.lit (.int .i64 m)))::tS s i fine k T rows o,oS s i T o⟩
def Y5 (s:Sch) (i:Inst) (fine:List Bool) (k:Nat) (T:Tbl) (rows:List Row) (x:Nat×List Vio):SL:=⟨(20,.d (.lit (.int .i64 x.1)))::tS s i fine k T rows x.2,oS s i T x.2⟩
def Z5 (s:Sch) (i:Inst) (fine:List Bool) (k:Nat) (T:Tbl) (rows:List Row) (q:Nat) (x:Nat×List Vio):SL:=
 ⟨(21,.d (.lit (.int .i64 x.1)))::(20,.d (.lit (.int .i64 q)))::tS s i fine k T rows x.2,oS s i T x.2⟩
theorem c_r9table (s:Sch) (i:Inst) (fine:List Bool) (k:Nat) (hS:SmallS s) (hG:GoodS s) (hI:SmallI i) (hks:k<s.length) (hil:i.length=s.length) (hfl:fine.length=s.length)
 (hF: ∀k,k<s.length->fine.getD k default=true-> ∀r∈i.getD k default,r.length=(s.getD k default).columns.length) (hfk:fine.getD k default=true) (V:List Vio) (hV:rconsM s i fine k=V):
 ACall Tryz.prog 85 [aS s,zA i,num k,bD fine] [] (.vec 1000 V.length) [(1000,vO V)]:=by
 have hsl:=hS.len
 have hTm:s.getD k default∈s:=zi hks
 have hRm:i.getD k default∈i:=zi (by omega)
 have hsm:=hS.tab _ hTm
 have hrl:=hI.tab _ hRm
 have hsh:=hF k hks hfk
 have hG1:=hG.prim _ hTm
 have hG2:=hG.uniq _ hTm
 have hG3:=hG.fors _ hTm
 have hp1:=hsm.prim
 have hu1:=hsm.uniq
 have hf1:=hsm.fors
 have hc1:=hsm.chk
 have inR: ∀{c:Int} {r:Row},r∈i.getD k default->inC (s.getD k default) c->0<=c/\c<r.length:=fun hr hc=>by rw [hsh _ hr];exact hc
 refine zp mixed ttok Tryz.func85 Tryz.ntmps85 Tryz.results85 ?_
 simp -implicitDefEqProofs only [argT,↓zb,push_cast,simprocAttr,tte]
 refine ⟨(by first | omega | trivial | (refine ⟨?_,?_⟩<;>first | omega | trivial | (refine ⟨?_,?_⟩<;>first | omega | trivial | (refine ⟨?_,?_⟩<;>first | omega | trivial | rfl)))),(by first | omega | trivial | (refine ⟨?_,?_⟩<;>first | omega | trivial | (refine ⟨?_,?_⟩<;>first | omega | trivial | (refine ⟨?_,?_⟩<;>first | omega | trivial | rfl)))),zg (by kernel_rfl),?_⟩
 generalize hT:s.getD k default=T at hTm hsm hsh hG1 hG2 hG3 hp1 hu1 hf1 hc1 inR ⊢
 obtain ⟨rows,hRows⟩: ∃rows,i.getD k default=rows:=⟨_,rfl⟩
 rw [rconsM,hT,hRows] at hV
 rw [hRows] at hrl hsh inR hRm ⊢
 refine zd [[],[],[],[1],[1],[]] [(1000,600)] (c_repeated 4 k 0 T.primary true rows hrl hp1 (fun r hr c hc=>inR hr (hG1 c hc))) ?_
 simp -implicitDefEqProofs only [↓zb,push_cast,simprocAttr,tte]
 have hl0:=kh 4 k 0 T.primary true rows rows.length
 generalize hK:wG 4 k 0 T.primary true rows rows.length=K0 at hl0 hV ⊢
 refine yc mixed ttok (fun x:Nat×List Vio=>U5 s i fine k T rows x) (fun x=>T.uniques.length-x.1)
  (fun x=>x.1<=T.uniques.length/\x.2++(jb k rows (T.uniques.drop x.1) x.1++(jg s i fine k T.foreigns 0++wa k rows T.checks 0))=V/\x.2.length<=1000 * (x.1+1)) (0,K0) ⟨Nat.zero_le _,by rw [<-hV];simp,by simp;omega⟩ ?_ ?_
 ·exact Weak.keepL (by simp [U5,tS,oS,ends]) (by simp [U5,oS,vS,vI,ends]) (by simp [U5,oS,ends])
 rintro I hI1 ⟨n,o2⟩ ⟨hn,hi,hol⟩
 simp only at hn hi hol
 simp -implicitDefEqProofs only [U5,tS,oS,bD,vS,vI,↓zb,push_cast,simprocAttr,tte]
 refine za (fun h=>?_) fun h=>?_
 ·have h':n<T.uniques.length:=by have:=of_decide_eq_true h;omega
  have hw:=zj h' (by omega)
  rw [zR T.uniques n h',jb] at hi
  have hum:=zi h'
  have hlk:=kh 5 k n (T.uniques.getD n default) false rows rows.length
  refine ⟨(by first | omega | trivial | (refine ⟨?_,?_⟩<;>first | omega | trivial | (refine ⟨?_,?_⟩<;>first | omega | trivial | (refine ⟨?_,?_⟩<;>first | omega | trivial | rfl)))),?_⟩
  refine zd [[],[],[],[1],[1],[]] [(1000,601)] (c_repeated 5 k n (T.uniques.getD n default) false rows hrl (hsm.uniqs _ hum) (fun r hr c hc=>inR hr (hG2 _ hum c hc))) ?_
  simp -implicitDefEqProofs only [↓zb,push_cast,simprocAttr,tte]
  generalize wG 5 k n (T.uniques.getD n default) false rows rows.length=K1 at hi hlk ⊢
  refine ⟨(by first | omega | trivial | (refine ⟨?_,?_⟩<;>first | omega | trivial | (refine ⟨?_,?_⟩<;>first | omega | trivial | (refine ⟨?_,?_⟩<;>first | omega | trivial | rfl)))),?_⟩
  exact zw hI1 (n+1,o2++K1) ⟨h',by simpa using hi,by simp;omega⟩ (by show T.uniques.length-(n+1)<T.uniques.length-n;omega) (Weak.keepL (by simp [U5,tS,oS,hw,ends]) (by simp [U5,oS,vS,vI,ze,ends]) (by simp [U5,oS,ends]))
 have hnn:n=T.uniques.length:=by have:=of_decide_eq_false h;omega
 rw [hnn,List.drop_length,jb,List.nil_append] at hi
 have holA:o2.length<=1001000:=by omega
 refine yc mixed ttok (fun x:Nat×List Vio=>V5 s i fine k T rows x) (fun x=>T.foreigns.length-x.1)
  (fun x=>x.1<=T.foreigns.length/\x.2++(jg s i fine k (T.foreigns.drop x.1) x.1++wa k rows T.checks 0)=V/\x.2.length<=1001000+1000 * x.1) (0,o2) ⟨Nat.zero_le _,hi,by simpa using holA⟩ ?_ ?_
 ·exact Weak.keepL (by simp [V5,tS,oS,bD,ends]) (by simp [V5,oS,vS,vI,ends]) (by simp [V5,oS,ends])
 rintro I2 hI2 ⟨m,o3⟩ ⟨hm,hi2,hol2⟩
 simp only at hm hi2 hol2
 simp -implicitDefEqProofs only [V5,tS,oS,bD,vS,vI,↓zb,push_cast,simprocAttr,tte]
 refine za (fun h2=>?_) fun h2=>?_
 ·have h2':m<T.foreigns.length:=by have:=of_decide_eq_true h2;omega
  have hw:=zj h2' (by omega)
  rw [zR T.foreigns m h2',jg] at hi2
  have hfm:=zi h2'
  have hlk:=rforM1_len s i fine k (T.foreigns.getD m default) m
  rw [hRows] at hlk
  obtain ⟨g1,g2,g3,g4⟩:=hG3 _ hfm
  have hTo:s.getD (yi s (T.foreigns.getD m default)) default∈s:=zi g2
  have hRo:i.getD (yi s (T.foreigns.getD m default)) default∈i:=zi (by omega)
  have hct:=qY s k m hsl hks (by rw [hT];exact h2')
  rw [hT] at hct
  have hfd:zV (byT s (T.foreigns.getD m default).table)= .tup [num (yi s (T.foreigns.getD m default)),boo true]:=by
   rw [g3];simp only [zV];rw [if_neg (by omega),decide_eq_true (by omega)]
  rw [hfd] at hct
  refine zd [[6],[],[]] [] (hct) ?_
  simp -implicitDefEqProofs only [↓zb,push_cast,simprocAttr,tte]
  have hlo:(i.getD (yi s (T.foreigns.getD m default)) default).length<=1000:=hI.tab _ hRo
  have hpo:(s.getD (yi s (T.foreigns.getD m default)) default).primary.length<=1000:=(hS.tab _ hTo).prim
  have hco:=hsm.forss _ hfm
  have hto:fine.getD (yi s (T.foreigns.getD m default)) default=true-> ∀r∈i.getD (yi s (T.foreigns.getD m default)) default,∀c∈(s.getD (yi s (T.foreigns.getD m default)) default).primary,0<=c/\c<r.length:=
   fun hb r hr c hc=>by rw [hF _ g2 hb r hr];exact hG.prim _ hTo c hc
  rw [rforM1,hRows] at hi2 hlk
  generalize hfe:T.foreigns.getD m default=f at hi2 hlk g1 g2 hlo hpo hco hto ⊢
  generalize yi s f=to at hi2 hlk g2 hlo hpo hto ⊢
  refine yc mixed ttok (fun x:Nat×List Vio=>W5 s i fine k T rows m to x) (fun x=>rows.length-x.1)
   (fun x=>x.1<=rows.length/\x.2++((if fine.getD to default=true then jh k m (s.getD to default).primary f.columns (i.getD to default) (rows.drop x.1) x.1 else [])++(jg s i fine k (T.foreigns.drop (m+1)) (m+1)++wa k rows T.checks 0))=V/\x.2.length<=o3.length+x.1) (0,o3) ⟨Nat.zero_le _,by simpa using hi2,Nat.le_refl _⟩ ?_ ?_
  ·exact (Weak.keepL (by simp [W5,tS,oS,ends]) (by simp [W5,oS,vS,vI,ends]) (by simp [W5,oS,ends]))
  rintro I3 hI3 ⟨n3,o4⟩ ⟨hn3,hi3,hol3⟩
  simp only at hn3 hi3 hol3
  simp -implicitDefEqProofs only [W5,tS,oS,bD,vS,vI,↓zb,push_cast,simprocAttr,tte]
  refine za (fun h3=>?_) fun h3=>?_
  rotate_left
  ·have hnn3:n3=rows.length:=by have:=of_decide_eq_false h3;omega
   rw [hnn3,List.drop_length,jh,ite_self,List.nil_append] at hi3
   exact zw hI2 (m+1,o4) ⟨h2',hi3,by simp only;omega⟩ (by show T.foreigns.length-(m+1)<T.foreigns.length-m;omega) (Weak.keepL (by simp [V5,tS,oS,hw,ends]) (by simp [V5,oS,vS,vI,ends]) (by simp [V5,oS,ends]))
  have h3':n3<rows.length:=by have:=of_decide_eq_true h3;omega
  have hw3:=zj h3' (by omega)
  refine ⟨(by first | omega | trivial | (refine ⟨?_,?_⟩<;>first | omega | trivial | (refine ⟨?_,?_⟩<;>first | omega | trivial | (refine ⟨?_,?_⟩<;>first | omega | trivial | rfl)))),?_⟩
  refine za (fun hfv=>?_) fun hfv=>?_
  rotate_left
  ·rw [hfv,if_neg (by decide),List.nil_append] at hi3
   exact zw hI2 (m+1,o4) ⟨h2',hi3,by simp only;omega⟩ (by show T.foreigns.length-(m+1)<T.foreigns.length-m;omega) (Weak.keepL (by simp [V5,tS,oS,hw,ends]) (by simp [V5,oS,vS,vI,ends]) (by simp [V5,oS,ends]))
  ·rw [hfv,if_pos rfl,zR rows n3 h3',jh] at hi3
   refine ⟨(by first | omega | trivial | (refine ⟨?_,?_⟩<;>first | omega | trivial | (refine ⟨?_,?_⟩<;>first | omega | trivial | (refine ⟨?_,?_⟩<;>first | omega | trivial | rfl)))),(by first | omega | trivial | (refine ⟨?_,?_⟩<;>first | omega | trivial | (refine ⟨?_,?_⟩<;>first | omega | trivial | (refine ⟨?_,?_⟩<;>first | omega | trivial | rfl)))),?_⟩
   have hrm:rows.getD n3 default∈rows:=zi h3'
   generalize hrn:rows.getD n3 default=r at hi3 hrm ⊢
   rw [hfe]
   refine zd [[3],[1]] [] (c_rpick r f.columns (by omega) (fun c hc=>inR hrm (g1 c hc))) ?_
   simp -implicitDefEqProofs only [↓zb,push_cast,simprocAttr,tte]
   refine ⟨zg (by kernel_rfl),?_⟩
   rw [foundR] at hi3
   have hyl:(z7 r f.columns).length<=1000:=by simp [z7];omega
   generalize hy:z7 r f.columns=y at hi3 hyl ⊢
   refine zd [[3]] [] (c_rnull y (by omega)) ?_
   simp -implicitDefEqProofs only [↓zb,push_cast,simprocAttr,tte]
   have hthere:=hto hfv
   obtain ⟨prim,hP⟩: ∃x,(s.getD to default).primary=x:=⟨_,rfl⟩
   obtain ⟨there,hQ⟩: ∃x,i.getD to default=x:=⟨_,rfl⟩
   rw [hP] at hi3 hpo hthere
   rw [hQ] at hi3 hlo hthere
   refine yc mixed ttok (fun x:Nat×Bool=>X5 s i fine k T rows m to n3 y o4 x) (fun x=>there.length-x.1)
    (fun x=>x.1<=there.length/\x.2=(y.any isK0 || (there.take x.1).any (vd prim y))) (0,y.any isK0) ⟨Nat.zero_le _,by simp⟩ ?_ ?_
   ·exact (Weak.keepL (by simp [X5,tS,oS,ends]) (by simp [X5,oS,vS,vI,ends]) (by simp [X5,oS,ends]))
   rintro I4 hI4 ⟨j,fd⟩ ⟨hj,hfd⟩
   simp only at hj hfd
   cases fd with
   | true=>
     have hfo:(y.any isK0 || there.any (vd prim y))=true:=by
      cases hyk:y.any isK0 with
      | true=>rfl
      | false=>
        rw [hyk,Bool.false_or] at hfd
        obtain ⟨q,hq1,hq2⟩:=List.any_eq_true.1 hfd.symm
        exact List.any_eq_true.2 ⟨q,List.mem_of_mem_take hq1,hq2⟩
     simp -implicitDefEqProofs only [X5,tS,oS,bD,vS,vI,↓zb,push_cast,simprocAttr,tte]
     refine ⟨(by first | omega | trivial | (refine ⟨?_,?_⟩<;>first | omega | trivial | (refine ⟨?_,?_⟩<;>first | omega | trivial | (refine ⟨?_,?_⟩<;>first | omega | trivial | rfl)))),?_⟩
     refine za (fun h4=>?_) fun h4=>?_
     ·rw [if_pos hfo,List.nil_append] at hi3
      exact zw hI3 (n3+1,o4) ⟨h3',by rw [hfv,if_pos rfl,hP,hQ];simpa using hi3,by simp only;omega⟩ (by show rows.length-(n3+1)<rows.length-n3;omega) (Weak.keepL (by simp [W5,tS,oS,hw3,ends]) (by simp [W5,oS,vS,vI,ends]) (by simp [W5,oS,ends]))
     ·rw [if_pos hfo,List.nil_append] at hi3
      exact zw hI3 (n3+1,o4) ⟨h3',by rw [hfv,if_pos rfl,hP,hQ];simpa using hi3,by simp only;omega⟩ (by show rows.length-(n3+1)<rows.length-n3;omega) (Weak.keepL (by simp [W5,tS,oS,hw3,ends]) (by simp [W5,oS,vS,vI,ends]) (by simp [W5,oS,ends]))
   | false=>
     simp -implicitDefEqProofs only [X5,tS,oS,bD,vS,vI,↓zb,push_cast,simprocAttr,tte]
     refine ⟨(by first | omega | trivial | (refine ⟨?_,?_⟩<;>first | omega | trivial | (refine ⟨?_,?_⟩<;>first | omega | trivial | (refine ⟨?_,?_⟩<;>first | omega | trivial | rfl)))),?_⟩
     refine za (fun h4=>?_) fun h4=>?_
     rotate_left
     ·rw [hQ] at h4
      have hjj:j=there.length:=by have:=of_decide_eq_false h4;omega
      rw [hjj,List.take_length] at hfd
      have hfo: ¬(y.any isK0 || there.any (vd prim y))=true:=by rw [<-hfd];decide
      rw [if_neg hfo] at hi3
      refine ⟨(by first | omega | trivial | (refine ⟨?_,?_⟩<;>first | omega | trivial | (refine ⟨?_,?_⟩<;>first | omega | trivial | (refine ⟨?_,?_⟩<;>first | omega | trivial | rfl)))),?_⟩
      exact zw hI3 (n3+1,o4++[⟨6,k,m,n3,0⟩]) ⟨h3',by rw [hfv,if_pos rfl,hP,hQ];simpa using hi3,by simp;omega⟩ (by show rows.length-(n3+1)<rows.length-n3;omega) (Weak.keepL (by simp [W5,tS,oS,hw3,ends]) (by simp [W5,oS,vS,vI,ze,ends]) (by simp [W5,oS,ends]))
     rw [hQ] at h4
     have h4':j<there.length:=by have:=of_decide_eq_true h4;omega
     have hw4:=zj h4' (by omega)
     have hqm:there.getD j default∈there:=zi h4'
     refine ⟨(by first | omega | trivial | (refine ⟨?_,?_⟩<;>first | omega | trivial | (refine ⟨?_,?_⟩<;>first | omega | trivial | (refine ⟨?_,?_⟩<;>first | omega | trivial | rfl)))),by rw [hQ];omega,(by first | omega | trivial | (refine ⟨?_,?_⟩<;>first | omega | trivial | (refine ⟨?_,?_⟩<;>first | omega | trivial | (refine ⟨?_,?_⟩<;>first | omega | trivial | rfl)))),?_⟩
     refine zd [[3],[1]] [] (c_rpick ((i.getD to default).getD j default) (s.getD to default).primary (by rw [hP];omega) (by rw [hP,hQ];exact hthere _ hqm)) ?_
     simp -implicitDefEqProofs only [↓zb,push_cast,simprocAttr,tte]
     refine zd [[3],[3]] [] (c_cmpRows (z7 ((i.getD to default).getD j default) (s.getD to default).primary) y (by rw [hP];simp only [z7,List.length_map];omega)) ?_
     simp -implicitDefEqProofs only [↓zb,push_cast,simprocAttr,tte]
     have hfa:=Bool.or_eq_false_iff.1 hfd.symm
     refine ⟨zg (by kernel_rfl),?_⟩
     have hnew:(cmpR (z7 ((i.getD to default).getD j default) (s.getD to default).primary) y==0)=(y.any isK0 || (there.take (j+1)).any (vd prim y)):=by
      rw [zH there j h4',List.any_append,hfa.1,hfa.2,hP,hQ]
      simp [vd]
     exact zw hI4 (j+1,cmpR (z7 ((i.getD to default).getD j default) (s.getD to default).primary) y==0) ⟨h4',hnew⟩ (by show there.length-(j+1)<there.length-j;omega) (Weak.keepL (by simp [X5,tS,oS,hw4,ends]) (by simp [X5,oS,vS,vI,ends]) (by simp [X5,oS,ends]))
 have hmm:m=T.foreigns.length:=by have:=of_decide_eq_false h2;omega
 rw [hmm,List.drop_length,jg,List.nil_append] at hi2
 have holB:o3.length<=2001000:=by omega
 refine yc mixed ttok (fun x:Nat×List Vio=>Y5 s i fine k T rows x) (fun x=>T.checks.length-x.1)
  (fun x=>x.1<=T.checks.length/\x.2++wa k rows (T.checks.drop x.1) x.1=V/\x.2.length<=2001000+1000 * x.1) (0,o3) ⟨Nat.zero_le _,hi2,by simpa using holB⟩ ?_ ?_
 ·exact (Weak.keepL (by simp [Y5,tS,oS,ends]) (by simp [Y5,oS,vS,vI,ends]) (by simp [Y5,oS,ends]))
 rintro I3 hI3 ⟨q,o4⟩ ⟨hq,hi3,hol3⟩
 simp only at hq hi3 hol3
 simp -implicitDefEqProofs only [Y5,tS,oS,bD,vS,vI,↓zb,push_cast,simprocAttr,tte]
 refine za (fun h3=>?_) fun h3=>?_
 rotate_left
 ·have hqq:q=T.checks.length:=by have:=of_decide_eq_false h3;omega
  rw [hqq,List.drop_length,wa,List.append_nil] at hi3
  rw [<-hi3]
  exact ret_vec 600 trivial (by omega) rfl rfl ⟨.inl (by omega),.inl (by omega),.inl (by omega),.inl (by omega),trivial⟩
 have h3':q<T.checks.length:=by have:=of_decide_eq_true h3;omega
 have hw:=zj h3' (by omega)
 rw [zR T.checks q h3',wa] at hi3
 have hem:=hsm.chks _ (zi h3')
 have hlc:=qW k q (T.checks.getD q default) rows 0
 generalize hge:T.checks.getD q default=e at hi3 hem hlc
 refine yc mixed ttok (fun x:Nat×List Vio=>Z5 s i fine k T rows q x) (fun x=>rows.length-x.1)
  (fun x=>x.1<=rows.length/\x.2++(chkR k q e (rows.drop x.1) x.1++wa k rows (T.checks.drop (q+1)) (q+1))=V/\x.2.length<=o4.length+x.1) (0,o4) ⟨Nat.zero_le _,hi3,Nat.le_refl _⟩ ?_ ?_
 ·exact (Weak.keepL (by simp [Z5,tS,oS,ends]) (by simp [Z5,oS,vS,vI,ends]) (by simp [Z5,oS,ends]))
 rintro I4 hI4 ⟨n,o5⟩ ⟨hn5,hi4,hol4⟩
 simp only at hn5 hi4 hol4
 simp -implicitDefEqProofs only [Z5,tS,oS,bD,vS,vI,↓zb,push_cast,simprocAttr,tte]
 refine za (fun h4=>?_) fun h4=>?_
 rotate_left
 ·have hnn5:n=rows.length:=by have:=of_decide_eq_false h4;omega
  rw [hnn5,List.drop_length,chkR,List.nil_append] at hi4
  exact zw hI3 (q+1,o5) ⟨h3',hi4,by simp only;omega⟩ (by show T.checks.length-(q+1)<T.checks.length-q;omega) (Weak.keepL (by simp [Y5,tS,oS,hw,ends]) (by simp [Y5,oS,vS,vI,ends]) (by simp [Y5,oS,ends]))
 have h4':n<rows.length:=by have:=of_decide_eq_true h4;omega
 have hw4:=zj h4' (by omega)
 rw [zR rows n h4',chkR] at hi4
 refine ⟨(by first | omega | trivial | (refine ⟨?_,?_⟩<;>first | omega | trivial | (refine ⟨?_,?_⟩<;>first | omega | trivial | (refine ⟨?_,?_⟩<;>first | omega | trivial | rfl)))),(by first | omega | trivial | (refine ⟨?_,?_⟩<;>first | omega | trivial | (refine ⟨?_,?_⟩<;>first | omega | trivial | (refine ⟨?_,?_⟩<;>first | omega | trivial | rfl)))),?_⟩
 rw [hge]
 generalize rows.getD n default=r at hi4 ⊢
 refine zd [[0,0,0,0,0,6],[3]] [] (c_reval r e hem) ?_
 simp -implicitDefEqProofs only [↓zb,push_cast,simprocAttr,tte]
 refine zd [[0,0,0]] [] (vp (xN r e)) ?_
 simp -implicitDefEqProofs only [↓zb,push_cast,simprocAttr,tte]
 refine ⟨zg (by kernel_rfl),?_⟩
 refine za (fun h5=>?_) fun h5=>?_
 ·have h5':zP (xN r e)=0:=by simpa using h5
  rw [chk1,if_pos h5'] at hi4
  refine ⟨(by first | omega | trivial | (refine ⟨?_,?_⟩<;>first | omega | trivial | (refine ⟨?_,?_⟩<;>first | omega | trivial | (refine ⟨?_,?_⟩<;>first | omega | trivial | rfl)))),?_⟩
  exact zw hI4 (n+1,o5++[⟨7,k,q,n,0⟩]) ⟨h4',by simpa using hi4,by simp;omega⟩ (by show rows.length-(n+1)<rows.length-n;omega) (Weak.keepL (by simp [Z5,tS,oS,hw4,ends]) (by simp [Z5,oS,vS,vI,ze,ends]) (by simp [Z5,oS,ends]))
 ·have h5': ¬zP (xN r e)=0:=by simpa using h5
  rw [chk1,if_neg h5'] at hi4
  exact zw hI4 (n+1,o5) ⟨h4',by simpa using hi4,by simp only;omega⟩ (by show rows.length-(n+1)<rows.length-n;omega) (Weak.keepL (by simp [Z5,tS,oS,hw4,ends]) (by simp [Z5,oS,vS,vI,ends]) (by simp [Z5,oS,ends]))
end
section
open Go.Am
theorem found_eq {T U:Tbl} {cols prim:List Int} (hk:xm T U cols prim=true) (ha: ∀c∈cols,inC T c) (hb: ∀c∈prim,inC U c) {there:List Row} (ht: ∀q∈there,misM U q=false) {r:Row} (hr:misM T r=false):
 foundR prim cols there r=true ↔ ((z7 r cols).any yF=true\/zN (z7 r cols)∈there.map fun q=>zN (z7 q prim)):=by
 rw [foundR,Bool.or_eq_true,any_congr (part_null ha hr)]
 refine or_congr Iff.rfl ?_
 rw [List.any_eq_true,List.mem_map]
 constructor
 ·rintro ⟨q,hq,e⟩
  rw [vd,beq_iff_eq,cmpR_eq] at e
  exact ⟨q,hq,by rw [e]⟩
 ·rintro ⟨q,hq,e⟩
  refine ⟨q,hq,?_⟩
  rw [vd,beq_iff_eq,cmpR_eq]
  exact (text_inj2 hk ha hb hr (ht q hq) e.symm).symm
theorem for_eq (k x:Int) {T U:Tbl} {cols prim:List Int} (hk:xm T U cols prim=true) (ha: ∀c∈cols,inC T c) (hb: ∀c∈prim,inC U c) {there:List Row} (ht: ∀q∈there,misM U q=false):
 ∀(rows:List Row) (n:Nat),(∀r∈rows,misM T r=false)->jh k x prim cols there rows n=uN k x cols (there.map fun q=>zN (z7 q prim)) rows n
 | [],_,_=>rfl
 | r::rs,n,h=>by
   have hf:=found_eq hk ha hb ht (h r List.mem_cons_self)
   rw [jh,uN,for_eq k x hk ha hb ht rs (n+1) fun q hq=>h q (List.mem_cons_of_mem _ hq)]
   by_cases h1:(z7 r cols).any yF=true
   ·rw [if_pos h1,if_pos (hf.2 (.inl h1)),List.nil_append]
   ·rw [if_neg h1]
    by_cases h2:zN (z7 r cols)∈there.map fun q=>zN (z7 q prim)
    ·rw [if_pos h2,if_pos (hf.2 (.inr h2)),List.nil_append]
    ·rw [if_neg h2,if_neg fun q=>(hf.1 q).elim h1 h2];rfl
theorem uniqs_eq (k:Int) {T:Tbl} {rows:List Row} (h: ∀r∈rows,misM T r=false): ∀(us:List (List Int)) (n:Nat),(∀u∈us,∀c∈u,inC T c)->jb k rows us n=wN k rows us n
 | [],_,_=>rfl
 | u::us,n,hu=>by
   rw [jb,wN,uniqs_eq k h us (n+1) fun v hv=>hu v (List.mem_cons_of_mem _ hv),key_eq _ _ _ (text_ok (hu u List.mem_cons_self) h)]
theorem fors_eq {s:Sch} {i:Inst} {b fine:List Bool} {k:Nat} {T:Tbl} (hG:GoodS s) (hb: ∀k,k<s.length->fine.getD k default= !b.getD k default) (hfit: ∀k,k<s.length->b.getD k default=false-> ∀r∈i.getD k default,misM (s.getD k default) r=false)
 (h: ∀r∈i.getD k default,misM T r=false): ∀(fs:List Fk) (n:Nat),(∀f∈fs,(∀c∈f.columns,inC T c)/\yi s f<s.length/\xm T (s.getD (yi s f) default) f.columns (s.getD (yi s f) default).primary=true)->
 jg s i fine k fs n=ut s i b k fs n
 | [],_,_=>rfl
 | f::fs,n,hf=>by
   obtain ⟨g1,g2,g3⟩:=hf f List.mem_cons_self
   rw [jg,ut,fors_eq hG hb hfit h fs (n+1) fun v hv=>hf v (List.mem_cons_of_mem _ hv),rforM1,forM1,uc,hb _ g2]
   congr 1
   cases hbt:b.getD (yi s f) default with
   | true=>rw [if_neg (by decide),if_pos rfl]
   | false=>
     rw [if_pos (by decide),if_neg (by decide)]
     exact for_eq _ _ g3 g1 (hG.prim _ (zi g2)) (hfit _ g2 hbt) _ _ h
theorem cons_eq {s:Sch} {i:Inst} {b fine:List Bool} {k:Nat} (hG:GoodS s) (hks:k<s.length) (hb: ∀k,k<s.length->fine.getD k default= !b.getD k default)
 (hfit: ∀k,k<s.length->b.getD k default=false-> ∀r∈i.getD k default,misM (s.getD k default) r=false) (hbk:b.getD k default=false):rconsM s i fine k=jU s i b k:=by
 have hT:=zi hks
 have h:=hfit k hks hbk
 rw [rconsM,jU,key_eq _ _ _ (text_ok (hG.prim _ hT) h),uniqs_eq k h _ _ (hG.uniq _ hT),fors_eq hG hb hfit h _ _ fun f hf=>⟨(hG.fors _ hT f hf).1,(hG.fors _ hT f hf).2.1,(hG.fors _ hT f hf).2.2.2⟩]
theorem bads_fit (s:Sch) (i:Inst): ∀k,k<s.length->(uj s i).getD k default=false-> ∀r∈i.getD k default,misM (s.getD k default) r=false:=by
 intro k hk hb r hr
 rw [gd s i hk,bad1,List.any_eq_false] at hb
 have:=hb r hr
 simpa using this
def fineM (s:Sch) (i:Inst):List Bool:=(List.range s.length).map fun k=> !bad1 s i k
theorem fineM_len (s:Sch) (i:Inst):(fineM s i).length=s.length:=by simp [fineM]
theorem fineM_at (s:Sch) (i:Inst): ∀k,k<s.length->(fineM s i).getD k default= !(uj s i).getD k default:=by
 intro k hk
 rw [gd s i hk]
 simp [fineM,List.getD_eq_getElem?_getD,hk]
end
section
open Go.Am
attribute [local simp, local push_cast] num boo str ints aV aTab zA aS aT aC aRow rRow rTab vO rVio rB vT zV rE bD
def N9 (s:Sch) (i:Inst) (n:Nat):SL:=
 ⟨[(8,.d (.lit (.int .i64 n))),(7,.vec 500 n),(2,.ptr 2 0),(3,.ptr 3 0)],
  [(2,vS s),(3,vI i),(500,.vec 4 1 (ze rB ((List.range n).map fun k=> !bad1 s i k)) 0)]⟩
def M9 (s:Sch) (i:Inst) (fine:List Bool) (x:Nat×List Vio):SL:=
 ⟨[(12,.d (.lit (.int .i64 x.1))),(11,.vec 600 x.2.length),(7,bD fine),(2,.ptr 2 0),(3,.ptr 3 0)],[(2,vS s),(3,vI i),(600,vO x.2)]⟩
theorem c_rvio (s:Sch) (i:Inst) (hS:SmallS s) (hI:SmallI i):
 ACall Tryz.prog 45 [aS s,zA i] [] (.tup [.d (.sl 5 (ze rVio (vioM s i).1)),num (vioM s i).2]) []:=by
 refine zp mixed ttok Tryz.func45 Tryz.ntmps45 Tryz.results45 ?_
 generalize hvm:vioM s i=vm
 have hsl:=hS.len
 have hil:=hI.len
 simp -implicitDefEqProofs only [argT,↓zb,push_cast,simprocAttr,tte]
 refine zd [[6]] [] (c_rsvalid s hS) ?_
 simp -implicitDefEqProofs only [↓zb,push_cast,simprocAttr,tte]
 refine za (fun h0=>?_) fun h0=>?_
 ·have h0':yq s≠0:=by simpa using h0
  rw [<-hvm,vioM,if_pos h0']
  exact zm [[5],[]] rfl (by simp) (by simp) rfl (by simp [ends]) trivial (by simp [ends])
 have h0': ¬yq s≠0:=by simpa using h0
 refine za (fun h1=>?_) fun h1=>?_
 ·have h1':(i.length:Int)≠s.length:=by simpa using h1
  rw [<-hvm,vioM,if_neg h0',if_pos h1']
  exact zm [[5],[]] rfl (by simp) (by simp) rfl (by simp [ends]) trivial (by simp [ends])
 have h1': ¬(i.length:Int)≠s.length:=by simpa using h1
 have hlen:i.length=s.length:=by omega
 have hG:=u5 (s:=s) (by omega)
 have hM:vm=(allM s i (uj s i) s.length,0):=by rw [<-hvm,vioM,if_neg h0',if_neg h1']
 subst hM
 clear hvm
 refine yc mixed ttok (fun n:Nat=>N9 s i n) (fun n=>s.length-n) (fun n=>n<=s.length) 0 (Nat.zero_le _) ?_ ?_
 ·exact (Weak.nilL 7 500 4 1 rfl rfl).trans (Weak.keepL (by simp [N9,ends]) (by simp [N9,vS,vI,ze,ends]) (by simp [N9,ends]))
 intro J hJ n hn
 have hbl:((List.range n).map fun k=> !bad1 s i k).length=n:=by simp
 simp -implicitDefEqProofs only [N9,vS,vI,↓zb,push_cast,simprocAttr,tte]
 refine za (fun h=>?_) fun h=>?_
 ·have h':n<s.length:=by have:=of_decide_eq_true h;omega
  have hw:=zj h' (by omega)
  have hRm:i.getD n default∈i:=zi (by omega)
  have hTm:s.getD n default∈s:=zi h'
  refine ⟨(by first | omega | trivial | (refine ⟨?_,?_⟩<;>first | omega | trivial | (refine ⟨?_,?_⟩<;>first | omega | trivial | (refine ⟨?_,?_⟩<;>first | omega | trivial | rfl)))),by omega,?_⟩
  refine zd [[0,3,1,1,2,6],[],[1]] [] (c_rrows (s.getD n default) n (i.getD n default) (hI.tab _ hRm) (hI.row _ hRm) (hS.tab _ hTm).prim) ?_
  have hb1:(i.getD n default).any (misM (s.getD n default))=bad1 s i n:=rfl
  rw [hb1]
  simp -implicitDefEqProofs only [↓zb,push_cast,simprocAttr,tte]
  have hs:(List.range (n+1)).map (fun k=> !bad1 s i k)=((List.range n).map fun k=> !bad1 s i k)++[!bad1 s i n]:=by simp [List.range_succ]
  refine ⟨zg (by kernel_rfl),⟨hbl.symm,by rw [hbl];omega⟩,?_⟩
  exact zw hJ (n+1) h' (by show s.length-(n+1)<s.length-n;omega) (Weak.keepL (by simp [N9,hw,ends]) (by simp [N9,vS,vI,hs,ze,ends]) (by simp [N9,ends]))
 have hnn:n=s.length:=by have:=of_decide_eq_false h;omega
 subst hnn
 have hfe:((List.range s.length).map fun k=> !bad1 s i k)=fineM s i:=rfl
 have hfl:=fineM_len s i
 have hfa:=fineM_at s i
 have hbf:=bads_fit s i
 have hsh:=shape_bads s i
 rw [hfe]
 clear hfe hJ J
 generalize fineM s i=fine at hfl hfa ⊢
 generalize uj s i=b at hfa hbf hsh ⊢
 have hF: ∀k,k<s.length->fine.getD k default=true-> ∀r∈i.getD k default,r.length=(s.getD k default).columns.length:=fun k hk hf=>hsh k hk (by have:=hfa k hk;rw [hf] at this;simpa using this.symm)
 refine yc mixed ttok (fun n:Nat=>M9 s i fine (n,allM s i b n)) (fun n=>s.length-n) (fun n=>n<=s.length/\(allM s i b n).length<=5000000 * n) 0 ⟨Nat.zero_le _,by simp [allM]⟩ ?_ ?_
 ·refine (Weak.frzSlotL 7 1 rfl (by simp [zc,hfl])).trans ?_
  refine (Weak.nilL 11 600 173 5 rfl rfl).trans ?_
  exact Weak.keepL (by simp [M9,allM,ends]) (by simp [M9,vS,vI,allM,ze,ends]) (by simp [M9,ends])
 rintro J hJ n ⟨hn,hal⟩
 have hsn:=allM_succ s i b n
 simp -implicitDefEqProofs only [M9,vS,vI,↓zb,push_cast,simprocAttr,tte]
 refine za (fun h2=>?_) fun h2=>?_
 ·have h':n<s.length:=by have:=of_decide_eq_true h2;omega
  have hw:=zj h' (by omega)
  have hRm:i.getD n default∈i:=zi (by omega)
  have hTm:s.getD n default∈s:=zi h'
  have htl:=tabM_len hS hI b h' (by omega)
  have hrv:(yr (s.getD n default) n (i.getD n default) 0).length<=5000000:=by unfold tabM at htl;rw [List.length_append] at htl;omega
  refine ⟨(by first | omega | trivial | (refine ⟨?_,?_⟩<;>first | omega | trivial | (refine ⟨?_,?_⟩<;>first | omega | trivial | (refine ⟨?_,?_⟩<;>first | omega | trivial | rfl)))),by omega,?_⟩
  refine zd [[0,3,1,1,2,6],[],[1]] [] (c_rrows (s.getD n default) n (i.getD n default) (hI.tab _ hRm) (hI.row _ hRm) (hS.tab _ hTm).prim) ?_
  simp -implicitDefEqProofs only [↓zb,push_cast,simprocAttr,tte]
  refine ⟨zg (by kernel_rfl),(by first | omega | trivial | (refine ⟨?_,?_⟩<;>first | omega | trivial | (refine ⟨?_,?_⟩<;>first | omega | trivial | (refine ⟨?_,?_⟩<;>first | omega | trivial | rfl)))),(by first | omega | trivial | (refine ⟨?_,?_⟩<;>first | omega | trivial | (refine ⟨?_,?_⟩<;>first | omega | trivial | (refine ⟨?_,?_⟩<;>first | omega | trivial | rfl)))),?_⟩
  have hfn:=hfa n h'
  refine za (fun hb=>?_) fun hb=>?_
  ·have hbn:b.getD n default=false:=by rw [hb] at hfn;simpa using hfn.symm
   have ht:tabM s i b n=yr (s.getD n default) n (i.getD n default) 0++jU s i b n:=by rw [tabM,if_neg (by rw [hbn];decide)]
   rw [ht] at hsn htl
   have hc2:=c_r9table s i fine n hS hG hI h' hlen hfl hF hb (jU s i b n) (cons_eq hG h' hfa hbf hbn)
   refine zd [[6],[1],[],[1]] [(1000,601)] (hc2) ?_
   simp -implicitDefEqProofs only [↓zb,push_cast,simprocAttr,tte]
   rw [List.length_append] at htl
   refine ⟨by simp only [List.length_append,zc,true_and];omega,?_⟩
   exact zw hJ (n+1) ⟨h',by rw [hsn,List.length_append,List.length_append];omega⟩ (by show s.length-(n+1)<s.length-n;omega) (Weak.keepL (by simp [M9,hw,hsn,zc,Nat.add_assoc,ends]) (by simp [M9,vS,vI,hsn,ze,ends]) (by simp [M9,ends]))
  ·have hbn:b.getD n default=true:=by rw [hb] at hfn;simpa using hfn.symm
   have ht:tabM s i b n=yr (s.getD n default) n (i.getD n default) 0:=by rw [tabM,if_pos hbn,List.append_nil]
   rw [ht] at hsn htl
   exact zw hJ (n+1) ⟨h',by rw [hsn,List.length_append];omega⟩ (by show s.length-(n+1)<s.length-n;omega) (Weak.keepL (by simp [M9,hw,hsn,ends]) (by simp [M9,vS,vI,hsn,ze,ends]) (by simp [M9,ends]))
 have hnn:n=s.length:=by have:=of_decide_eq_false h2;omega
 subst hnn
 exact zm [[5],[]] rfl (by simp) (by simp [zc]) rfl (by simp [ends]) trivial (by simp [ends])
theorem c_rvalidI (s:Sch) (i:Inst) (hS:SmallS s) (hI:SmallI i):ACall Tryz.prog 12 [aS s,zA i] [] (boo (xi s i)) []:=by
 refine zp mixed ttok Tryz.func12 Tryz.ntmps12 Tryz.results12 ?_
 generalize hr:boo (xi s i)=R
 simp -implicitDefEqProofs only [argT,↓zb,push_cast,simprocAttr,tte]
 have hc:=c_rvio s i hS hI
 refine zd [[6],[1]] [] (hc) ?_
 simp -implicitDefEqProofs only [↓zb,push_cast,simprocAttr,tte]
 have hv:xi s i=(((vioM s i).2==0)&&((vioM s i).1.length==0)):=rfl
 cases h0:((vioM s i).2==0) with
 | false=>
   simp -implicitDefEqProofs only [h0,↓zb,push_cast,simprocAttr,tte]
   refine zr [0] rfl (by simp) (by simp [zc]<;>omega) ?_ (by first | rfl | simp [ends] | (subst_vars;simp [ends])) (by simp [ends]) (by simp [ends])
   rw [<-hr,hv,h0];rfl
 | true=>
   simp -implicitDefEqProofs only [h0,↓zb,push_cast,simprocAttr,tte]
   refine zr [0] rfl (by simp) (by simp [zc]<;>omega) ?_ (by first | rfl | simp [ends] | (subst_vars;simp [ends])) (by simp [ends]) (by simp [ends])
   rw [<-hr,hv,h0,Bool.true_and]
   have he:(((vioM s i).1.length:Int)==0)=((vioM s i).1.length==0):=by
    rw [Bool.eq_iff_iff,beq_iff_eq,beq_iff_eq]
    omega
   rw [<-he];rfl
end
section
open Go.Am
theorem cell_nil (T:Tbl) (k:Int) (n c:Nat) (v:Val):vH T k n c v=[] ↔ vH T k 0 c v=[]:=by
 unfold vH
 split
 ·simp
 ·split<;>simp
theorem cells_nil (T:Tbl) (k:Int) (n:Nat): ∀(r:List Val) (c:Nat),yM T k n r c=[] ↔ yM T k 0 r c=[]
 | [],_=>Iff.rfl
 | v::r,c=>by rw [yM,yM,List.append_eq_nil_iff,List.append_eq_nil_iff,cell_nil,cells_nil T k n r (c+1)]
theorem row_nil (T:Tbl) (k:Int) (n:Nat) (r:Row):rowVio T k n r=[] ↔ rowVio T k 0 r=[]:=by
 unfold rowVio
 split
 ·simp
 ·exact cells_nil ..
theorem rows_nil (T:Tbl) (k:Int): ∀(rows:List Row) (n:Nat),yr T k rows n=[] ↔ ∀r∈rows,rowVio T k 0 r=[]
 | [],_=>by simp [yr]
 | r::rs,n=>by rw [yr,List.append_eq_nil_iff,row_nil,rows_nil T k rs (n+1)];simp
def jG (cols:List Int) (nulls:Bool) (rows:List Row):List ByteArray:=(rows.filter (jy cols nulls)).map fun r=>zN (z7 r cols)
theorem key_nil (kind table index:Int) (cols:List Int) (nulls:Bool): ∀(rows:List Row) (n:Nat) (es:List (ByteArray×Int)),
 wL kind table index cols nulls rows n es=[] ↔ (jG cols nulls rows).Nodup/\ ∀t∈jG cols nulls rows,wA t es=none
 | [],_,_=>by simp [wL,jG]
 | r::rs,n,es=>by
   rw [wL]
   by_cases hk:(!nulls&&(z7 r cols).any yF)=true
   ·have hf:jy cols nulls r=false:=by rw [jy,hk];rfl
    rw [if_pos hk,key_nil kind table index cols nulls rs]
    simp only [jG,List.filter_cons,hf,Bool.false_eq_true,if_false]
   ·have hf:jy cols nulls r=true:=by
     rw [jy]
     cases q:(!nulls&&(z7 r cols).any yF)
     ·rfl
     ·exact absurd q hk
    have hc:jG cols nulls (r::rs)=zN (z7 r cols)::jG cols nulls rs:=by simp only [jG,List.filter_cons,hf,if_true,List.map_cons]
    rw [if_neg hk,hc]
    cases hs:wA (zN (z7 r cols)) es with
    | some o=>
      simp only [List.nodup_cons,List.mem_cons,forall_eq_or_imp,hs]
      simp
    | none=>
      simp only
      rw [key_nil kind table index cols nulls rs]
      simp only [List.nodup_cons,List.mem_cons,forall_eq_or_imp,hs,true_and,qi]
      constructor
      ·rintro ⟨h1,h2⟩
       refine ⟨⟨fun hm=>?_,h1⟩,fun t ht=>?_⟩
       ·have:=h2 _ hm
        rw [hs] at this
        simp at this
       ·have:=h2 t ht
        cases q:wA t es with
        | none=>rfl
        | some o=>rw [q] at this;simp at this
      ·rintro ⟨⟨h1,h2⟩,h3⟩
       refine ⟨h2,fun t ht=>?_⟩
       rw [h3 t ht]
       simp only
       rw [if_neg]
       intro e
       exact h1 (e ▸ ht)
end
section
open Go.Am
structure RowOk (T:Tbl) (r:Row):Prop where
 len:r.length=T.columns.length
 cell: ∀c,c<T.columns.length->badV (T.columns.getD c default) (r.getD c default)=false/\((r.getD c default).kind=0->(T.columns.getD c default).nullable=true/\c≠0)
def kV (n:Int):Val:=⟨1,n,ByteArray.empty⟩
theorem RowOk.rowVio {T:Tbl} (hp:T.primary=[0]) {r:Row} (h:RowOk T r) (k:Int):Go.Proofs.YtampbaaiddbacaaGreatDoor.rowVio T k 0 r=[]:=by
 have key: ∀(l:List Val) (c:Nat),(∀j,j<l.length->badV (T.columns.getD (c+j) default) (l.getD j default)=false/\((l.getD j default).kind=0->(T.columns.getD (c+j) default).nullable=true/\c+j≠0))->yM T k 0 l c=[]:=by
  intro l
  induction l with
  | nil=>intro c _;rfl
  | cons v l ih=>
    intro c hc
    rw [yM,ih (c+1) (fun j hj=>by have:=hc (j+1) (by simpa using hj);simpa [show c+(j+1)=c+1+j by omega] using this),List.append_nil]
    obtain ⟨h1,h2⟩:=hc 0 (by simp)
    simp only [Nat.add_zero,List.getD_cons_zero] at h1 h2
    unfold vH
    rw [if_neg (by rw [h1];decide),if_neg]
    intro hh
    simp only [Bool.and_eq_true,beq_iff_eq,Bool.or_eq_true,Bool.not_eq_true'] at hh
    obtain ⟨g1,g2⟩:=h2 hh.1
    rcases hh.2 with q | q
    ·rw [g1] at q;cases q
    ·rw [hp,List.contains_iff_mem] at q
     have:(c:Int)=0:=by simpa using q
     omega
 unfold Go.Proofs.YtampbaaiddbacaaGreatDoor.rowVio
 rw [if_neg (by rw [h.len];simp)]
 exact key r 0 fun j hj=>by simpa using h.cell j (by rw [<-h.len];exact hj)
theorem RowOk.mis {T:Tbl} {r:Row} (h:RowOk T r):misM T r=false:=by
 rw [jf (by rw [h.len];simp)]
 rw [Bool.not_eq_false',List.all_eq_true]
 intro j hj
 have:=(h.cell j (by rw [<-h.len];exact List.mem_range.1 hj)).1
 rw [this];rfl
theorem bad1_false {s:Sch} {i:Inst} {k:Nat} (h: ∀r∈i.getD k default,RowOk (s.getD k default) r):bad1 s i k=false:=by
 rw [bad1,List.any_eq_false]
 intro r hr
 rw [(h r hr).mis];decide
theorem kV_type (n:Int) (h:0<=n) (h2:n<=1000):OfType (kV n) 1:=by
 refine ⟨?_,.inr rfl⟩
 unfold zy kV
 rw [if_neg (by simp),if_pos rfl]
 simp only [Bool.and_eq_true,decide_eq_true_eq,beq_iff_eq]
 refine ⟨⟨by omega,by omega⟩,?_⟩
 decide+kernel
theorem kV_badV (c:Col) (hc:c.type=1) {y:Int} (h1:0<=y) (h2:y<=1000):badV c (kV y)=false:=by
 have:=(kV_type y h1 h2).ok
 unfold badV
 rw [this,hc]
 rfl
theorem kV_inj {a b:Int} (ha:0<=a) (ha2:a<=1000) (hb:0<=b) (hb2:b<=1000) (h:zN [kV a]=zN [kV b]):a=b:=by
 have:=textL_inj [kV a] [kV b] [1] rfl rfl (fun i hi=>by
  obtain rfl:i=0:=by simpa using hi
  exact kV_type a ha ha2) (fun i hi=>by
  obtain rfl:i=0:=by simpa using hi
  exact kV_type b hb hb2) h
 injection this with h1 _
 injection h1
theorem keepR_true (cols:List Int) (r:Row):jy cols true r=true:=rfl
theorem keptT_true (cols:List Int) (t:Tab2):jG cols true t=t.map fun r=>zN (z7 r cols):=by
 unfold jG
 rw [List.filter_eq_self.2 fun r _=>keepR_true cols r]
theorem partM_one (r:Row) (c:Int):z7 r [c]=[r.getD c.toNat default]:=rfl
theorem valid_iff {s:Sch} (hv:yq s=0) {i:Inst} (hl:i.length=s.length):xi s i=true ↔ ∀k,k<s.length->tabM s i (uj s i) k=[]:=by
 unfold xi vioM
 rw [if_neg (by rw [hv];decide),if_neg (by rw [hl];simp)]
 simp only [BEq.rfl,Bool.true_and,beq_iff_eq,List.length_eq_zero_iff]
 unfold allM
 rw [List.flatMap_eq_nil_iff]
 exact ⟨fun h k hk=>h k (List.mem_range.2 hk),fun h k hk=>h k (List.mem_range.1 hk)⟩
def tabP:Tbl:=⟨⟨#[116]⟩,[⟨⟨#[107]⟩,1,false⟩,⟨⟨#[99]⟩,3,true⟩],[0],[],[],[]⟩
theorem tabP_valid:yq [tabP]=0:=by kernel_rfl
def RowsP (t:Tab2):Prop:=t.length<=100/\ ∀n,n<t.length-> ∃v:Val,t.getD n default=[kV n,v]/\badV ⟨⟨#[99]⟩,3,true⟩ v=false
theorem RowsP.ok {t:Tab2} (h:RowsP t): ∀r∈t,RowOk tabP r:=by
 intro r hr
 obtain ⟨n,hn,rfl⟩:=jE hr
 obtain ⟨v,e,hv⟩:=h.2 n hn
 have hl:=h.1
 rw [e]
 refine ⟨rfl,fun c hc=>?_⟩
 match c,hc with
 | 0,_=>exact ⟨kV_badV _ rfl (by omega) (by omega),fun q=>by cases q⟩
 | 1,_=>exact ⟨hv,fun _=>⟨rfl,by omega⟩⟩
theorem RowsP.valid {t:Tab2} (h:RowsP t):xi [tabP] [t]=true:=by
 rw [valid_iff tabP_valid rfl]
 intro k hk
 obtain rfl:k=0:=by simpa using hk
 have hb:(uj [tabP] [t]).getD 0 default=false:=by
  rw [gd [tabP] [t] (by simp)]
  exact bad1_false h.ok
 unfold tabM
 rw [hb,List.append_eq_nil_iff,rows_nil]
 refine ⟨fun r hr=>(h.ok r hr).rowVio rfl _,?_⟩
 rw [if_neg (by decide),jU]
 simp only [show ([tabP].getD 0 default:Tbl)=tabP from rfl,show ([t].getD 0 default:Tab2)=t from rfl,show tabP.uniques=[] from rfl,show tabP.foreigns=[] from rfl,show tabP.checks=[] from rfl,show tabP.primary=[0] from rfl,wN,wa,ut,List.nil_append,List.append_nil]
 rw [keyM,key_nil]
 refine ⟨?_,fun t _=>rfl⟩
 show (jG [0] true t).Nodup
 have hk:(jG [0] true t)=(List.range t.length).map fun n:Nat=>zN [kV n]:=by
  rw [keptT_true]
  refine List.ext_getElem (by simp) fun n h1 h2=>?_
  have hn:n<t.length:=by simpa using h1
  obtain ⟨v,e,_⟩:=h.2 n hn
  have e2:t.getD n default=t[n]:=by simp [List.getD_eq_getElem?_getD,hn]
  rw [e2] at e
  simp only [List.getElem_map,List.getElem_range,partM_one,Int.toNat_zero]
  rw [e]
  rfl
 rw [hk]
 have hl:=h.1
 have: ∀m,m<=100->((List.range m).map fun n:Nat=>zN [kV n]).Nodup:=by
  intro m
  induction m with
  | zero=>intro _;exact List.Pairwise.nil
  | succ m ih=>
    intro hm
    rw [List.range_succ,List.map_append,List.nodup_append]
    refine ⟨ih (by omega),List.nodup_cons.2 ⟨by simp,List.Pairwise.nil⟩,?_⟩
    intro a ha b hb e
    obtain ⟨x,hx,rfl⟩:=List.mem_map.1 ha
    have hx:=List.mem_range.1 hx
    simp only [List.map_cons,List.map_nil,List.mem_singleton] at hb
    rw [hb] at e
    have:=kV_inj (by omega) (by omega) (by omega) (by omega) e
    omega
 exact this _ hl
end
section
open Go.Am
def tabC (t:Tab2):A:= .d (.sl 1 (ze rRow t))
theorem get_at {D E:List A} {a:A} {i:Nat} (h:D.length=i):(D++a::E)[i]? =some a:=by subst h;simp
theorem set_at {D E:List A} {a b:A} {i:Nat} (h:D.length=i):(D++a::E).set i b=D++b::E:=by subst h;simp
theorem yV {dom:Nat->Bool}: ∀(ts:Inst),closedL dom (ts.map tabC)=true
 | []=>rfl
 | t::ts=>by rw [List.map_cons,closedL,yV ts];rfl
theorem get_tab {i:Inst} {n:Nat} (h:n<i.length):(i.map tabC)[n]? =some (tabC (i.getD n default)):=by
 rw [List.getElem?_map,List.getD_eq_getElem?_getD,List.getElem?_eq_getElem h];rfl
theorem seen_set {h2:Nat->Option Ob} {i:Inst} {k m e fz q o:Nat} {tab:Tab2} (hk:k<i.length) (e1:h2 q=some (.var ((i.map tabC).set k (.vec o m)))) (e2:h2 o=some (.vec e 1 (ze rRow tab) fz)) (hm:m=tab.length):
 Seen h2 (.vs q i.length) (.sl 1 (ze rTab (i.set k tab))):=by
 have hx:ze rTab (i.set k tab)=((i.set k tab).map fun t=>(.sl 1 (ze rRow t):D)).map fun x=>[x]:=by rw [List.map_map];rfl
 rw [hx]
 refine seen_vs e1 (by simp) (by simp) fun j c x hc hx=>?_
 rw [List.getElem?_set] at hc
 rw [List.getElem?_map,List.getElem?_set] at hx
 by_cases hjk:k=j
 ·subst hjk
  rw [if_pos rfl,if_pos (by simpa using hk)] at hc
  rw [if_pos rfl,if_pos hk] at hx
  obtain rfl:=Option.some.inj hc
  obtain rfl:=Option.some.inj hx
  exact seen_vec e2 (by rw [zc];exact hm)
 ·rw [if_neg hjk,List.getElem?_map] at hc
  rw [if_neg hjk] at hx
  cases hi:i[j]? with
  | none=>rw [hi] at hc;cases hc
  | some t=>
    rw [hi] at hc hx
    obtain rfl:=Option.some.inj hc
    obtain rfl:=Option.some.inj hx
    exact seen_d _ _
theorem seen_args {h2:Nat->Option Ob} {s:Sch} {i:Inst} {k m e fz q o:Nat} {tab:Tab2} (hk:k<i.length) (e1:h2 q=some (.var ((i.map tabC).set k (.vec o m)))) (e2:h2 o=some (.vec e 1 (ze rRow tab) fz)) (hm:m=tab.length):
 gf h2 [aS s,.agg [.vs q i.length]] [aS s,zA (i.set k tab)]:=
 seenL_agg (seenL_d (seen_d _ _) (seenL_nil _)) (seenL_agg (seenL_d (seen_set hk e1 e2 hm) (seenL_nil _)) (seenL_nil _))
end
end Go.Proofs.YtampbaaiddbacaaGreatDoor
