/- Conditions over finite domains (part Wk) -/
import Derived.Test.YtiagabnddihchaaGreatDoorWj
import Derived.Test.YtiagabnddihchaaGreatDoorWe
set_option maxRecDepth 100000
set_option maxHeartbeats 4000000
set_option linter.all false
namespace Go.Proofs.YtiagabnddihchaaGreatDoor
section
open Go.Am
attribute [local simp, local push_cast] num boo str ints aV aTab aRow rRow vE
abbrev slv (ks ps:List Nat) (asg bd:Code) (st:LS) (e:Ex) (r:A):List (Nat×Ob):=[(1000,.x (.lp ks ps asg bd st) [.ptr 1001 0,.ptr 1002 0,.ptr 1003 0]),(1001,.var (vE e)),(1002,.var [r]),(1003,.var [num 0])]
theorem c_slv1 {d:List Row} (hf:Full d) (hl:d.length<=12) (hp:zn d<=5000) (hll: ∀l∈d,l.length<=5000) (e:Ex) (ks ps:List Nat) (asg bd:Code) {N:Nat} (hN:N+1=zn d)
 (hc: ∀k,k<zn d->AYield Tryz.prog 1000 [num k,.vec 1009 d.length] (slv ks ps asg bd .ready e .snil++[(1009,xOb (ptM d k) 0)]) (boo true) (slv ks ps asg bd .ready e .snil++[(1009,xOb (ptM d k) 0)])):
 ACall Tryz.prog 51 [.xo true 1000,.ptr 1004 0] (slv ks ps asg bd .ready e .snil++[(1004,.var [aTab d])]) (.tup []) (slv ks ps asg bd .ready e .snil++[(1004,.var [aTab d])]):=by
 refine zm mixed ttok Tryz.func51 Tryz.ntmps51 Tryz.results51 ?_
 simp -implicitDefEqProofs only [List.cons_append,List.nil_append,argT,aTab,↓zb,push_cast,simprocAttr,tte]
 refine yn [(1000,1000),(1001,1001),(1002,1002),(1003,1003)] (yj _ _) (c_eachY hf hl hp hll e hN hc) (by simp [vE,ends,bs]) (by simp [ends,bs]) (by simp [vE,ends]) (by simp [idsOk,lookO,updO,ren1]) ?_
 simp -implicitDefEqProofs only [↓zb,push_cast,simprocAttr,tte]
 exact jQ trivial rfl (by simp [vE,ends]) (by simp [vE,ends])
theorem c_slv1s {d:List Row} (hf:Full d) (hl:d.length<=12) (hp:zn d<=5000) (hll: ∀l∈d,l.length<=5000) (e:Ex) (ks ps:List Nat) (asg bd:Code) {N:Nat} (hN:N<zn d)
 (hc: ∀k,k<N->AYield Tryz.prog 1000 [num k,.vec 1009 d.length] (slv ks ps asg bd .ready e .snil++[(1009,xOb (ptM d k) 0)]) (boo true) (slv ks ps asg bd .ready e .snil++[(1009,xOb (ptM d k) 0)]))
 (hs:AYield Tryz.prog 1000 [num N,.vec 1009 d.length] (slv ks ps asg bd .ready e .snil++[(1009,xOb (ptM d N) 0)]) (boo false) (slv ks ps asg bd (.done .ret) e (.d (.sl 3 (zg rV (ptM d N))))++[(1009,xOb (ptM d N) d.length)])):
 ACall Tryz.prog 51 [.xo true 1000,.ptr 1004 0] (slv ks ps asg bd .ready e .snil++[(1004,.var [aTab d])]) (.tup []) (slv ks ps asg bd (.done .ret) e (.d (.sl 3 (zg rV (ptM d N))))++[(1004,.var [aTab d])]):=by
 refine zm mixed ttok Tryz.func51 Tryz.ntmps51 Tryz.results51 ?_
 simp -implicitDefEqProofs only [List.cons_append,List.nil_append,argT,aTab,↓zb,push_cast,simprocAttr,tte]
 refine yn [(1000,1000),(1001,1001),(1002,1002),(1003,1003)] (yj _ _) (c_eachYs hf hl hp hll e hN hc hs) (by simp [vE,ends,bs]) (by simp [ends,bs]) (by simp [vE,ends]) (by simp [idsOk,lookO,updO,ren1]) ?_
 simp -implicitDefEqProofs only [↓zb,push_cast,simprocAttr,tte]
 exact jQ trivial rfl (by simp [vE,ends]) (by simp [vE,ends])
theorem rfx_gen {P:Program} {f:Operand} {ps:Array Tmp} {asg bd:Code} {K:Exit->SL->Prop} {σ:SL} (h: ∀asg' bd',asg=asg'->bd=bd'->rfx P f ps asg' bd' K σ):rfx P f ps asg bd K σ:=h _ _ rfl rfl
def yp (d:List Row) (e:Ex) (k:Nat):Bool:=zA (zN (ptM d k) e)==1
theorem c_solveX {d:List Row} (hf:Full d) (hl:d.length<=12) (hp:zn d<=5000) (hll: ∀l∈d,l.length<=5000) (e:Ex) (ho:Ok12 e) (hV:ACall Tryz.prog 37 [aTab d,aE e] [] (num 0) [])
 (hn: ∀k,k<zn d->yp d e k=false):
 ACall Tryz.prog 12 [aTab d,aE e] [] (.tup [.d (.sl 3 []),num 12]) []:=by
 rw [zl] at hV ⊢
 refine enterqM mixed ttok Tryz.func12 Tryz.ntmps12 Tryz.results12 ?_
 simp -implicitDefEqProofs only [argT,aTab,↓zb,push_cast,simprocAttr,tte]
 refine zd [[1],[0,0,0,0,0,6]] [] (hV) ?_
 simp -implicitDefEqProofs only [↓zb,push_cast,simprocAttr,tte]
 refine rfx_gen fun asg bd hA hB=>?_
 refine rf_intro (tt:=tt) [(3,.ptr 3 0),(4,.ptr 4 0),(5,.ptr 5 0)] 600 1000000 rfl ⟨rfl,rfl,rfl,trivial⟩ rfl rfl (by omega) (by omega) ?_
 have hY: ∀k,k<zn d->AYield Tryz.prog 1000 [num k,.vec 1009 d.length] (slv [3,4,5] [16,17] asg bd .ready e .snil++[(1009,xOb (ptM d k) 0)]) (boo true) (slv [3,4,5] [16,17] asg bd .ready e .snil++[(1009,xOb (ptM d k) 0)]):=by
  intro k hk
  have hxl:=yk d k
  have hh:=hn k hk
  unfold yp at hh
  refine AYield.enter mixed ttok rfl rfl ?_
  rw [<-hA]
  simp -implicitDefEqProofs only [jI,zipT,slv,xOb,List.cons_append,List.nil_append,↓zb,push_cast,simprocAttr,tte]
  refine asgK_n rfl ?_
  rw [<-hB]
  simp -implicitDefEqProofs only [↓zb,push_cast,simprocAttr,tte]
  refine xL (xs:=[aE e,aRow (ptM d k)]) [1009] (vS e (ptM d k) ho) (fun h2 hr=>xW e (hr 1009 (by simp)) hxl.symm) ?_
  simp -implicitDefEqProofs only [hh,↓zb,push_cast,simprocAttr,tte]
  exact rndK_n rfl (zf [0] rfl trivial trivial rfl rfl (by simp [ends]) (by simp [ends]))
 have hpp:=yX hf
 refine yn [(1000,600),(1001,3),(1002,4),(1003,5),(1004,2)] (yj _ _) (c_slv1 hf hl hp hll e [3,4,5] [16,17] asg bd (N:=zn d-1) (by omega) hY) (by simp [vE,slv,rRow,ends,bs]) (by simp [ends,bs]) (by simp [vE,slv,rRow,ends]) (by simp [idsOk,lookO,updO,ren1]) ?_
 simp -implicitDefEqProofs only [vE,slv,↓zb,push_cast,simprocAttr,tte]
 refine jmpK_n rfl ?_
 simp -implicitDefEqProofs only [↓zb,push_cast,simprocAttr,tte]
 refine ⟨⟨[(4,.ptr 4 0),(5,.ptr 5 0)],[(4,.var [.snil]),(5,.var [num 12])]⟩,⟨by simp [ends],by simp [ends],by simp [keepM,hdd,inO,lookO],by simp [noMk]⟩,?_⟩
 simp -implicitDefEqProofs only [↓zb,push_cast,simprocAttr,tte]
 refine zO [[3],[]] rfl (by simp) (by simp) ?_ rfl trivial (by simp [ends])
 rfl
theorem c_solveS {d:List Row} (hf:Full d) (hl:d.length<=12) (hp:zn d<=5000) (hll: ∀l∈d,l.length<=5000) (e:Ex) (ho:Ok12 e) (hV:ACall Tryz.prog 37 [aTab d,aE e] [] (num 0) [])
 {N:Nat} (hN:N<zn d) (hn: ∀k,k<N->yp d e k=false) (hh0:yp d e N=true):
 ACall Tryz.prog 12 [aTab d,aE e] [] (.tup [aRow (ptM d N),num 0]) []:=by
 rw [zl] at hV ⊢
 refine enterqM mixed ttok Tryz.func12 Tryz.ntmps12 Tryz.results12 ?_
 simp -implicitDefEqProofs only [argT,aTab,↓zb,push_cast,simprocAttr,tte]
 refine zd [[1],[0,0,0,0,0,6]] [] (hV) ?_
 simp -implicitDefEqProofs only [↓zb,push_cast,simprocAttr,tte]
 refine rfx_gen fun asg bd hA hB=>?_
 refine rf_intro (tt:=tt) [(3,.ptr 3 0),(4,.ptr 4 0),(5,.ptr 5 0)] 600 1000000 rfl ⟨rfl,rfl,rfl,trivial⟩ rfl rfl (by omega) (by omega) ?_
 have hY: ∀k,k<N->AYield Tryz.prog 1000 [num k,.vec 1009 d.length] (slv [3,4,5] [16,17] asg bd .ready e .snil++[(1009,xOb (ptM d k) 0)]) (boo true) (slv [3,4,5] [16,17] asg bd .ready e .snil++[(1009,xOb (ptM d k) 0)]):=by
  intro k hk
  have hxl:=yk d k
  have hh:=hn k hk
  unfold yp at hh
  refine AYield.enter mixed ttok rfl rfl ?_
  rw [<-hA]
  simp -implicitDefEqProofs only [jI,zipT,slv,xOb,List.cons_append,List.nil_append,↓zb,push_cast,simprocAttr,tte]
  refine asgK_n rfl ?_
  rw [<-hB]
  simp -implicitDefEqProofs only [↓zb,push_cast,simprocAttr,tte]
  refine xL (xs:=[aE e,aRow (ptM d k)]) [1009] (vS e (ptM d k) ho) (fun h2 hr=>xW e (hr 1009 (by simp)) hxl.symm) ?_
  simp -implicitDefEqProofs only [hh,↓zb,push_cast,simprocAttr,tte]
  exact rndK_n rfl (zf [0] rfl trivial trivial rfl rfl (by simp [ends]) (by simp [ends]))
 have hS:AYield Tryz.prog 1000 [num N,.vec 1009 d.length] (slv [3,4,5] [16,17] asg bd .ready e .snil++[(1009,xOb (ptM d N) 0)]) (boo false) (slv [3,4,5] [16,17] asg bd (.done .ret) e (.d (.sl 3 (zg rV (ptM d N))))++[(1009,xOb (ptM d N) d.length)]):=by
  have hxl:=yk d N
  have hh:=hh0
  unfold yp at hh
  refine AYield.enter mixed ttok rfl rfl ?_
  rw [<-hA]
  simp -implicitDefEqProofs only [jI,zipT,slv,xOb,List.cons_append,List.nil_append,↓zb,push_cast,simprocAttr,tte]
  refine asgK_n rfl ?_
  rw [<-hB]
  simp -implicitDefEqProofs only [↓zb,push_cast,simprocAttr,tte]
  refine xL (xs:=[aE e,aRow (ptM d N)]) [1009] (vS e (ptM d N) ho) (fun h2 hr=>xW e (hr 1009 (by simp)) hxl.symm) ?_
  simp -implicitDefEqProofs only [hh,↓zb,push_cast,simprocAttr,tte]
  rw [<-hxl]
  refine zd [[3]] [] (c_cloneV (ptM d N) (by omega)) ?_
  simp -implicitDefEqProofs only [↓zb,push_cast,simprocAttr,tte]
  exact rndK_r rfl (zf [0] rfl trivial trivial rfl rfl (by simp [ends]) (by simp [ends]))
 refine yn [(1000,600),(1001,3),(1002,4),(1003,5),(1004,2)] (yj _ _) (c_slv1s hf hl hp hll e [3,4,5] [16,17] asg bd hN hY hS) (by simp [vE,slv,rRow,ends,bs]) (by simp [ends,bs]) (by simp [vE,slv,rRow,ends]) (by simp [idsOk,lookO,updO,ren1]) ?_
 simp -implicitDefEqProofs only [vE,slv,↓zb,push_cast,simprocAttr,tte]
 refine jmpK_r rfl ?_
 simp -implicitDefEqProofs only [↓zb,push_cast,simprocAttr,tte]
 refine ⟨⟨[(4,.ptr 4 0),(5,.ptr 5 0)],[(4,.var [.d (.sl 3 (zg rV (ptM d N)))]),(5,.var [num 0])]⟩,⟨by simp [ends],by simp [ends],by simp [keepM,hdd,inO,lookO],by simp [noMk]⟩,?_⟩
 simp -implicitDefEqProofs only [↓zb,push_cast,simprocAttr,tte]
 refine zO [[3],[]] rfl (by simp) (by simp) ?_ rfl trivial (by simp [ends])
 rfl
end
section
open Go.Am
attribute [local simp, local push_cast] num boo str ints aV aTab aRow rRow vE
theorem c_values (l:Row):ACall Tryz.prog 107 [aRow l] [] (.clo 127 [.ptr 1000 0]) [(1000,.var [aRow l])]:=by
 refine zm mixed ttok Tryz.func107 Tryz.ntmps107 Tryz.results107 ?_
 simp -implicitDefEqProofs only [argT,↓zb,push_cast,simprocAttr,tte]
 refine u9 1 1000 trivial (by decide) (by decide) rfl (by simp [A.ren,renL,zJ]) (by simp [A.closed,closedL,inO,lookO]) ?_ ?_
 ·simp [renO,Ob.ren,A.ren,renL,zJ,ends]
 ·simp [renO,zJ,ends]
abbrev asq (ks ps:List Nat) (asg bd:Code) (st:LS) (l:Row) (o k:Nat):List (Nat×Ob):=[(1000,.x (.lp ks ps asg bd st) [.ptr 1002 0]),(1002,.var [.vec o k]),(o,.vec 53 3 (zg rV (l.take k)) 0)]
def VS (l:Row) (ks ps:List Nat) (asg bd:Code) (k:Nat):SL:=
 ⟨[(7,.d (.lit (.int .i64 k))),(6,.d (.lit (.int .i64 l.length))),(5,aRow l),(0,.xo true 1000)],asq ks ps asg bd .ready l 500 k++[(1001,.var [aRow l])]⟩
theorem c_vals1 (l:Row) (hl:l.length<=1000000) (ks ps:List Nat) (asg bd:Code)
 (hc: ∀k,k<l.length->AYield Tryz.prog 1000 [aV (l.getD k default)] (asq ks ps asg bd .ready l 1003 k) (boo true) (asq ks ps asg bd .ready l 1003 (k+1))):
 ACall Tryz.prog 127 [.xo true 1000,.ptr 1001 0] [(1000,.x (.lp ks ps asg bd .ready) [.ptr 1002 0]),(1001,.var [aRow l]),(1002,.var [.snil])] (.tup [])
  [(1000,.x (.lp ks ps asg bd .ready) [.ptr 1002 0]),(1001,.var [aRow l]),(1002,.var [.vec 1003 l.length]),(1003,.vec 53 3 (zg rV l) 0)]:=by
 refine zm mixed ttok Tryz.func127 Tryz.ntmps127 Tryz.results127 ?_
 simp -implicitDefEqProofs only [argT,↓zb,push_cast,simprocAttr,tte]
 refine z8 mixed ttok (fun k:Nat=>VS l ks ps asg bd k) (fun k=>l.length-k) (fun k=>k<=l.length) 0 (Nat.zero_le _) ?_ ?_
 ·exact (Weak.nilCellL 1002 0 500 53 3 rfl rfl rfl).trans (Weak.keepL (by simp [VS,ends]) (by simp [VS,zg,ends]) (by simp [VS,ends]))
 intro I hI k hk
 simp -implicitDefEqProofs only [VS,List.cons_append,List.nil_append,↓zb,push_cast,simprocAttr,tte]
 refine za (fun h=>?_) fun h=>?_
 ·have h':k<l.length:=by simpa using h
  have hw:=zw h' (by omega)
  have hcn:=hc k h'
  simp only [asq] at hcn
  refine ⟨⟨by omega,by omega⟩,?_⟩
  refine uI [(1000,1000),(1002,1002),(1003,500)] (yj _ _) hcn rfl rfl (by simp [ends,bs]) (by simp [ends,bs]) (by simp [ends]) (by simp [idsOk,lookO,updO,ren1]) ?_
  simp -implicitDefEqProofs only [↓zb,push_cast,simprocAttr,tte]
  exact zp hI (k+1) h' (by show l.length-(k+1)<l.length-k;omega) (Weak.keepL (by simp [VS,hw,ends]) (by simp [VS,ends]) (by simp [VS,ends]))
 have hkk:k=l.length:=by have:=of_decide_eq_false h;omega
 subst hkk
 rw [List.take_length]
 refine u9 500 1003 trivial (by decide) (by decide) rfl rfl rfl ?_ ?_
 ·simp [renO,Ob.ren,A.ren,renL,zJ,ends]
 ·simp [renO,zJ,ends]
theorem c_appseq (l:Row) (hl:l.length<=1000000):
 ACall Tryz.prog 141 [.snil,.clo 127 [.ptr 1000 0]] [(1000,.var [aRow l])] (.vec 1001 l.length) [(1000,.var [aRow l]),(1001,.vec 53 3 (zg rV l) 0)]:=by
 refine enterqM mixed ttok Tryz.func141 Tryz.ntmps141 Tryz.results141 ?_
 simp -implicitDefEqProofs only [argT,↓zb,push_cast,simprocAttr,tte]
 refine rfx_gen fun asg bd hA hB=>?_
 refine rf_intro (tt:=tt) [(2,.ptr 2 0)] 600 1000000 rfl ⟨rfl,trivial⟩ rfl rfl (by omega) (by omega) ?_
 have hY: ∀k,k<l.length->AYield Tryz.prog 1000 [aV (l.getD k default)] (asq [2] [7] asg bd .ready l 1003 k) (boo true) (asq [2] [7] asg bd .ready l 1003 (k+1)):=by
  intro k hk
  have hts:=yr l k hk
  have htl:(l.take k).length=k:=by rw [List.length_take];omega
  refine AYield.enter mixed ttok rfl rfl ?_
  rw [<-hA]
  simp -implicitDefEqProofs only [jI,zipT,asq,List.cons_append,List.nil_append,↓zb,push_cast,simprocAttr,tte]
  refine asgK_n rfl ?_
  rw [<-hB]
  simp -implicitDefEqProofs only [↓zb,push_cast,simprocAttr,tte]
  refine ⟨⟨htl.symm,by omega⟩,rndK_n rfl (zf [0] rfl trivial trivial rfl rfl ?_ (by simp [ends]))⟩
  rw [hts,htl]
  simp [ends]
 refine yn [(1000,600),(1001,1000),(1002,2),(1003,501)] (yj _ _) (c_vals1 l hl [2] [7] asg bd hY) (by simp [rRow,ends,bs]) (by simp [ends,bs]) (by simp [rRow,ends]) (by simp [idsOk,lookO,updO,ren1]) ?_
 simp -implicitDefEqProofs only [↓zb,push_cast,simprocAttr,tte]
 refine jmpK_n rfl ?_
 simp -implicitDefEqProofs only [↓zb,push_cast,simprocAttr,tte]
 refine ⟨⟨[(4,.vec 501 l.length)],[(1000,.var [aRow l]),(501,.vec 53 3 (zg rV l) 0)]⟩,⟨by simp [ends],by simp [ends],by simp [keepM,hdd,inO,lookO],by simp [noMk]⟩,?_⟩
 simp -implicitDefEqProofs only [↓zb,push_cast,simprocAttr,tte]
 refine u9 501 1001 trivial (by decide) (by decide) rfl (by simp [A.ren,renL,zJ]) (by simp [A.closed,closedL,inO,lookO]) ?_ ?_
 ·simp [renO,Ob.ren,A.ren,renL,zJ,ends]
 ·simp [renO,zJ,ends]
theorem c_collect (l:Row) (hl:l.length<=1000000):
 ACall Tryz.prog 125 [.clo 127 [.ptr 1000 0]] [(1000,.var [aRow l])] (.vec 1001 l.length) [(1000,.var [aRow l]),(1001,.vec 53 3 (zg rV l) 0)]:=by
 refine zm mixed ttok Tryz.func125 Tryz.ntmps125 Tryz.results125 ?_
 simp -implicitDefEqProofs only [argT,↓zb,push_cast,simprocAttr,tte]
 refine yn [(1001,501)] (yj _ _) (c_appseq l hl) (by simp [rRow,ends,bs]) (by simp [ends,bs]) (by simp [rRow,ends]) (by simp [idsOk,lookO,updO,ren1]) ?_
 simp -implicitDefEqProofs only [↓zb,push_cast,simprocAttr,tte]
 refine u9 501 1001 trivial (by decide) (by decide) rfl (by simp [A.ren,renL,zJ]) (by simp [A.closed,closedL,inO,lookO]) ?_ ?_
 ·simp [renO,Ob.ren,A.ren,renL,zJ,ends]
 ·simp [renO,zJ,ends]
theorem c_sorted (l:Row) (hl:l.length<=1000000):
 ACall Tryz.prog 106 [.clo 127 [.ptr 1000 0],.clo 108 []] [(1000,.var [aRow l])] (aRow (sortV l)) [(1000,.var [aRow l])]:=by
 refine zm mixed ttok Tryz.func106 Tryz.ntmps106 Tryz.results106 ?_
 simp -implicitDefEqProofs only [argT,↓zb,push_cast,simprocAttr,tte]
 refine yn [(1001,501)] (yj _ _) (c_collect l hl) (by simp [rRow,ends,bs]) (by simp [ends,bs]) (by simp [rRow,ends]) (by simp [idsOk,lookO,updO,ren1]) ?_
 simp -implicitDefEqProofs only [↓zb,push_cast,simprocAttr,tte]
 refine callx_fn (fn_sort rfl (by omega)) rfl ?_
 simp -implicitDefEqProofs only [↓zb,push_cast,simprocAttr,tte]
 refine zf [3] rfl trivial (by rw [zc,u4]) ?_ (by simp [ends]) (by simp [ends]) (by simp [ends])
 rfl
end
section
open Go.Am
attribute [local simp, local push_cast] num boo str ints aV aTab aRow rRow vE
def xi:Int->Row->Option Int
 | out,[]=>some out
 | out,v::l=>if zC v=false then none else if v.kind=0 then xi out l else if out=0 then xi v.kind l else if v.kind≠out then none else xi out l
def dupS:Row->Bool
 | a::b::l=>yw a b || dupS (b::l)
 | _=>false
def yB (l:Row):Int×Bool:=
 if l.length=0 then (0,false) else match xi 0 l with
  | none=>(0,false)
  | some out=>if dupS (sortV l)=true then (0,false) else (if out=0 then 1 else out,true)
theorem dupS_drop (l:Row) (n:Nat) (h:n+1<l.length):dupS (l.drop n)=(yw (l.getD n default) (l.getD (n+1) default) || dupS (l.drop (n+1))):=by
 rw [yc l n (by omega),yc l (n+1) h]
 rfl
theorem dupS_end (l:Row) (n:Nat) (h:l.length<=n+1):dupS (l.drop n)=false:=by
 match hd:l.drop n with
 | []=>rfl
 | [_]=>rfl
 | _::_::_=>
   have:=congrArg List.length hd
   rw [List.length_drop] at this
   simp at this
   omega
def K1s (l:Row) (x:Nat×Int):SL:=⟨[(14,.d (.lit (.int .i64 x.1))),(13,.d (.lit (.int .i64 l.length))),(12,aRow l),(4,num x.2),(0,aRow l)],[]⟩
def K2s (l s:Row) (out:Int) (n:Nat):SL:=⟨[(8,.d (.lit (.int .i64 n))),(7,aRow s),(4,num out)],[]⟩
theorem c_kind (l:Row) (hl:l.length<=1000000):ACall Tryz.prog 85 [aRow l] [] (.tup [num (yB l).1,boo (yB l).2]) []:=by
 refine zm mixed ttok Tryz.func85 Tryz.ntmps85 Tryz.results85 ?_
 generalize hr:A.tup [num (yB l).1,boo (yB l).2]=R
 simp -implicitDefEqProofs only [argT,↓zb,push_cast,simprocAttr,tte]
 refine za (fun h0=>?_) fun h0=>?_
 ·have e0:l.length=0:=by simp only [beq_iff_eq] at h0;omega
  have hk:yB l=(0,false):=by rw [yB,if_pos e0]
  exact zF trivial (by rw [<-hr,hk];rfl) (by simp [ends])
 have e0: ¬l.length=0:=by simp only [beq_eq_false_iff_ne,ne_eq] at h0;omega
 unfold yB at hr
 rw [if_neg e0] at hr
 refine z8 mixed ttok (fun x:Nat×Int=>K1s l x) (fun x=>l.length-x.1) (fun x=>x.1<=l.length/\xi 0 l=xi x.2 (l.drop x.1)) (0,0) ⟨Nat.zero_le _,rfl⟩ ?_ ?_
 ·exact Weak.keepL (by simp [K1s,ends]) (by simp [K1s,ends]) (by simp [K1s,ends])
 rintro I hI ⟨n,out⟩ ⟨hn,hg⟩
 simp -implicitDefEqProofs only [K1s,↓zb,push_cast,simprocAttr,tte]
 refine za (fun h=>?_) fun h=>?_
 ·have h':n<l.length:=by simpa using h
  have hw:=zw h' (by omega)
  dsimp only at hg
  rw [yc l n h',xi] at hg
  refine ⟨⟨by omega,by omega⟩,?_⟩
  refine zd [[0,0,0]] [] (vh (l.getD n default)) ?_
  simp -implicitDefEqProofs only [↓zb,push_cast,simprocAttr,tte]
  refine za (fun h1=>?_) fun h1=>?_
  ·rw [if_pos (by simpa using h1)] at hg
   rw [hg] at hr
   exact zF trivial (by rw [<-hr];rfl) (by simp [ends])
  rw [if_neg (by simpa using h1)] at hg
  refine za (fun h2=>?_) fun h2=>?_
  ·rw [if_pos (by simpa using h2)] at hg
   exact zp hI (n+1,out) ⟨h',hg⟩ (by show l.length-(n+1)<l.length-n;omega) (Weak.keepL (by simp [K1s,hw,ends]) (by simp [K1s,ends]) (by simp [K1s,ends]))
  rw [if_neg (by simpa using h2)] at hg
  refine za (fun h3=>?_) fun h3=>?_
  ·have e3:out=0:=by simpa using h3
   rw [if_pos e3] at hg
   exact zp hI (n+1,(l.getD n default).kind) ⟨h',hg⟩ (by show l.length-(n+1)<l.length-n;omega) (Weak.keepL (by simp [K1s,hw,ends]) (by simp [K1s,ends]) (by simp [K1s,ends]))
  rw [if_neg (by simpa using h3)] at hg
  refine za (fun h4=>?_) fun h4=>?_
  ·rw [if_pos (by simpa using h4)] at hg
   rw [hg] at hr
   exact zF trivial (by rw [<-hr];rfl) (by simp [ends])
  rw [if_neg (by simpa using h4)] at hg
  exact zp hI (n+1,out) ⟨h',hg⟩ (by show l.length-(n+1)<l.length-n;omega) (Weak.keepL (by simp [K1s,hw,ends]) (by simp [K1s,ends]) (by simp [K1s,ends]))
 have hnn:n=l.length:=by have:=of_decide_eq_false h;omega
 subst hnn
 dsimp only at hg
 rw [List.drop_length,xi] at hg
 rw [hg] at hr
 clear hI I h hg
 refine zd [[3]] [(1000,600)] (c_values l) ?_
 simp -implicitDefEqProofs only [↓zb,push_cast,simprocAttr,tte]
 refine yn [(1000,600)] (yj _ _) (c_sorted l hl) (by simp [rRow,ends,bs]) (by simp [ends,bs]) (by simp [rRow,ends]) (by simp [idsOk,lookO,updO,ren1]) ?_
 simp -implicitDefEqProofs only [↓zb,push_cast,simprocAttr,tte]
 have hsl:=u4 l
 generalize sortV l=s at hr hsl ⊢
 refine z8 mixed ttok (fun n:Nat=>K2s l s out n) (fun n=>s.length-n) (fun n=>1<=n/\n<=s.length/\dupS s=dupS (s.drop (n-1))) 1 ⟨Nat.le_refl _,by omega,rfl⟩ ?_ ?_
 ·exact Weak.keepL (by simp [K2s,ends]) (by simp [K2s,ends]) (by simp [K2s,ends])
 rintro I hI n ⟨hn1,hn,hg⟩
 simp -implicitDefEqProofs only [K2s,↓zb,push_cast,simprocAttr,tte]
 refine za (fun h=>?_) fun h=>?_
 ·have h':n<s.length:=by simpa using h
  have hw:=zw h' (by omega)
  obtain ⟨m,rfl⟩: ∃m,n=m+1:=⟨n-1,by omega⟩
  have wm:IntKind.i64.wrap (((m+1:Nat):Int)-1)=(m:Int):=by rw [z7 (by omega) (by omega)];omega
  have hw2:IntKind.i64.wrap ((m:Int)+1+1)=(m:Int)+1+1:=z7 (by omega) (by omega)
  rw [Nat.add_sub_cancel,dupS_drop s m h'] at hg
  simp only [wm,Int.toNat_natCast]
  refine ⟨⟨by omega,by omega⟩,⟨by omega,by omega⟩,?_⟩
  refine zd [[0,0,0],[0,0,0]] [] (c_same (s.getD m default) (s.getD (m+1) default)) ?_
  simp -implicitDefEqProofs only [↓zb,push_cast,simprocAttr,tte]
  refine ⟨zh (by kernel_rfl),?_⟩
  refine za (fun h2=>?_) fun h2=>?_
  ·rw [h2,Bool.true_or] at hg
   dsimp only at hr
   rw [if_pos hg] at hr
   exact zF trivial (by rw [<-hr];rfl) (by simp [ends])
  rw [h2,Bool.false_or] at hg
  exact zp hI (m+1+1) ⟨by omega,by omega,hg⟩ (by show s.length-(m+1+1)<s.length-(m+1);omega) (Weak.keepL (by simp [K2s,hw2,ends]) (by simp [K2s,ends]) (by simp [K2s,ends]))
 have hnn:n=s.length:=by have:=of_decide_eq_false h;omega
 subst hnn
 rw [dupS_end s _ (by omega)] at hg
 dsimp only at hr
 rw [if_neg (by rw [hg];decide)] at hr
 refine za (fun h3=>?_) fun h3=>?_
 ·rw [if_pos (by simpa using h3)] at hr
  exact zF trivial (by rw [<-hr];rfl) (by simp [ends])
 rw [if_neg (by simpa using h3)] at hr
 exact zF trivial (by rw [<-hr];rfl) (by simp [ends])
end
section
open Go.Am
attribute [local simp, local push_cast] num boo str ints aV aTab aRow rRow vE
def yE (d:List Row):Prop:=d.length<=1000000/\ ∀l∈d,l.length<=1000000
def wO (d:List Row):Bool:=decide (d.length<=12)&&d.all fun l=>(yB l).2
def zZ (d:List Row):List Int:=if wO d=true then d.map (fun l=>(yB l).1) else []
def pGo:Nat->List Row->Option Nat
 | n,[]=>some n
 | n,l::d=>if n * l.length>4096 then none else pGo (n * l.length) d
def zI (d:List Row) (e:Ex):Int:=
 if wO d=false then 1 else if zn d>4096 then 8 else
  if (xD (ownM (zZ d)) e).2=0 then (if (xD (ownM (zZ d)) e).1=2 then 0 else 4) else (xD (ownM (zZ d)) e).2
theorem kind_len {l:Row} (h:(yB l).2=true):0<l.length:=by
 unfold yB at h
 split at h
 ·cases h
 ·omega
theorem uH {d:List Row} (h:wO d=true):Full d/\d.length<=12:=by
 unfold wO at h
 simp only [Bool.and_eq_true,decide_eq_true_eq] at h
 exact ⟨fun l hl=>kind_len (List.all_eq_true.1 h.2 l hl),h.1⟩
theorem pGo_eq: ∀(d:List Row) (n:Nat),Full d->0<n->n<=4096->pGo n d=if n * zn d>4096 then none else some (n * zn d)
 | [],n,_,_,hn=>by rw [pGo,zn,Nat.mul_one,if_neg (by omega)]
 | l::d,n,hf,hn,_=>by
   rw [pGo,zn,<-Nat.mul_assoc]
   have hl:=hf l (by simp)
   have hp:=yX hf.tail
   split
   ·rename_i h
    have:n * l.length * 1<=n * l.length * zn d:=Nat.mul_le_mul_left _ hp
    rw [if_pos (by omega)]
   ·rename_i h
    exact pGo_eq d _ hf.tail (Nat.mul_pos hn hl) (by omega)
def T1s (d:List Row) (n:Nat):SL:=⟨[(13,.d (.lit (.int .i64 n))),(12,.d (.lit (.int .i64 d.length))),(11,aTab d),(3,.vec 500 n)],[(500,.vec 3 1 (zg rI ((d.take n).map fun l=>(yB l).1)) 0)]⟩
theorem c_ptypes (d:List Row) (hd:yE d):ACall Tryz.prog 36 [aTab d] [] (ints (zZ d)) []:=by
 refine zm mixed ttok Tryz.func36 Tryz.ntmps36 Tryz.results36 ?_
 generalize hr:ints (zZ d)=R
 simp -implicitDefEqProofs only [argT,aTab,↓zb,push_cast,simprocAttr,tte]
 refine za (fun h0=>?_) fun h0=>?_
 ·have e0:zZ d=[]:=by
   have:wO d=false:=by unfold wO;rw [decide_eq_false (by simp only [decide_eq_true_eq] at h0;omega)];rfl
   rw [zZ,this];rfl
  rw [e0] at hr
  refine zf [1] rfl (by simp) (by simp [zc]<;>omega) ?_ (by first | rfl | simp [ends] | (subst_vars;simp [ends])) (by simp [ends]) (by simp [ends])
  rw [<-hr];rfl
 have hl:d.length<=12:=by simp only [decide_eq_false_iff_not] at h0;omega
 have hdo:wO d=d.all fun l=>(yB l).2:=by unfold wO;rw [decide_eq_true hl];rfl
 refine z8 mixed ttok (fun n:Nat=>T1s d n) (fun n=>d.length-n) (fun n=>n<=d.length/\(d.all fun l=>(yB l).2)=((d.drop n).all fun l=>(yB l).2)) 0 ⟨Nat.zero_le _,rfl⟩ ?_ ?_
 ·exact (Weak.nilL 3 500 3 1 rfl rfl).trans (Weak.keepL (by simp [T1s,ends]) (by simp [T1s,zg,ends]) (by simp [T1s,ends]))
 rintro I hI n ⟨hn,hg⟩
 have hmn:min n d.length=n:=by omega
 have htl:((d.take n).map fun l=>(yB l).1).length=n:=by rw [List.length_map,List.length_take];omega
 simp -implicitDefEqProofs only [T1s,rRow,↓zb,push_cast,simprocAttr,tte]
 refine za (fun h=>?_) fun h=>?_
 ·have h':n<d.length:=by simpa using h
  have hw:=zw h' (by omega)
  have hts:(d.take (n+1)).map (fun l=>(yB l).1)=(d.take n).map (fun l=>(yB l).1)++[(yB (d.getD n default)).1]:=by rw [yr _ _ h',List.map_append];rfl
  rw [yc d n h',List.all_cons] at hg
  refine ⟨⟨by omega,by omega⟩,?_⟩
  refine zd [[3]] [] (c_kind (d.getD n default) (hd.2 _ (zx h'))) ?_
  simp -implicitDefEqProofs only [↓zb,push_cast,simprocAttr,tte]
  refine za (fun h2=>?_) fun h2=>?_
  ·have e2:(yB (d.getD n default)).2=false:=by simpa using h2
   rw [e2,Bool.false_and] at hg
   rw [zZ,hdo,hg,if_neg (by decide)] at hr
   refine zf [1] rfl (by simp) (by simp [zc]<;>omega) ?_ (by first | rfl | simp [ends] | (subst_vars;simp [ends])) (by simp [ends]) (by simp [ends])
   rw [<-hr];rfl
  have e2:(yB (d.getD n default)).2=true:=by simpa using h2
  rw [e2,Bool.true_and] at hg
  refine ⟨⟨htl.symm,by omega⟩,?_⟩
  exact zp hI (n+1) ⟨h',hg⟩ (by show d.length-(n+1)<d.length-n;omega) (Weak.keepL (by simp [T1s,hw,htl,hmn,ends]) (by simp only [T1s,hts,htl,ends,ite_true,ite_false,reduceIte,Nat.reduceEqDiff,Nat.reduceLeDiff,Nat.reduceLT,Nat.reduceAdd,reduceCtorEq,num,boo,str,ints,aV,aTab,aRow,rRow,vE]<;>simp [hmn,ends]) (by simp [T1s,ends]))
 have hnn:n=d.length:=by have:=of_decide_eq_false h;omega
 subst hnn
 rw [List.drop_length,List.all_nil] at hg
 rw [zZ,hdo,hg,if_pos rfl] at hr
 rw [List.take_length] at htl ⊢
 refine zf [1] rfl (by simp) (by simp [zc]<;>omega) ?_ (by first | rfl | simp [ends] | (subst_vars;simp [ends])) (by simp [ends]) (by simp [ends])
 rw [<-hr];rfl
def P1s (d:List Row) (x:Nat×Nat):SL:=⟨[(9,.d (.lit (.int .i64 x.1))),(8,.d (.lit (.int .i64 d.length))),(7,aTab d),(4,num x.2)],[]⟩
theorem c_points (d:List Row) (hd:yE d):ACall Tryz.prog 86 [aTab d] [] (.tup (match pGo 1 d with | some n=>[num n,num 0] | none=>[num 0,num 8])) []:=by
 refine zm mixed ttok Tryz.func86 Tryz.ntmps86 Tryz.results86 ?_
 generalize hr:A.tup (match pGo 1 d with | some n=>[num n,num 0] | none=>[num 0,num 8])=R
 simp -implicitDefEqProofs only [argT,aTab,↓zb,push_cast,simprocAttr,tte]
 refine z8 mixed ttok (fun x:Nat×Nat=>P1s d x) (fun x=>d.length-x.1) (fun x=>x.1<=d.length/\x.2<=4096/\pGo 1 d=pGo x.2 (d.drop x.1)) (0,1) ⟨Nat.zero_le _,by decide,rfl⟩ ?_ ?_
 ·exact Weak.keepL (by simp [P1s,ends]) (by simp [P1s,ends]) (by simp [P1s,ends])
 rintro I hI ⟨n,p⟩ ⟨hn,hp,hg⟩
 dsimp only at hn hp hg
 have hd1:=hd.1
 simp -implicitDefEqProofs only [P1s,rRow,↓zb,push_cast,simprocAttr,tte]
 refine za (fun h=>?_) fun h=>?_
 ·have h':n<d.length:=by simpa using h
  have hw:=zw h' (by omega)
  have hlb:=hd.2 _ (zx h')
  rw [yc d n h',pGo] at hg
  generalize (d.getD n default).length=m at hg hlb
  obtain ⟨q,hq⟩: ∃q,p * m=q:=⟨_,rfl⟩
  have hqb:q<=4096 * 1000000:=by rw [<-hq];exact Nat.mul_le_mul hp hlb
  have hwp:IntKind.i64.wrap ((p:Int) * (m:Int))=(q:Int):=by
   have:(p:Int) * (m:Int)=(q:Int):=by rw [<-hq];exact (Int.natCast_mul p m).symm
   rw [this,z7 (by omega) (by omega)]
  rw [hq] at hg
  simp only [hwp]
  refine ⟨⟨by omega,by omega⟩,?_⟩
  refine za (fun h2=>?_) fun h2=>?_
  ·rw [if_pos (by simp only [decide_eq_true_eq] at h2;omega)] at hg
   rw [hg] at hr
   exact zF trivial (by rw [<-hr];rfl) (by simp [ends])
  have h2':q<=4096:=by simp only [decide_eq_false_iff_not] at h2;omega
  rw [if_neg (by omega)] at hg
  exact zp hI (n+1,q) ⟨h',h2',hg⟩ (by show d.length-(n+1)<d.length-n;omega) (Weak.keepL (by simp [P1s,hw,ends]) (by simp [P1s,ends]) (by simp [P1s,ends]))
 have hnn:n=d.length:=by have:=of_decide_eq_false h;omega
 subst hnn
 rw [List.drop_length,pGo] at hg
 rw [hg] at hr
 exact zF trivial (by rw [<-hr];rfl) (by simp [ends])
theorem uw (d:List Row) (hd:yE d) (e:Ex) (ho:Ok12 e):ACall Tryz.prog 37 [aTab d,aE e] [] (num (zI d e)) []:=by
 refine zm mixed ttok Tryz.func37 Tryz.ntmps37 Tryz.results37 ?_
 generalize hr:num (zI d e)=R
 unfold zI at hr
 simp -implicitDefEqProofs only [argT,aTab,↓zb,push_cast,simprocAttr,tte]
 refine zd [[1]] [] (c_ptypes d hd) ?_
 simp -implicitDefEqProofs only [↓zb,push_cast,simprocAttr,tte]
 by_cases hdo:wO d=true
 ·have htl:(zZ d).length=d.length:=by rw [zZ,if_pos hdo,List.length_map]
  obtain ⟨hf,hl12⟩:=uH hdo
  rw [if_neg (by rw [hdo];decide)] at hr
  have d0:(((zZ d).length:Int) !=(d.length:Int))=false:=by rw [htl];simp
  simp -implicitDefEqProofs only [htl,bne_self_eq_false,↓zb,push_cast,simprocAttr,tte]
  have hP:=c_points d hd
  rw [pGo_eq d 1 hf (by decide) (by decide),Nat.one_mul] at hP
  by_cases hp:zn d>4096
  ·rw [if_pos hp] at hr hP
   refine zd [[1]] [] (hP) ?_
   simp -implicitDefEqProofs only [↓zb,push_cast,simprocAttr,tte]
   exact zk trivial hr (by simp [ends])
  rw [if_neg hp] at hr hP
  refine zd [[1]] [] (hP) ?_
  simp -implicitDefEqProofs only [↓zb,push_cast,simprocAttr,tte]
  refine zd [[1],[0,0,0,0,0,6]] [] (c_type (zZ d) (by rw [htl];omega) e ho) ?_
  simp -implicitDefEqProofs only [yY,↓zb,push_cast,simprocAttr,tte]
  refine za (fun h1=>?_) fun h1=>?_
  ·have e1:(xD (ownM (zZ d)) e).2=0:=by simpa using h1
   rw [if_pos e1] at hr
   refine za (fun h2=>?_) fun h2=>?_
   ·rw [if_neg (by simpa using h2)] at hr
    exact zk trivial hr (by simp [ends])
   ·rw [if_pos (by simpa using h2)] at hr
    rw [e1]
    exact zk trivial hr (by simp [ends])
  ·rw [if_neg (by simpa using h1)] at hr
   exact zk trivial hr (by simp [ends])
 ·have hdf:wO d=false:=by simpa using hdo
  rw [if_pos hdf] at hr
  have ht0:zZ d=[]:=by rw [zZ,if_neg hdo]
  have hdl:d.length≠0:=fun h=>by
   have:=List.length_eq_zero_iff.1 h
   rw [this] at hdf
   exact absurd hdf (by decide)
  rw [ht0]
  refine za (fun _=>?_) fun h=>absurd h (by simp only [bne_eq_false_iff_eq,List.length_nil];omega)
  exact zk trivial hr (by simp [ends])
end
end Go.Proofs.YtiagabnddihchaaGreatDoor
