/- Joins of two tables: a proof over an abstract machine of our own (part Wk) -/
import Derived.Test.YtnmibokjpedkiaaGreatDoorWg
import Derived.Test.YtnmibokjpedkiaaGreatDoorWj
set_option maxRecDepth 100000
set_option maxHeartbeats 4000000
set_option linter.all false
namespace Go.Proofs.YtnmibokjpedkiaaGreatDoor
section
open Go.Am
attribute [local simp, local push_cast] num boo str ints aV aTab zv aS aT aC aRow rRow
def keyed (q:Qr) (rows:List Row):List KRow:=rows.map fun r=>(keyR q r,r)
end
section
open Go.Am
attribute [local simp, local push_cast] num boo str ints aV aTab zv aS aT aC aRow rRow rG vecT yt
attribute [local simp] yj
theorem c_sorted (rows:List Row) (hl:rows.length<=100000) (hr1: ∀r∈rows,r.length<=1000):ACall Tryz.prog 69 [aTab rows] [] (aTab (srt rows)) []:=by
 refine zn mixed ttok Tryz.func69 Tryz.ntmps69 Tryz.results69 ?_
 generalize hr:aTab (srt rows)=R
 simp -implicitDefEqProofs only [argT,↓zb,push_cast,simprocAttr,tte]
 refine zo mixed ttok 8 [6,7] [] (by simp only [zC,ends,push_cast,simprocAttr];rfl) (by simp only [zH,zp,ends,push_cast,simprocAttr];rfl) rows.length (fun _=>True) (fun n=>[(3,.vec 500 (rows.take n).length)]) (fun n=>[(500,vecT (rows.take n))]) trivial ?_ ?_
 ·exact (Weak.nilL 3 500 53 1 rfl rfl).trans (Weak.keepL (by simp [cst,ends]) (by simp [cst,ends]) (by simp [cst,ends]))
 intro I hI n hn hi
 simp -implicitDefEqProofs only [cst,↓zb,push_cast,simprocAttr,tte]
 refine za (fun h=>?_) fun h=>?_
 ·have h':n<rows.length:=by have:=of_decide_eq_true h;omega
  have hw:=zj h' (by omega)
  have hs:=z7 rows n h'
  have hl2:(rows.take n).length<=100000:=by rw [List.length_take];omega
  have hls:(rows.take (n+1)).length=(rows.take n).length+1:=by rw [hs,List.length_append];rfl
  refine ⟨by omega,?_⟩
  refine ze [[3]] [] (c_cloneR (rows.getD n default) (Nat.le_trans (hr1 _ (zk h')) (by decide))) ?_
  simp -implicitDefEqProofs only [↓zb,push_cast,simprocAttr,tte]
  have hrows:zd rRow (rows.take n)++[[D.sl 3 (zd rV (rows.getD n default))]]=zd rRow (rows.take (n+1)):=by rw [hs];exact zh rRow (rows.take n) [rows.getD n default]
  rw [hrows]
  refine ⟨by omega,?_⟩
  rw [<-hls]
  exact zq hI n rfl h' trivial (by simp [hw,ends]) (by simp [hw,ends]) (by simp [hw,ends]) (by simp [hw,ends])
 obtain rfl:n=rows.length:=by have:=of_decide_eq_false h;omega
 rw [List.take_length]
 refine callx_ofV [(1000,500)] (view_sub (e:=53) (wd:=1) (fz:=0) (rows:=zd rRow rows) (by simp [ends]) (by simp [zc])) (c_sortr rows hl hr1) (by simp [hl,ends,bs]) (by simp [ends,bs]) (by simp [hl,ends]) (by simp [idsOk,lookO,updO,ren1]) ?_
 simp -implicitDefEqProofs only [↓zb,push_cast,simprocAttr,tte]
 refine zu [1] rfl (by simp) (by simp [zc]<;>omega) ?_ (by first | rfl | simp [ends] | (subst_vars;simp [ends])) (by simp [ends]) (by simp [ends])
 exact hr
end
section
open Go.Am
attribute [local simp, local push_cast] num boo str ints aV aTab zv aS aT aC aRow rRow rG vecT
def aG (g:Grp):A:= .agg [.d (.sl 3 (zd rV g.row)),num g.m,num g.n]
def vB (all:Bool):Ob:= .var [boo all]
attribute [local simp, local push_cast] aG vB
end
section
open Go.Am
attribute [local simp, local push_cast] num boo str ints aV aTab zv aS aT aC aRow rRow rG vecT vB
theorem c_bcanon (rows:List Row) (hl:rows.length<=100000) (hr1: ∀r∈rows,r.length<=1000):ACall Tryz.prog 36 [aTab rows] [] (aTab (srt rows)) []:=by
 refine zn mixed ttok Tryz.func36 Tryz.ntmps36 Tryz.results36 ?_
 generalize hr:aTab (srt rows)=R
 simp -implicitDefEqProofs only [argT,↓zb,push_cast,simprocAttr,tte]
 refine ze [[1]] [] (c_sorted rows hl hr1) ?_
 simp -implicitDefEqProofs only [↓zb,push_cast,simprocAttr,tte]
 exact zi trivial (by rw [<-hr];rfl) (by simp [ends])
theorem c_rcanon (rows:List Row) (hl:rows.length<=100000) (hr1: ∀r∈rows,r.length<=1000):ACall Tryz.prog 39 [aTab rows] [] (aTab (srt rows)) []:=by
 have:=gA rows.length rows (by omega) hl hr1
 rwa [gv _ _ (by omega)] at this
end
section
open Go.Am Go.Proofs Go.Shelf Go.RowKit
attribute [local simp, local push_cast] num boo str ints aV aTab zv aS aT aC aRow rRow yu x4 xf zM zL aAgg
theorem fn_growV {h:Nat→Option Ob} {d n:Nat} (ho:h d=none) (hn:n≤1000000):
 FnCall Tryz.prog 174 [.snil,num n] h ⟨True,.vec d 0,[(d,.vec 71 3 [] 0)],[d]⟩ where
 fn:=⟨_,Tryz.func174,by kernel_rfl,by kernel_rfl⟩
 keyed:=by simp [z6]
 calls:=fun h2 hr cx β w us rel hus=>by
  have ho2:h2 d=none:=(hr d (by simp)).trans ho
  simp only [num,repL,A.rep,D.rep] at hus
  obtain ⟨u1,_,rfl,rfl,u2,_,rfl,⟨rfl,_⟩,rfl⟩:=hus
  by_cases h0:n=0
  ·subst h0
   refine (show Calls Tryz.prog 174 #[.slice none 0 0,.int .i64 ((0:Nat):Int)] w _ from Any8.slices_Grow_room Tryz.growV none 0 0 0 w (by omega) (by omega) (by omega) (by omega)).mono ?_
   rintro e' w' ⟨rfl,rfl⟩
   obtain ⟨r1,L1⟩:=rel.nil d 71 3 ho2
   refine ⟨_,_,rfl,r1,L1,?_⟩
   simp only [A.rep,zg]
   exact ⟨71,3,[],0,by simp [upds],by simp,rfl,fun _=> .inl ⟨by simp,trivial⟩⟩
  ·obtain ⟨i0,hi,his,hib,z,hz,hzc⟩:=(ttok 71 _ rfl).info
   refine (show Calls Tryz.prog 174 #[.slice none 0 0,.int .i64 (n:Int)] w _ from Any8.slices_Grow_grow Tryz.growV i0 z hi hz (by rw [his];decide) none 0 0 n [] w (by omega) (by omega) (by rw [hib];show (0+n) * 32<=_;omega) (by omega) (by simp) (fun _=>rfl) (fun _ h=>by cases h)).mono ?_
   rintro e' w' ⟨rfl,rfl⟩
   generalize hG:grownCap w (0+n) 0 (Tryz.growV_ren.t 25)=G
   generalize hC: #[]++Builtin.zeroCells z.cells (0+n-0)++Builtin.zeroCells z.cells (G-(0+n))=C
   have hGn:0+n<=G:=by rw [<-hG];exact grownCap_ge w _ _ _
   have hGm:G<=maxLen:=by rw [<-hG];exact grownCap_le_maxLen w _ _ _ (by unfold maxLen;omega)
   obtain ⟨r0,L0⟩:=rel.drew
   obtain ⟨r1,L1⟩:=r0.alloc d (.vec 71 3 [] 0) C 71 ho2 (fun L=>by
    simp only [Ob.rep]
    exact ⟨Nat.zero_le _,fun _ h=>(by cases h),.inr ⟨_,C,rfl,zV w.drew _,by simp [Go.Am.rowsAt],by simp⟩⟩)
   have hCs:C.size=G * 3:=by
    rw [<-hC]
    have:z.cells.size=3:=by rw [hzc];rfl
    simp only [Array.size_append,size_zeroCells,this]
    simp
    omega
   refine ⟨_,_,rfl,r1,L0.trans L1,?_⟩
   simp only [A.rep,zg]
   refine ⟨71,3,[],0,by simp [upds],by simp,rfl,fun _=> .inr ⟨w.heap.size,G,by simp,rfl,Nat.zero_le _,hGm,C,71,zV w.drew _,hCs⟩⟩
theorem flatR_snoc (ll:List Row) (n:Nat) (h:n<ll.length):(ll.take (n+1)).flatten=(ll.take n).flatten++ll.getD n default:=by
 rw [z7 _ _ h,List.flatten_append];simp
theorem flatR_len: ∀(ll:List Row) (b:Nat),(∀l∈ll,l.length<=b)->ll.flatten.length<=ll.length * b
 | [],_,_=>by simp
 | l::ll,b,h=>by
   have h1:=h l (by simp)
   have h2:=flatR_len ll b fun x hx=>h x (by simp [hx])
   rw [List.flatten_cons,List.length_append,List.length_cons,Nat.add_mul]
   omega
theorem c_concatV (ll:List Row) (hl:ll.length<=1000) (hb: ∀l∈ll,l.length<=1000):ACall Tryz.prog 110 [.d (.sl 1 (zd rRow ll))] [] (aRow ll.flatten) []:=by
 refine zn mixed ttok Tryz.func110 Tryz.ntmps110 Tryz.results110 ?_
 generalize hr:aRow ll.flatten=R
 have hfl: ∀n,(ll.take n).flatten.length<=1000000:=fun n=>by
  have h1:=flatR_len (ll.take n) 1000 fun l h=>hb l (List.mem_of_mem_take h)
  have h2:(ll.take n).length<=1000:=Nat.le_trans (by rw [List.length_take];exact Nat.min_le_right _ _) hl
  have:=Nat.mul_le_mul_right 1000 h2
  omega
 simp -implicitDefEqProofs only [argT,↓zb,push_cast,simprocAttr,tte]
 refine zo mixed ttok 11 [0,9,10] [] (by simp only [zC,ends,push_cast,simprocAttr];rfl) (by simp only [zH,zp,ends,push_cast,simprocAttr];rfl) ll.length (fun _=>True) (fun n=>[(3,num ((ll.take n).flatten.length:Nat))]) (fun _=>[]) trivial ?_ ?_
 ·exact Weak.keepL (by simp [cst,ends]) (by simp [cst,ends]) (by simp [cst,ends])
 intro I hI n hn hi
 simp -implicitDefEqProofs only [cst,↓zb,push_cast,simprocAttr,tte]
 refine za (fun h=>?_) fun h=>?_
 ·have h':n<ll.length:=by have:=of_decide_eq_true h;omega
  have hw:=zj h' (by omega)
  have hs:=flatR_snoc ll n h'
  have h1:=hfl n
  have h2:=hb _ (zk h')
  have hws:IntKind.i64.wrap (((ll.take n).flatten.length:Nat)+((ll.getD n default).length:Nat):Int)=(((ll.take (n+1)).flatten.length:Nat):Int):=by
   rw [hs,List.length_append,zw (by omega) (by omega)];omega
  refine ⟨(by first | omega | trivial | (refine ⟨?_,?_⟩<;>first | omega | trivial | (refine ⟨?_,?_⟩<;>first | omega | trivial | (refine ⟨?_,?_⟩<;>first | omega | trivial | rfl)))),?_⟩
  rw [hws]
  refine za (fun h=>absurd (of_decide_eq_true h) (by omega)) (fun _=>?_)
  exact zq hI n rfl h' trivial (by simp [hw,ends]) (by simp [hw,ends]) (by simp [hw,ends]) (by simp [hw,ends])
 obtain rfl:n=ll.length:=by have:=of_decide_eq_false h;omega
 clear hI
 refine callx_fn (fn_growV (d:=600) (n:=(ll.take ll.length).flatten.length) rfl (hfl _)) rfl ?_
 simp -implicitDefEqProofs only [↓zb,push_cast,simprocAttr,tte]
 refine zo mixed ttok 27 [25,26] [] (by simp only [zC,ends,push_cast,simprocAttr];rfl) (by simp only [zH,zp,ends,push_cast,simprocAttr];rfl) ll.length (fun _=>True) (fun n=>[(6,.vec 600 (ll.take n).flatten.length)]) (fun n=>[(600,.vec 71 3 (zd rV (ll.take n).flatten) 0)]) trivial ?_ ?_
 ·exact Weak.keepL (by simp [cst,ends]) (by simp [cst,zd,ends]) (by simp [cst,ends])
 intro I hI n hn hi
 simp -implicitDefEqProofs only [cst,↓zb,push_cast,simprocAttr,tte]
 refine za (fun h=>?_) fun h=>?_
 ·have h':n<ll.length:=by have:=of_decide_eq_true h;omega
  have hw:=zj h' (by omega)
  have hs:=flatR_snoc ll n h'
  have h1:=hfl n
  have h2:=hb _ (zk h')
  have hz:(ll.take n++[ll.getD n default]).flatten.length=(ll.take n).flatten.length+(ll.getD n default).length:=by rw [List.flatten_append,List.length_append];simp
  refine ⟨(by first | omega | trivial | (refine ⟨?_,?_⟩<;>first | omega | trivial | (refine ⟨?_,?_⟩<;>first | omega | trivial | (refine ⟨?_,?_⟩<;>first | omega | trivial | rfl)))),?_⟩
  refine ⟨by omega,?_⟩
  exact zq hI n rfl h' trivial (by simp [hw,hs,hz,zh,ends]) (by simp [hw,hs,hz,zh,ends]) (by simp [hw,hs,hz,zh,ends]) (by simp [hw,hs,hz,zh,ends])
 obtain rfl:n=ll.length:=by have:=of_decide_eq_false h;omega
 rw [List.take_length]
 refine zu [3] rfl (by simp) (by simp [zc]<;>omega) ?_ (by first | rfl | simp [ends] | (subst_vars;simp [ends])) (by simp [ends]) (by simp [ends])
 exact hr
theorem c_cat2 (a b:Row) (ha:a.length<=1000) (hb:b.length<=1000):ACall Tryz.prog 110 [.d (.sl 1 [[.sl 3 (zd rV a)],[.sl 3 (zd rV b)]])] [] (aRow (a++b)) []:=by
 have h:=c_concatV [a,b] (by simp) (by intro l hl;simp at hl;rcases hl with rfl | rfl<;>assumption)
 have hfl:[a,b].flatten=a++b:=by simp
 rw [hfl] at h
 exact h
theorem c_both (a b:Row) (ha:a.length<=1000) (hb:b.length<=1000):ACall Tryz.prog 140 [aRow a,aRow b] [] (aRow (a++b)) []:=by
 suffices hS: ∀R,aRow (a++b)=R->ACall Tryz.prog 140 [aRow a,aRow b] [] R [] from hS _ rfl
 intro R hr
 refine zn mixed ttok Tryz.func140 Tryz.ntmps140 Tryz.results140 ?_
 simp -implicitDefEqProofs only [argT,↓zb,push_cast,simprocAttr,tte]
 refine ⟨by omega,by omega,?_⟩
 refine zu [3] rfl (by simp) (by simp [zc]<;>omega) ?_ (by first | rfl | simp [ends] | (subst_vars;simp [ends])) (by simp [ends]) (by simp [ends])
 rw [zh]
 exact hr
end
end Go.Proofs.YtnmibokjpedkiaaGreatDoor
