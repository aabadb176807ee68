/- Groups of a query have one row for each key, and their counts add up: a proof over an abstract machine of our own (part Wl) -/
import Derived.Test.YtnmibokjpedkiaaGreatDoorWk
set_option maxRecDepth 100000
set_option maxHeartbeats 4000000
set_option linter.all false
namespace Go.Proofs.YtnmibokjpedkiaaGreatDoor
section
open Go.Am
attribute [local simp, local push_cast] num boo str ints aV aTab zx aS aT aC aRow rRow yQ wW wu zP zO aAgg rKk aKR yn vQ vecT
def vKs (l:List KRow):Ob:= .var [.d (.sl 2 (zd rKk l))]
attribute [local simp, local push_cast] vKs
theorem c_g2 (x:KRow) (l:List KRow) (hl:0<l.length) (hx:x.1.length<=1000000):
 ACall Tryz.prog 121 [aKR x,.ptr 1000 0] [(1000,vKs l)] (boo (cmpR x.1 (l.getD 0 default).1 !=0)) [(1000,vKs l)]:=by
 refine zl mixed ttok Tryz.func121 Tryz.ntmps121 Tryz.results121 ?_
 generalize hr:boo (cmpR x.1 (l.getD 0 default).1 !=0)=R
 simp -implicitDefEqProofs only [argT,↓zb,push_cast,simprocAttr,tte]
 refine ⟨by omega,?_⟩
 refine ze [[3],[3]] [] (uk x.1 (l.getD 0 default).1 hx) ?_
 simp -implicitDefEqProofs only [↓zb,push_cast,simprocAttr,tte]
 refine ⟨zf (by kernel_rfl),?_⟩
 exact ret_dV trivial (by rw [<-hr];rfl) (by simp [ends]) (by simp [ends])
theorem c_idxKK (l:List KRow) (hl:0<l.length) (hl2:l.length<=100000) (hw: ∀x∈l,x.1.length<=1000):
 ACall Tryz.prog 120 [.d (.sl 2 (zd rKk l)),.clo 121 [.ptr 1000 0]] [(1000,vKs l)] (num (fidx (fun x=>cmpR x.1 (l.getD 0 default).1 !=0) l)) [(1000,vKs l)]:=by
 refine zl mixed ttok Tryz.func120 Tryz.ntmps120 Tryz.results120 ?_
 obtain ⟨p,hp⟩: ∃p:KRow->Bool,p=fun x=>cmpR x.1 (l.getD 0 default).1 !=0:=⟨_,rfl⟩
 rw [<-hp]
 generalize hr:num (fidx p l)=R
 simp -implicitDefEqProofs only [argT,↓zb,push_cast,simprocAttr,tte]
 refine z7 mixed ttok (fun n:Nat=>(⟨[(8,num n),(7,num l.length),(0,.d (.sl 2 (zd rKk l))),(1,.clo 121 [.ptr 1000 0])],[(1000,vKs l)]⟩:SL)) (fun n=>l.length-n) (fun n=>n<=l.length/\ ∀i,i<n->p (l.getD i default)=false) 0 ⟨Nat.zero_le _,fun i h=>absurd h (Nat.not_lt_zero _)⟩ ?_ ?_
 ·exact Weak.keepL (by simp [ends]) (by simp [ends]) (by simp [ends])
 intro I hI n ⟨hn,hi⟩
 simp -implicitDefEqProofs only [↓zb,push_cast,simprocAttr,tte]
 refine za (fun h=>?_) fun h=>?_
 ·have h':n<l.length:=by have:=of_decide_eq_true h;omega
  have hw2:=zh h' (by omega)
  refine ⟨by omega,?_⟩
  have hc:=c_g2 (l.getD n default) l hl (Nat.le_trans (hw _ (zk h')) (by decide))
  simp only [aKR] at hc
  refine ze [[3,3],[0]] [(1000,1000)] (hc) ?_
  simp -implicitDefEqProofs only [↓zb,push_cast,simprocAttr,tte]
  have hb:(cmpR (l.getD n default).1 (l.getD 0 default).1 !=0)=p (l.getD n default):=by rw [hp]
  rw [hb]
  refine za (fun g=>?_) fun g=>?_
  ·exact ret_dV trivial (by rw [<-hr,wi p l n h' hi g];rfl) (by simp [ends]) (by simp [ends])
  ·exact zq hI (n+1) ⟨h',fun i h2=>if h3:i=n then by rw [h3];exact g else hi i (by omega)⟩ (by show l.length-(n+1)<l.length-n;omega) (Weak.keepL (by simp [hw2,ends]) (by simp [ends]) (by simp [ends]))
 ·obtain rfl:n=l.length:=by have:=of_decide_eq_false h;omega
  exact ret_dV trivial (by rw [<-hr,xb p l hi];rfl) (by simp [ends]) (by simp [ends])
theorem fidx_cnt (k:Row): ∀l:List KRow,(if fidx (fun x:KRow=>cmpR x.1 k !=0) l<0 then (l.length:Int) else fidx (fun x:KRow=>cmpR x.1 k !=0) l)=cntK k l
 | []=>rfl
 | x::l=>by
   have ih:=fidx_cnt k l
   have hg:=fidx_ge (fun x:KRow=>cmpR x.1 k !=0) l
   unfold cntK at ih ⊢
   rw [List.map_cons,xH,fidx]
   by_cases h:cmpR x.1 k=0
   ·have hb:(cmpR x.1 k !=0)=false:=by simp [h]
    rw [hb,if_pos h,if_neg (show¬false=true by decide),List.length_cons]
    split at ih
    ·rename_i h2;rw [if_pos h2,if_pos (by decide)];omega
    ·rename_i h2;rw [if_neg h2,if_neg (by omega)];omega
   ·have hb:(cmpR x.1 k !=0)=true:=by simp [h]
    rw [hb,if_neg h,if_pos rfl];rfl
theorem meet_bs {b:Bool} {p1 p2:Prop} {P:Program} {c:Code} {K:Exit->SL->Prop} {σ1 σ2:SL} (s:SL) (h1:b=true->p1/\Weak σ1.st s.st) (h2:b=false->p2/\Weak σ2.st s.st) (h: ∀σ:SL,Weak σ.st s.st->wk P c K σ):vg b (p1/\wk P c K σ1) (p2/\wk P c K σ2):=
 ⟨fun e=>⟨(h1 e).1,h _ (h1 e).2⟩,fun e=>⟨(h2 e).1,h _ (h2 e).2⟩⟩
theorem c_groupsP (q:Qr) (hq:OkQ1 q) (rows:List Row) (hl:rows.length≤1000) (hv: ∀a∈q.aggs,∀v∈yN a.arg rows,okV v):
 ACall Tryz.prog 68 [aQ q,aTab rows] [] (aTab (grP q rows)) []:=by
 rw [x4]
 have hal:=hq.aggs
 have hel:=hq.exprs
 refine zl mixed ttok Tryz.func68 Tryz.ntmps68 Tryz.results68 ?_
 generalize hr:aTab (grP q rows)=R
 simp -implicitDefEqProofs only [argT,↓zb,push_cast,simprocAttr,tte]
 refine z7 mixed ttok (fun n:Nat=>(⟨[(15,num n),(14,num rows.length),(13,aTab rows),(2,.ptr 2 0),(5,.ptr 5 0),(4,.snil)],[(2,vQ q),(5,.var [.vec 500 (keyed q (rows.take n)).length]),(500,yn (keyed q (rows.take n)))]⟩:SL)) (fun n=>rows.length-n) (fun n=>n<=rows.length) 0 (Nat.zero_le _) ?_ ?_
 ·exact (Weak.nilCellL 5 0 500 160 2 rfl rfl rfl).trans (Weak.keepL (by simp [keyed,ends]) (by simp [keyed,ends]) (by simp [ends]))
 intro I hI n hn
 have hs:n<rows.length->keyed q (rows.take (n+1))=keyed q (rows.take n)++[(keyR q (rows.getD n default),rows.getD n default)]:=fun h=>by unfold keyed;rw [zz _ _ h,List.map_append];rfl
 have hl2:(keyed q (rows.take n)).length=n:=by unfold keyed;rw [List.length_map,List.length_take];omega
 simp -implicitDefEqProofs only [↓zb,push_cast,simprocAttr,tte]
 refine za (fun h=>?_) fun h=>?_
 ·have h':n<rows.length:=by have:=of_decide_eq_true h;omega
  have hw:=zh h' (by omega)
  have hs:=hs h'
  have hls:(keyed q (rows.take (n+1))).length=(keyed q (rows.take n)).length+1:=by rw [hs,List.length_append];rfl
  obtain ⟨L,hL⟩: ∃L,L=keyed q (rows.take n):=⟨_,rfl⟩
  rw [<-hL] at hs hl2 hls ⊢
  refine ⟨by omega,?_⟩
  refine ze [[6],[3]] [] (c_mvals q.exprs (rows.getD n default) hel hq.ex) ?_
  simp -implicitDefEqProofs only [↓zb,push_cast,simprocAttr,tte]
  have hrows:zd rKk L++[[D.sl 3 (zd rV (q.exprs.map (y9 (rows.getD n default)))),D.sl 3 (zd rV (rows.getD n default))]]=zd rKk (L++[(keyR q (rows.getD n default),rows.getD n default)]):=zj rKk L [(keyR q (rows.getD n default),rows.getD n default)]
  rw [hrows,<-hs]
  refine ⟨by omega,zf (by kernel_rfl),?_⟩
  rw [<-hls]
  exact zq hI (n+1) h' (by show rows.length-(n+1)<rows.length-n;omega) (Weak.keepL (by simp [hw,ends]) (by simp [ends]) (by simp [ends]))
 obtain rfl:n=rows.length:=by have:=of_decide_eq_false h;omega
 rw [List.take_length] at hl2 ⊢
 have hkw: ∀x∈keyed q rows,x.1.length<=1000:=fun x hx=>by
  obtain ⟨r,_,rfl⟩:=List.mem_map.1 hx
  show (keyR q r).length<=1000
  unfold keyR;rw [List.length_map];exact hel
 refine kV [(1000,500)] (qy (e:=160) (wd:=2) (fz:=0) (rows:=zd rKk (keyed q rows)) (by simp [ends]) (by simp [zc])) (c_sortk (keyed q rows) (by omega) hkw) (by simp [hl,ends,bs]) (by simp [ends,bs]) (by simp [hl,ends]) (by simp [idsOk,lookO,updO,ren1]) ?_
 simp -implicitDefEqProofs only [↓zb,push_cast,simprocAttr,tte]
 have hSl:(zA leKk (keyed q rows)).length=rows.length:=by rw [zK];exact hl2
 have hSm: ∀x∈zA leKk (keyed q rows),x.1.length<=1000:=fun x hx=>hkw x ((zS _).mem_iff.1 hx)
 have hSv: ∀x∈zA leKk (keyed q rows),x.2∈rows:=fun x hx=>by
  obtain ⟨r,hr,rfl⟩:=List.mem_map.1 ((zS _).mem_iff.1 hx)
  exact hr
 have hrun:=run_grP q rows
 rw [hl2]
 generalize zA leKk (keyed q rows)=S at hSl hSm hSv hrun ⊢
 refine ⟨hSl.symm,?_⟩
 have z1: ∀n:Nat,((n:Int)==0)=true->n=0:=fun n h=>by simpa using h
 have z2: ∀n:Nat,((n:Int)==0)=false-> ¬n=0:=fun n h e=>by subst e;exact absurd h (by decide)
 have z3: ∀n:Nat,n=0->((n:Int)==0)=true:=fun n e=>by subst e;rfl
 refine meet_ab ⟨[(2,.ptr 2 0),(5,.ptr 5 0),(8,.vec 700 0)],[(2,vQ q),(5,vKs S),(700,vecT [])]⟩ (fun h1 h2=>?_) (fun h1 h2=>?_) (fun h1=>?_) (fun hQ σ hw=>?_)
 ·have hc:=c_aggd q hq [] [] (by decide) (by decide) (fun a ha v hv=>by cases hv)
  rw [x4] at hc
  refine ze [[0,0,0,0,0,0,0,0,0,6,6,7,1,1,15],[3],[1]] [] (hc) ?_
  simp -implicitDefEqProofs only [↓zb,push_cast,simprocAttr,tte]
  refine zt [1] rfl (by simp) (by simp [zc]<;>omega) ?_ (by first | rfl | simp [ends] | (subst_vars;simp [ends])) (by simp [ends]) (by simp [ends])
  rw [<-hr,grP_none q rows (z1 _ h1) (z1 _ h2)]
  rfl
 ·refine (Weak.frzCellL 5 0 2 rfl rfl rfl (by simp [zc,hSl]) rfl).trans ?_
  exact (Weak.nilL 8 700 53 1 rfl rfl).trans (Weak.keepL (by simp [ends]) (by simp [vKs,ends]) (by simp [ends]))
 ·refine (Weak.frzCellL 5 0 2 rfl rfl rfl (by simp [zc,hSl]) rfl).trans ?_
  exact (Weak.nilL 8 700 53 1 rfl rfl).trans (Weak.keepL (by simp [ends]) (by simp [vKs,ends]) (by simp [ends]))
 ·have hrun:=hrun (fun h=>hQ ⟨z3 _ h.1,z3 _ h.2⟩)
  refine z7 mixed ttok (fun x:List KRow×List Row=>(⟨[(2,.ptr 2 0),(5,.ptr 5 0),(8,.vec 700 x.2.length)],[(2,vQ q),(5,vKs x.1),(700,vecT x.2)]⟩:SL)) (fun x=>x.1.length)
   (fun x=>(∀y∈x.1,y∈S)/\x.2.length+x.1.length<=1000/\x.2++runM q x.1=grP q rows) (S,[]) ⟨fun y h=>h,by show 0+S.length<=1000;omega,hrun⟩ hw ?_
  intro I hI ⟨X,out⟩ ⟨hXS,hol,hinv⟩
  simp only at hXS hol hinv
  simp -implicitDefEqProofs only [↓zb,push_cast,simprocAttr,tte]
  refine za (fun h1=>?_) fun h1=>?_
  ·have h1':0<X.length:=by have:=of_decide_eq_true h1;omega
   refine ze [[2],[]] [(1000,5)] (c_idxKK X h1' (by omega) (fun x hx=>hSm x (hXS x hx))) ?_
   simp -implicitDefEqProofs only [↓zb,push_cast,simprocAttr,tte]
   have hcnt:=fidx_cnt (X.getD 0 default).1 X
   have hcl:=cntK_le (X.getD 0 default).1 X
   have hfl:=wh (fun x:KRow=>cmpR x.1 (X.getD 0 default).1 !=0) X
   have hX0:X=X.getD 0 default::X.drop 1:=by have:=zy X 0 h1';simpa using this
   have hcp:0<cntK (X.getD 0 default).1 X:=by rw [hX0];exact gd _ _
   have hinv2:out++((X.getD 0 default).1++wz q ((X.take (cntK (X.getD 0 default).1 X)).map Prod.snd))::runM q (X.drop (cntK (X.getD 0 default).1 X))=grP q rows:=by
    rw [<-hinv]
    congr 1
    have:=runM_cons q (X.getD 0 default) (X.drop 1)
    rw [<-hX0] at this
    exact this.symm
   have hk0:=hSm _ (hXS _ (zk h1'))
   generalize fidx (fun x:KRow=>cmpR x.1 (X.getD 0 default).1 !=0) X=fi at *
   generalize cntK (X.getD 0 default).1 X=c at *
   have hgm: ∀r∈(X.take c).map Prod.snd,r∈rows:=fun r hr=>by
    obtain ⟨y,hy,rfl⟩:=List.mem_map.1 hr
    exact hSv y (hXS y (List.mem_of_mem_take hy))
   refine meet_bs ⟨[(59,num (0:Nat)),(58,num c),(57,.d (.sl 2 (zd rKk (X.take c)))),(10,.vec 600 0),(9,num c),(2,.ptr 2 0),(5,.ptr 5 0),(8,.vec 700 out.length)],[(2,vQ q),(5,vKs X),(700,vecT out),(600,vecT [])]⟩ (fun g=>?_) (fun g=>?_) fun σ2 hw2=>?_
   ·have g':fi<0:=of_decide_eq_true g
    rw [if_pos g'] at hcnt
    have hc2:c=X.length:=by omega
    subst hc2
    refine ⟨by omega,?_⟩
    exact (Weak.nilL 10 600 53 1 rfl rfl).trans (Weak.keepL (by simp [ends]) (by simp [vKs,ends]) (by simp [ends]))
   ·have g': ¬fi<0:=of_decide_eq_false g
    rw [if_neg g'] at hcnt
    subst hcnt
    refine ⟨by omega,?_⟩
    exact (Weak.nilL 10 600 53 1 rfl rfl).trans (Weak.keepL (by simp [hcl,ends]) (by simp [vKs,ends]) (by simp [ends]))
   clear hcnt
   obtain ⟨Y,hY⟩: ∃Y,Y=X.take c:=⟨_,rfl⟩
   have hYl:Y.length=c:=by rw [hY,List.length_take];omega
   rw [<-hY] at hw2 hinv2 hgm
   refine z7 mixed ttok (fun j:Nat=>(⟨[(59,num j),(58,num c),(57,.d (.sl 2 (zd rKk Y))),(10,.vec 600 ((Y.take j).map Prod.snd).length),(9,num c),(2,.ptr 2 0),(5,.ptr 5 0),(8,.vec 700 out.length)],[(2,vQ q),(5,vKs X),(700,vecT out),(600,vecT ((Y.take j).map Prod.snd))]⟩:SL)) (fun j=>c-j) (fun j=>j<=c) 0 (Nat.zero_le _) (hw2.trans (Weak.keepL (by simp [ends]) (by simp [vKs,ends]) (by simp [ends]))) ?_
   intro J hJ j hj
   have hs:j<Y.length->(Y.take (j+1)).map Prod.snd=(Y.take j).map Prod.snd++[(Y.getD j default).2]:=fun h=>by rw [zz _ _ h,List.map_append];rfl
   have hl3:((Y.take j).map Prod.snd).length=j:=by rw [List.length_map,List.length_take];omega
   simp -implicitDefEqProofs only [vKs,↓zb,push_cast,simprocAttr,tte]
   refine za (fun f=>?_) fun f=>?_
   ·have f':j<Y.length:=by have:=of_decide_eq_true f;omega
    have hwj:=zh f' (by omega)
    have hs:=hs f'
    have hls:((Y.take (j+1)).map Prod.snd).length=((Y.take j).map Prod.snd).length+1:=by rw [hs,List.length_append];rfl
    obtain ⟨L,hL⟩: ∃L,L=(Y.take j).map Prod.snd:=⟨_,rfl⟩
    rw [<-hL] at hs hl3 hls ⊢
    have hrows:zd rRow L++[[D.sl 3 (zd rV (Y.getD j default).2)]]=zd rRow (L++[(Y.getD j default).2]):=zj rRow L [(Y.getD j default).2]
    rw [hrows,<-hs]
    refine ⟨by omega,by omega,?_⟩
    rw [<-hls]
    exact zq hJ (j+1) (by omega) (by show c-(j+1)<c-j;omega) (Weak.keepL (by simp [hwj,ends]) (by simp [vKs,ends]) (by simp [ends]))
   obtain rfl:j=c:=by have:=of_decide_eq_false f;omega
   rw [<-hYl,List.take_length] at hl3 ⊢
   have hc:=c_aggd q hq (X.getD 0 default).1 (Y.map Prod.snd) hk0 (by omega) (fun a ha v hv2=>hv a ha v (by
    unfold yN at hv2 ⊢
    rw [List.mem_filter] at hv2 ⊢
    obtain ⟨h3,h4⟩:=hv2
    obtain ⟨r,hr,rfl⟩:=List.mem_map.1 h3
    exact ⟨List.mem_map_of_mem (hgm r hr),h4⟩))
   rw [x4] at hc
   refine ⟨by omega,?_⟩
   refine ze [[0,0,0,0,0,0,0,0,0,6,6,7,1,1,15],[3],[1]] [] (hc) ?_
   simp -implicitDefEqProofs only [↓zb,push_cast,simprocAttr,tte]
   rw [List.take_length]
   have hrows:zd rRow out++[[D.sl 3 (zd rV ((X.getD 0 default).1++wz q (Y.map Prod.snd)))]]=zd rRow (out++[(X.getD 0 default).1++wz q (Y.map Prod.snd)]):=zj rRow out [(X.getD 0 default).1++wz q (Y.map Prod.snd)]
   rw [hrows]
   have hlo:out.length+1=(out++[(X.getD 0 default).1++wz q (Y.map Prod.snd)]).length:=by rw [List.length_append];rfl
   rw [hlo]
   refine ⟨by omega,zf (by kernel_rfl),by omega,?_⟩
   exact zq hI (X.drop Y.length,out++[(X.getD 0 default).1++wz q (Y.map Prod.snd)]) ⟨fun y hy=>hXS y (List.mem_of_mem_drop hy),by show (out++[_]).length+(X.drop Y.length).length<=1000;rw [<-hlo,List.length_drop];omega,by show (out++[_])++runM q (X.drop Y.length)=grP q rows;rw [<-hinv2,hYl,List.append_assoc];rfl⟩ (by show (X.drop Y.length).length<X.length;rw [List.length_drop];omega) (Weak.keepL (by simp [ends]) (by simp [vKs,ends]) (by simp [ends]))
  ·have h1':X.length=0:=by have:=of_decide_eq_false h1;omega
   rw [List.eq_nil_of_length_eq_zero h1',runM_nil,List.append_nil] at hinv
   refine zt [1] rfl (by simp) (by simp [zc]<;>omega) ?_ (by first | rfl | simp [ends] | (subst_vars;simp [ends])) (by simp [ends]) (by simp [ends])
   rw [<-hr,<-hinv]
   rfl
end
section
open Go.Am
attribute [local simp, local push_cast] num boo str ints aV aTab zx aS aT aC aRow rRow
structure RO (w:Nat) (rows:List Row):Prop where
 len:rows.length<=1000
 wid: ∀r∈rows,r.length=w
 val: ∀r∈rows,∀v∈r,okV v
structure RW (w:Nat) (rows:List Row):Prop where
 wid: ∀r∈rows,r.length=w
 val: ∀r∈rows,∀v∈r,okV v
structure OkI (s:Sch) (i:Inst):Prop where
 len:i.length=s.length
 tab: ∀n,n<s.length->RO (s.getD n default).columns.length (i.getD n default)
structure OkXQ1 (q:Qr):Prop where
 cond:OkX q.cond
 ex: ∀e∈q.exprs,OkX e
 ag: ∀a∈q.aggs,OkX a.arg
 row: ∀r∈q.rows,∀v∈r,okV v
inductive OkXQ:Qr->Prop
 | mk (q:Qr) (h:OkXQ1 q) (hk: ∀k∈q.kids,OkXQ k):OkXQ q
theorem OkXQ.one {q:Qr} (h:OkXQ q):OkXQ1 q:=by cases h;assumption
theorem OkXQ.kid {q k:Qr} (h:OkXQ q) (hk:k∈q.kids):OkXQ k:=by cases h with | mk _ _ h2=>exact h2 k hk
theorem okV_sum (l:List Val):okV (sumS l):=by
 unfold sumS
 split
 ·exact yD
 ·split
  ·exact qL ⟨by omega,by omega⟩
  ·exact yD
theorem okV_agg (fn:Int) (e:Ex) (rows:List Row) (hl:rows.length<=1000) (hv: ∀v∈yN e rows,okV v):okV (aggM fn e rows):=by
 have h1:=valsM_len e rows
 have hS: ∀v∈sortV (yN e rows),okV v:=fun v h=>hv v ((j8 _).mem_iff.1 h)
 have h2:=j9 (yN e rows)
 have h3:=ddTo_len (sortV (yN e rows)) (sortV (yN e rows)).length
 unfold aggM
 repeat' split
 all_goals first
  | exact yD
  | exact okV_sum _
  | exact jo hS _
  | exact qL ⟨by omega,by omega⟩
theorem okV_aggs {q:Qr} (hq:OkXQ1 q) {rows:List Row} (hl:rows.length<=1000) (hr: ∀r∈rows,∀v∈r,okV v):(wz q rows).length=q.aggs.length/\ ∀v∈wz q rows,okV v:=by
 refine ⟨by simp [wz],fun v hv=>?_⟩
 obtain ⟨a,ha,rfl⟩:=List.mem_map.1 hv
 exact okV_agg _ _ _ hl (okV_vals _ _ (hq.ag a ha) hr)
theorem okV_key {q:Qr} (hq:OkXQ1 q) {r:Row} (hr: ∀v∈r,okV v):(keyR q r).length=q.exprs.length/\ ∀v∈keyR q r,okV v:=by
 refine ⟨by simp [keyR],fun v hv=>?_⟩
 obtain ⟨e,he,rfl⟩:=List.mem_map.1 hv
 exact okV_eval r hr e (hq.ex e he)
def GrOk (gr:GF):Prop:= ∀(q:Qr) (rows:List Row),OkXQ1 q->rows.length<=1000->(∀r∈rows,∀v∈r,okV v)->RW (q.exprs.length+q.aggs.length) (gr q rows)
theorem grps_ok {q:Qr} {rows keys:List Row} (hq:OkXQ1 q) (hl:rows.length<=1000) (hr: ∀r∈rows,∀v∈r,okV v) (hk: ∀k∈keys,k.length=q.exprs.length/\ ∀v∈k,okV v):RW (q.exprs.length+q.aggs.length) (grpsR q rows keys):=by
 have key: ∀x∈grpsR q rows keys,x.length=q.exprs.length+q.aggs.length/\ ∀v∈x,okV v:=fun x hx=>by
  obtain ⟨k,hk2,rfl⟩:=List.mem_map.1 hx
  obtain ⟨a1,a2⟩:=hk k hk2
  obtain ⟨b1,b2⟩:=okV_aggs hq (rows:=rows.filter fun r=>cmpR (keyR q r) k==0) (Nat.le_trans (List.length_filter_le _ _) hl) (fun r h=>hr r (List.mem_filter.1 h).1)
  exact ⟨by rw [List.length_append,a1,b1],fun v hv=>(List.mem_append.1 hv).elim (a2 v) (b2 v)⟩
 exact ⟨fun r h=>(key r h).1,fun r h=>(key r h).2⟩
theorem grP_ok:GrOk grP:=fun q rows hq hl hr=>grps_ok hq hl hr fun k hk=>by
 unfold gkP at hk
 split at hk
 ·rename_i h0
  simp only [List.mem_singleton] at hk
  subst hk
  exact ⟨by simp [h0],fun v h=>by cases h⟩
 ·obtain ⟨r,hr2,rfl⟩:=List.mem_map.1 (((xt _).2 k).1 hk)
  exact okV_key hq (hr r hr2)
theorem typ_kids {s:Sch} {q:Qr} (h:(typQ s q).2=0):(∀k∈q.kids,(typQ s k).2=0)/\typQ s q=ownQ s q (q.kids.map fun k=>(typQ s k).1):=by
 rw [kI,q9] at h ⊢
 by_cases hf:ferr Prod.snd (q.kids.map (typQ s))=0
 ·rw [if_pos hf]
  refine ⟨fun k hk=>?_,by rw [List.map_map];rfl⟩
  rw [vJ] at hf
  exact xG hf k hk
 ·rw [if_neg hf] at h
  exact absurd h hf
theorem own_fm {s:Sch} {q:Qr} {ks:List (List Int)} (h:(ownQ s q ks).2=0):(1≤q.op∧q.op≤10)∧(ks.length:Int)=(yZ q.op).kids:=by
 unfold ownQ at h
 split at h
 ·exact absurd h (by decide)
 ·rename_i h1
  split at h
  ·exact absurd h (by decide)
  ·rename_i h2
   refine ⟨?_,by simpa using h2⟩
   by_cases hf:isFm q.op=false
   ·exact absurd (.inl hf) h1
   ·simp only [isFm,Bool.and_eq_false_iff,decide_eq_false_iff_not,not_or,Classical.not_not] at hf
    exact hf
theorem fm_kids (op:Int) (h:1<=op/\op<=10):(yZ op).kids=if op=1\/op=2 then 0 else if 5<=op/\op<=8 then 2 else 1:=by
 have:op=1\/op=2\/op=3\/op=4\/op=5\/op=6\/op=7\/op=8\/op=9\/op=10:=by omega
 rcases this with rfl | rfl | rfl | rfl | rfl | rfl | rfl | rfl | rfl | rfl<;>decide
theorem own_rest {s:Sch} {q:Qr} {ks:List (List Int)} (h:(ownQ s q ks).2=0):ownQ s q ks=(if q.op=1 then (if byT s q.table≥0 then (zL (s.getD (byT s q.table).toNat default),0) else ([],11))
 else if q.op=2 then (if wQ q≠0 then ([],wQ q) else (q.types,0))
 else if q.op=3 then (if uE (ks.getD 0 default) q.cond≠0 then ([],uE (ks.getD 0 default) q.cond) else (ks.getD 0 default,0))
 else if q.op=4 then (if q.exprs.length=0\/q.exprs.length>24 then ([],9) else wL (ks.getD 0 default) q.exprs)
 else if q.op=5 then joinM (ks.getD 0 default) (ks.getD 1 default) q
 else if q.op=10 then jf (ks.getD 0 default) q
 else if q.op=6\/q.op=7\/q.op=8 then (if (ks.getD 0 default==ks.getD 1 default)=true then (ks.getD 0 default,0) else ([],4))
 else (ks.getD 0 default,0)):=by
 have h2:=h
 unfold ownQ at h2 ⊢
 split
 ·rename_i h1;rw [if_pos h1] at h2;exact absurd h2 (by decide)
 ·rename_i h1
  rw [if_neg h1] at h2
  split
  ·rename_i h3;rw [if_pos h3] at h2;exact absurd h2 (by decide)
  ·rfl
theorem listM_ok {α:Type} {f:α->Int×Int} {l:List α} (h:(wo f l).2=0):(wo f l).1.length=l.length:=by
 unfold wo at h ⊢
 split
 ·simp
 ·rename_i h2;rw [if_neg h2] at h;exact absurd h h2
structure Typed (s:Sch) (q:Qr):Prop where
 op:1<=q.op/\q.op<=10
 kids:q.kids.length=if q.op=1\/q.op=2 then 0 else if 5<=q.op/\q.op<=8 then 2 else 1
 kid: ∀k∈q.kids,(typQ s k).2=0
 scan:q.op=1->0<=byT s q.table/\(typQ s q).1.length=(s.getD (byT s q.table).toNat default).columns.length
 vals:q.op=2->(typQ s q).1=q.types/\(∀r∈q.rows,r.length=q.types.length)/\q.types.length<=24
 same:(q.op=3\/q.op=9)->(typQ s q).1=(typQ s (q.kids.getD 0 default)).1
 proj:q.op=4->(typQ s q).1.length=q.exprs.length
 join:q.op=5->(1<=q.kind/\q.kind<=6)/\(typQ s (q.kids.getD 0 default)).1.length+(typQ s (q.kids.getD 1 default)).1.length<=24/\
  (typQ s q).1.length=if q.kind=5\/q.kind=6 then (typQ s (q.kids.getD 0 default)).1.length else (typQ s (q.kids.getD 0 default)).1.length+(typQ s (q.kids.getD 1 default)).1.length
 sets:(q.op=6\/q.op=7\/q.op=8)->(typQ s q).1=(typQ s (q.kids.getD 0 default)).1/\(typQ s (q.kids.getD 0 default)).1=(typQ s (q.kids.getD 1 default)).1
 group:q.op=10->(typQ s q).1.length=q.exprs.length+q.aggs.length
theorem typed_of {s:Sch} {q:Qr} (h:(typQ s q).2=0):Typed s q:=by
 obtain ⟨hk,he⟩:=typ_kids h
 have h0:=h
 rw [he] at h0
 obtain ⟨hop,hkl⟩:=own_fm h0
 have hrest:=own_rest h0
 rw [fm_kids _ hop,List.length_map] at hkl
 have g0:0<q.kids.length->(q.kids.map fun k=>(typQ s k).1).getD 0 default=(typQ s (q.kids.getD 0 default)).1:=fun h=>u5 _ _ _ h
 have g1:1<q.kids.length->(q.kids.map fun k=>(typQ s k).1).getD 1 default=(typQ s (q.kids.getD 1 default)).1:=fun h=>u5 _ _ _ h
 rw [hrest] at h0
 rw [hrest] at he
 have hkl2:q.kids.length=if q.op=1\/q.op=2 then 0 else if 5<=q.op/\q.op<=8 then 2 else 1:=by
  split at hkl
  ·rename_i h1;rw [if_pos h1];omega
  ·rename_i h1
   rw [if_neg h1]
   split at hkl
   ·rename_i h2;rw [if_pos h2];omega
   ·rename_i h2;rw [if_neg h2];omega
 clear hkl hrest
 refine ⟨hop,hkl2,hk,fun e=>?_,fun e=>?_,fun e=>?_,fun e=>?_,fun e=>?_,fun e=>?_,fun e=>?_⟩
 ·rw [if_pos e] at h0 he
  split at h0
  ·rename_i h1
   rw [if_pos h1] at he
   rw [he]
   exact ⟨h1,by simp [zL]⟩
  ·exact absurd h0 (by decide)
 ·rw [if_neg (by omega),if_pos e] at h0 he
  split at h0
  ·rename_i h1;exact absurd h0 h1
  ·rename_i h1
   rw [if_neg h1] at he
   have hv:wQ q=0:=by simpa using h1
   unfold wQ at hv
   split at hv
   ·exact absurd hv (by decide)
   ·rename_i h2
    refine ⟨by rw [he],fun r hr=>?_,by omega⟩
    have:=xG hv r hr
    unfold w8 at this
    split at this
    ·exact absurd this (by decide)
    ·rename_i h3;simpa using h3
 ·rw [he]
  rcases e with e | e
  ·rw [if_neg (by omega),if_neg (by omega),if_pos e] at h0 ⊢
   split at h0
   ·rename_i h1;exact absurd h0 h1
   ·rename_i h1;rw [if_neg h1];exact g0 (by rw [hkl2,if_neg (by omega)];split<;>omega)
  ·rw [if_neg (by omega),if_neg (by omega),if_neg (by omega),if_neg (by omega),if_neg (by omega),if_neg (by omega),if_neg (by omega)]
   exact g0 (by rw [hkl2,if_neg (by omega)];split<;>omega)
 ·rw [he]
  rw [if_neg (by omega),if_neg (by omega),if_neg (by omega),if_pos e] at h0 ⊢
  split at h0
  ·exact absurd h0 (by decide)
  ·rename_i h1
   rw [if_neg h1]
   exact listM_ok h0
 ·have hkl3:q.kids.length=2:=by rw [hkl2,if_neg (by omega),if_pos (by omega)]
  rw [he]
  rw [if_neg (by omega),if_neg (by omega),if_neg (by omega),if_neg (by omega),if_pos e,g0 (by omega),g1 (by omega)] at h0 ⊢
  generalize (typQ s (q.kids.getD 0 default)).1=A at h0 ⊢
  generalize (typQ s (q.kids.getD 1 default)).1=B at h0 ⊢
  unfold joinM at h0 ⊢
  split at h0
  ·exact absurd h0 (by decide)
  ·rename_i h1
   rw [if_neg h1]
   split at h0
   ·exact absurd h0 (by decide)
   ·rename_i h2
    rw [if_neg h2]
    rw [List.length_append] at h2
    split at h0
    ·rename_i h3;exact absurd h0 h3
    ·rename_i h3
     rw [if_neg h3]
     refine ⟨by omega,by omega,?_⟩
     split
     ·rfl
     ·rw [List.length_append]
 ·have hkl3:q.kids.length=2:=by rw [hkl2,if_neg (by omega),if_pos (by omega)]
  rw [he]
  rw [if_neg (by omega),if_neg (by omega),if_neg (by omega),if_neg (by omega),if_neg (by omega),if_neg (by omega),if_pos e,g0 (by omega),g1 (by omega)] at h0 ⊢
  split at h0
  ·rename_i h1
   rw [if_pos h1]
   exact ⟨rfl,by simpa using h1⟩
  ·exact absurd h0 (by decide)
 ·rw [he]
  rw [if_neg (by omega),if_neg (by omega),if_neg (by omega),if_neg (by omega),if_neg (by omega),if_pos e] at h0 ⊢
  generalize (q.kids.map fun k=>(typQ s k).1).getD 0 default=A at h0 ⊢
  unfold jf at h0 ⊢
  split at h0
  ·exact absurd h0 (by decide)
  ·rename_i h1
   rw [if_neg h1]
   split at h0
   ·rename_i h2;exact absurd h0 h2
   ·rename_i h2
    rw [if_neg h2]
    split at h0
    ·rename_i h3;exact absurd h0 h3
    ·rename_i h3
     rw [if_neg h3]
     have a1:(wL A q.exprs).2=0:=by simpa using h2
     have a2:(wo (vi A) q.aggs).2=0:=by simpa using h3
     have b1:(wL A q.exprs).1.length=q.exprs.length:=listM_ok a1
     rw [List.length_append,b1,listM_ok a2]
theorem RO.rw {w:Nat} {rows:List Row} (h:RO w rows):RW w rows:=⟨h.wid,h.val⟩
theorem RW.sub {w:Nat} {a b:List Row} (h:RW w a) (hs: ∀r∈b,r∈a):RW w b:=⟨fun r hr=>h.wid r (hs r hr),fun r hr=>h.val r (hs r hr)⟩
theorem okV_nulls (n:Nat): ∀v∈nulls n,okV v:=fun v hv=>by rw [List.eq_of_mem_replicate hv];exact yD
theorem jn_ok {q:Qr} {wa wb:Nat} {a b:List Row} (hk:1≤q.kind∧q.kind≤6) (ha:RW wa a) (hb:RW wb b):RW (if q.kind=5∨q.kind=6 then wa else wa+wb) (jnM q wa wb a b):=by
 have key: ∀r∈jnM q wa wb a b,r.length=(if q.kind=5\/q.kind=6 then wa else wa+wb)/\ ∀v∈r,okV v:=fun x hx=>by
  unfold jnM at hx
  rcases List.mem_append.1 hx with hx | hx
  ·obtain ⟨r,hr,hx⟩:=List.mem_flatMap.1 hx
   have h1:=ha.wid r hr
   have h2:=ha.val r hr
   unfold joinL tailJ at hx
   rcases List.mem_append.1 hx with hx | hx
   ·split at hx
    ·obtain ⟨t,ht,rfl⟩:=List.mem_map.1 hx
     have ht:=(List.mem_filter.1 ht).1
     rw [if_neg (by omega)]
     exact ⟨by rw [List.length_append,h1,hb.wid t ht],fun v hv=>(List.mem_append.1 hv).elim (h2 v) (hb.val t ht v)⟩
    ·cases hx
   ·split at hx
    ·rename_i hc
     simp only [List.mem_singleton] at hx
     subst hx
     rw [if_neg (by omega)]
     exact ⟨by rw [List.length_append,h1];simp [nulls],fun v hv=>(List.mem_append.1 hv).elim (h2 v) (okV_nulls _ v)⟩
    ·split at hx
     ·rename_i hc
      simp only [List.mem_singleton] at hx
      subst hx
      rw [if_pos (hc.elim (fun h=>Or.inl h.2) fun h=>Or.inr h.2)]
      exact ⟨h1,h2⟩
     ·cases hx
  ·unfold joinR at hx
   split at hx
   ·obtain ⟨t,ht,rfl⟩:=List.mem_map.1 hx
    have ht:=(List.mem_filter.1 ht).1
    rw [if_neg (by omega)]
    exact ⟨by rw [List.length_append,hb.wid t ht];simp [nulls],fun v hv=>(List.mem_append.1 hv).elim (okV_nulls _ v) (hb.val t ht v)⟩
   ·cases hx
 exact ⟨fun r h=>(key r h).1,fun r h=>(key r h).2⟩
theorem comb_ok {w:Nat} {t:Grp->Nat} {a b:List Row} (ha:RW w a) (hb:RW w b):RW w (uU t a b):=
 ⟨fun r hr=>(combM_mem hr).elim (ha.wid r) (hb.wid r),fun r hr=>(combM_mem hr).elim (ha.val r) (hb.val r)⟩
theorem out_ok {gr:GF} (hg:GrOk gr) {s:Sch} {i:Inst} {q:Qr} {k0 k1:List Row} (ht:Typed s q) (hi:OkI s i) (hx:OkXQ1 q)
 (h0:0<q.kids.length->RO (typQ s (q.kids.getD 0 default)).1.length k0) (h1:1<q.kids.length->RO (typQ s (q.kids.getD 1 default)).1.length k1):
 RW (typQ s q).1.length (outM gr s i q (typQ s (q.kids.getD 0 default)).1.length (typQ s (q.kids.getD 1 default)).1.length k0 k1):=by
 have hop:=ht.op
 have hkl:=ht.kids
 unfold outM
 split
 ·rename_i e
  obtain ⟨a1,a2⟩:=ht.scan e
  have:=wh (fun t:Tbl=>t.name.toList==q.table.toList) s
  have hr:=hi.tab (byT s q.table).toNat (by unfold byT at a1 ⊢;omega)
  rw [a2]
  exact hr.rw
 split
 ·rename_i e
  obtain ⟨a1,a2,_⟩:=ht.vals e
  rw [a1]
  exact ⟨a2,hx.row⟩
 rw [if_neg (by omega)] at hkl
 have hk0:0<q.kids.length:=by rw [hkl];split<;>omega
 have r0:=h0 hk0
 split
 ·rename_i e
  rw [ht.same (.inl e)]
  exact r0.rw.sub fun r hr=>(List.mem_filter.1 hr).1
 split
 ·rename_i e
  rw [ht.proj e]
  refine ⟨fun r hr=>?_,fun r hr=>?_⟩
  ·obtain ⟨x,hx2,rfl⟩:=List.mem_map.1 hr
   exact (okV_key hx (r0.val x hx2)).1
  ·obtain ⟨x,hx2,rfl⟩:=List.mem_map.1 hr
   exact (okV_key hx (r0.val x hx2)).2
 split
 ·rename_i e
  obtain ⟨a1,a2,a3⟩:=ht.join e
  rw [a3]
  exact jn_ok a1 r0.rw (h1 (by rw [hkl,if_pos (by omega)];omega)).rw
 split
 ·rename_i e
  obtain ⟨a1,a2⟩:=ht.sets (.inl e)
  rw [a1]
  have r1:=(h1 (by rw [hkl,if_pos (by omega)];omega)).rw
  rw [<-a2] at r1
  exact comb_ok r0.rw r1
 split
 ·rename_i e
  obtain ⟨a1,a2⟩:=ht.sets (.inr (.inl e))
  rw [a1]
  have r1:=(h1 (by rw [hkl,if_pos (by omega)];omega)).rw
  rw [<-a2] at r1
  exact comb_ok r0.rw r1
 split
 ·rename_i e
  obtain ⟨a1,a2⟩:=ht.sets (.inr (.inr e))
  rw [a1]
  have r1:=(h1 (by rw [hkl,if_pos (by omega)];omega)).rw
  rw [<-a2] at r1
  exact comb_ok r0.rw r1
 split
 ·rename_i e
  rw [ht.same (.inr e)]
  exact r0.rw.sub fun r hr=>((xt _).2 r).1 hr
 split
 ·rename_i e
  rw [ht.group e]
  exact hg q k0 hx r0.len r0.val
 ·omega
theorem ev_rows {gr:GF} {s:Sch} {i:Inst} {q:Qr} {ks:List (List Row)} {rows:List Row} (h:evOp gr s i q ks=some rows):
 rows=outM gr s i q (typQ s (q.kids.getD 0 default)).1.length (typQ s (q.kids.getD 1 default)).1.length (ks.getD 0 []) (ks.getD 1 [])/\rows.length<=1000:=by
 unfold evOp at h
 split at h
 ·cases h
 ·split at h
  ·cases h
  ·rename_i h2
   simp only [Option.some.injEq] at h
   subst h
   exact ⟨rfl,by omega⟩
theorem allO_some {α:Type}: ∀{l:List (Option α)} {ks:List α},allO l=some ks->l=ks.map some
 | [],ks,h=>by simp [allO] at h;subst h;rfl
 | none::l,ks,h=>by simp [allO] at h
 | some x::l,ks,h=>by
   simp only [allO,Option.map_eq_some_iff] at h
   obtain ⟨ys,h1,rfl⟩:=h
   rw [allO_some h1];rfl
theorem evQ_ok {gr:GF} (hg:GrOk gr) {s:Sch} {i:Inst} (hi:OkI s i): ∀q:Qr,OkXQ q->(typQ s q).2=0-> ∀rows,evQ gr s i q=some rows->RO (typQ s q).1.length rows:=
 q_ind (p:=fun q=>OkXQ q->(typQ s q).2=0-> ∀rows,evQ gr s i q=some rows->RO (typQ s q).1.length rows) fun q ih hx ht rows he=>by
 have hty:=typed_of ht
 rw [evQ_eq] at he
 cases hall:allO (q.kids.map (evQ gr s i)) with
 | none=>rw [hall] at he;cases he
 | some ks=>
   rw [hall] at he
   have hm:=allO_some hall
   obtain ⟨e1,e2⟩:=ev_rows (show evOp gr s i q ks=some rows from he)
   have hkl:q.kids.length=ks.length:=by have:=congrArg List.length hm;simpa using this
   have hget: ∀n,n<q.kids.length->evQ gr s i (q.kids.getD n default)=some (ks.getD n []):=fun n hn=>by
    have h1:(q.kids.map (evQ gr s i)).getD n none=(ks.map some).getD n none:=by rw [hm]
    simp only [List.getD_eq_getElem?_getD,List.getElem?_map,List.getElem?_eq_getElem hn,List.getElem?_eq_getElem (show n<ks.length by omega),Option.map_some,Option.getD_some] at h1 ⊢
    exact h1
   have hk: ∀n,n<q.kids.length->RO (typQ s (q.kids.getD n default)).1.length (ks.getD n []):=fun n hn=>
    ih _ (zk hn) (hx.kid (zk hn)) (hty.kid _ (zk hn)) _ (hget n hn)
   have:=out_ok hg hty hi hx.one (hk 0) (hk 1)
   rw [<-e1] at this
   exact ⟨e2,this.wid,this.val⟩
end
section
open Go.Am
attribute [local simp, local push_cast] num boo str ints aV aTab zx aS aT aC aRow rRow
theorem okV_valid {v:Val} (h:zF v=true):okV v:=by
 have ht: ∀b:ByteArray,(b.toList==[])=true->b.size<=9223372036854775807:=fun b h=>by
  have:b.toList=[]:=by simpa using h
  rw [ByteArray.toList_eq] at this
  have h2:b.data.size=0:=by rw [<-Array.length_toList,this];rfl
  show b.data.size<=_
  omega
 unfold zF at h
 split at h
 ·simp only [Bool.and_eq_true] at h
  have:v.num=0:=by simpa using h.1
  exact ⟨by rw [this];exact ⟨by omega,by omega⟩,ht _ h.2⟩
 ·split at h
  ·simp only [Bool.and_eq_true,decide_eq_true_eq] at h
   exact ⟨⟨by omega,by omega⟩,ht _ h.2⟩
  ·split at h
   ·simp only [Bool.and_eq_true,Bool.or_eq_true] at h
    have:v.num=0\/v.num=1:=by simpa using h.1
    exact ⟨⟨by omega,by omega⟩,ht _ h.2⟩
   ·split at h
    ·simp only [Bool.and_eq_true,kd,decide_eq_true_eq] at h
     have:v.num=0:=by simpa using h.1
     exact ⟨by rw [this];exact ⟨by omega,by omega⟩,by omega⟩
    ·cases h
theorem ferrN_zero {f:Nat->Int} {N:Nat} (h:vb f N=0): ∀n,n<N->f n=0:=fun n hn=>xG h n (by simpa using hn)
theorem fits_ok {s:Sch} {i:Inst} (h:xD s i=0):OkI s i:=by
 unfold xD at h
 split at h
 ·rename_i h1;exact absurd h h1
 split at h
 ·exact absurd h (by decide)
 rename_i h1 h2
 have hl:i.length=s.length:=by omega
 refine ⟨hl,fun n hn=>?_⟩
 have ht:=ferrN_zero h n hn
 unfold ue tabF at ht
 split at ht
 ·exact absurd ht (by decide)
 rename_i h3
 have hrow:=xG ht
 have key: ∀r∈i.getD n default,r.length=(s.getD n default).columns.length/\ ∀v∈r,okV v:=fun r hr=>by
  have h4:=hrow r hr
  unfold yI at h4
  split at h4
  ·exact absurd h4 (by decide)
  rename_i h5
  split at h4
  ·rename_i h6
   refine ⟨by omega,fun v hv=>?_⟩
   obtain ⟨j,hj,rfl⟩:=List.getElem_of_mem hv
   have h7:=List.all_eq_true.1 h6 j (by simpa using hj)
   have e1:r.getD j default=r[j]:=by rw [List.getD_eq_getElem?_getD,List.getElem?_eq_getElem hj];rfl
   rw [e1] at h7
   unfold badV at h7
   simp only [Bool.not_or,Bool.and_eq_true,Bool.not_not] at h7
   exact okV_valid h7.1
  ·exact absurd h4 (by decide)
 exact ⟨by omega,fun r hr=>(key r hr).1,fun r hr=>(key r hr).2⟩
theorem typeQ_ok {s:Sch} {q:Qr} (h:(uK s q).2=0):uK s q=typQ s q:=by
 unfold uK at h ⊢
 split at h
 ·exact absurd h (by decide)
 rename_i h1
 rw [if_neg h1]
 split at h
 ·exact absurd h (by decide)
 ·rename_i h2;rw [if_neg h2]
def jV (gr:GF) (s:Sch) (i:Inst) (q:Qr):List Row×Int:=
 if xD s i≠0 then ([],xD s i) else if (uK s q).2≠0 then ([],(uK s q).2) else ansM (evQ gr s i q)
def mEval (x:List Row×Int):A:= .tup [.d (.sl 1 (zd rRow x.1)),num x.2]
end
section
open Go.Am
attribute [local simp, local push_cast] num boo str ints aV aTab zx aS aT aC aRow rRow yQ wW wu zP zO aAgg vQ vecT zY rTab
inductive OkG:Qr->Prop
 | mk (q:Qr) (h:q.op=1\/q.op=4\/q.op=9\/q.op=10) (hk: ∀k∈q.kids,OkG k):OkG q
theorem OkG.one {q:Qr} (h:OkG q):q.op=1\/q.op=4\/q.op=9\/q.op=10:=by cases h;assumption
theorem OkG.kid {q k:Qr} (h:OkG q) (hk:k∈q.kids):OkG k:=by cases h with | mk _ _ h2=>exact h2 k hk
def aRes (rows:List Row) (w:Nat):A:= .agg [.d (.sl 1 (zd rRow rows)),num w]
def vRes (rows:List Row) (w:Nat):Ob:= .var [.d (.sl 1 (zd rRow rows)),num w]
def aEv (s:Sch) (i:Inst):A:= .agg [.d (.sl 6 (zd rT s)),.d (.sl 1 (zd rTab i))]
def vEv (s:Sch) (i:Inst):Ob:= .var [.d (.sl 6 (zd rT s)),.d (.sl 1 (zd rTab i))]
def rRes (x:List Row×Nat):List D:=[.sl 1 (zd rRow x.1),.lit (.int .i64 x.2)]
def qRes (o:Option (List Row)) (w:Nat):A:=match o with
 | some rows=> .tup [aRes rows w,num 0]
 | none=> .tup [aRes [] 0,num 8]
attribute [local simp, local push_cast] aRes vRes aEv vEv rRes qRes
def kidR (s:Sch) (i:Inst) (q:Qr) (n:Nat):List (List Row×Nat):=(q.kids.take n).map fun k=>((evQ grP s i k).getD [],(typQ s k).1.length)
theorem allO_at {α β:Type} [Inhabited α] (f:α->Option β): ∀(l:List α) (n:Nat),n<l.length->f (l.getD n default)=none->allO (l.map f)=none
 | x::l,0,h,hf=>by simp only [List.getD_cons_zero] at hf;rw [List.map_cons,hf];rfl
 | x::l,n+1,h,hf=>by
   simp only [List.getD_cons_succ] at hf
   have ih:=allO_at f l n (by simpa using h) hf
   rw [List.map_cons]
   cases hx:f x with
   | none=>rfl
   | some y=>simp only [allO,ih];rfl
theorem allO_get {α β:Type} (f:α->Option β) (d:β): ∀l:List α,(∀x∈l,f x≠none)->allO (l.map f)=some (l.map fun x=>(f x).getD d)
 | [],_=>rfl
 | x::l,h=>by
   have ih:=allO_get f d l fun y hy=>h y (by simp [hy])
   cases hx:f x with
   | none=>exact absurd hx (h x (by simp))
   | some y=>simp only [List.map_cons,hx,allO,ih];rfl
theorem c_query (s:Sch) (hs:SmallS s) (i:Inst) (hi:OkI s i): ∀q:Qr,OkG q→OkQ q→OkXQ q→(typQ s q).2=0→ACall Tryz.prog 35 [aEv s i,aQ q] [] (qRes (evQ grP s i q) (typQ s q).1.length) []:=
 q_ind (p:=fun q=>OkG q->OkQ q->OkXQ q->(typQ s q).2=0->ACall Tryz.prog 35 [aEv s i,aQ q] [] (qRes (evQ grP s i q) (typQ s q).1.length) []) fun q ih hg ho hx ht=>by
 have hq:=ho.one
 have hop4:=hg.one
 have hkl:=hq.kids
 have hsl:=hs.len
 have hty:=typed_of ht
 rw [x4]
 refine enterX ttok Tryz.func35 Tryz.ntmps35 Tryz.results35 ?_
 generalize hr:qRes (evQ grP s i q) (typQ s q).1.length=R
 refine zU mixed ttok ?_
 simp -implicitDefEqProofs only [argT,aEv,↓zb,push_cast,simprocAttr,tte]
 refine zU mixed ttok ?_
 simp -implicitDefEqProofs only [↓zb,push_cast,simprocAttr,tte]
 refine zU mixed ttok ?_
 simp -implicitDefEqProofs only [↓zb,push_cast,simprocAttr,tte]
 refine zo mixed ttok 21 [2,3,4,5,19,20] [2,3,4] (by simp only [zC,ends,push_cast,simprocAttr];rfl) (by simp only [zH,zp,ends,push_cast,simprocAttr];rfl) q.kids.length (fun n=> ∀j,j<n->evQ grP s i (q.kids.getD j default)≠none) (fun n=>[(6,.vec 500 n)]) (fun n=>[(500,.vec 85 2 (zd rRes (kidR s i q n)) 0)]) (fun j h=>absurd h (Nat.not_lt_zero _)) ?_ ?_
 ·exact (Weak.nilL 6 500 85 2 rfl rfl).trans (Weak.keepL (by simp [cst,ends]) (by simp [cst,kidR,zd,ends]) (by simp [cst,ends]))
 intro I hI n hn hinv
 have hl2:(kidR s i q n).length=n:=by rw [kidR,List.length_map,List.length_take];omega
 simp -implicitDefEqProofs only [cst,↓zb,push_cast,simprocAttr,tte]
 refine za (fun h=>?_) fun h=>?_
 ·have h':n<q.kids.length:=by have:=of_decide_eq_true h;omega
  have hw:=zh h' (by omega)
  have hst:=jq (fun k=>((evQ grP s i k).getD [],(typQ s k).1.length)) q.kids n h'
  have hm:=zk h'
  have hc:=ih _ hm (hg.kid hm) (ho.kid hm) (hx.kid hm) (hty.kid _ hm)
  rw [x4] at hc
  have hbad:=allO_at (evQ grP s i) q.kids n h'
  refine ⟨(by first | omega | trivial | (refine ⟨?_,?_⟩<;>first | omega | trivial | (refine ⟨?_,?_⟩<;>first | omega | trivial | (refine ⟨?_,?_⟩<;>first | omega | trivial | rfl)))),?_⟩
  cases hv:evQ grP s i (q.kids.getD n default) with
  | none=>
    rw [hv] at hc
    have hE:evQ grP s i q=none:=by rw [evQ_eq,hbad hv];rfl
    rw [hE] at hr
    simp only [qRes,aEv] at hc hr
    refine ze [[6,1],[0,0,0,0,0,0,0,0,0,6,6,7,1,1,15]] [] (hc) ?_
    simp -implicitDefEqProofs only [↓zb,push_cast,simprocAttr,tte]
    rw [<-hr]
    refine zv [[1,0],[0]] rfl (by simp) (by simp [zc]<;>omega) ?_ (by first | rfl | simp [ends] | (subst_vars;simp [ends])) (by simp [ends]) (by simp [ends])
    rfl
  | some rows=>
    rw [hv] at hc
    simp only [qRes,aEv] at hc
    refine ze [[6,1],[0,0,0,0,0,0,0,0,0,6,6,7,1,1,15]] [] (hc) ?_
    simp -implicitDefEqProofs only [↓zb,push_cast,simprocAttr,tte]
    have hk2:kidR s i q (n+1)=kidR s i q n++[(rows,(typQ s (q.kids.getD n default)).1.length)]:=by rw [kidR,hst,hv];rfl
    refine ⟨⟨hl2.symm,by rw [hl2];omega⟩,?_⟩
    have hrows:zd rRes (kidR s i q n)++[[D.sl 1 (zd rRow rows),D.lit (.int .i64 ((typQ s (q.kids.getD n default)).1.length:Nat))]]=zd rRes (kidR s i q (n+1)):=by rw [hk2];exact zj rRes _ [(rows,_)]
    rw [hrows]
    exact zn hI n rfl h' (fun i h2=>if h3:i=n then by rw [h3,hv];exact fun h=>by cases h else hinv i (by omega)) (by simp [hw,hl2,ends]) (by simp [hw,hl2,ends]) (by simp [hw,hl2,ends]) (by simp [hw,hl2,ends])
 obtain rfl:n=q.kids.length:=by have:=of_decide_eq_false h;omega
 clear hI
 have hsome: ∀k∈q.kids,evQ grP s i k≠none:=fun k hk=>by
  obtain ⟨j,hj,rfl⟩:=List.getElem_of_mem hk
  have:=hinv j hj
  rwa [List.getD_eq_getElem?_getD,List.getElem?_eq_getElem hj] at this
 have hE:evQ grP s i q=evOp grP s i q ((kidR s i q q.kids.length).map Prod.fst):=by
  rw [evQ_eq,allO_get (evQ grP s i) [] q.kids hsome,kidR,List.take_length,List.map_map];rfl
 have hk: ∀j,j<q.kids.length->((kidR s i q q.kids.length).getD j default).2=(typQ s (q.kids.getD j default)).1.length/\RO (typQ s (q.kids.getD j default)).1.length ((kidR s i q q.kids.length).getD j default).1:=fun j hj=>by
  have e1:(kidR s i q q.kids.length).getD j default=((evQ grP s i (q.kids.getD j default)).getD [],(typQ s (q.kids.getD j default)).1.length):=by
   rw [kidR,List.take_length,u5 _ _ _ hj]
  rw [e1]
  have hm:=zk hj
  refine ⟨rfl,?_⟩
  cases hv:evQ grP s i (q.kids.getD j default) with
  | none=>exact absurd hv (hinv j hj)
  | some rows=>exact evQ_ok grP_ok hi _ (hx.kid hm) (hty.kid _ hm) _ hv
 have hg: ∀j,((kidR s i q q.kids.length).map Prod.fst).getD j []=((kidR s i q q.kids.length).getD j default).1:=fun j=>by
  simp only [List.getD_eq_getElem?_getD,List.getElem?_map]
  cases (kidR s i q q.kids.length)[j]? <;>rfl
 rw [hE] at hr
 unfold evOp at hr
 rw [hg 0,hg 1] at hr
 clear hE hg hsome hinv
 generalize kidR s i q q.kids.length=ks at hr hk hl2 ⊢
 rw [<-hl2]
 have hkids:=hty.kids
 rw [<-hl2] at hkids hk
 obtain ⟨O,hO⟩: ∃O,O=outM grP s i q (typQ s (q.kids.getD 0 default)).1.length (typQ s (q.kids.getD 1 default)).1.length (ks.getD 0 default).1 (ks.getD 1 default).1:=⟨_,rfl⟩
 rw [<-hO] at hr
 unfold outM at hO
 refine zU mixed ttok ?_
 simp -implicitDefEqProofs only [↓zb,push_cast,simprocAttr,tte]
 have e2: ∀n:Int,(q.op==n)=true->q.op=n:=fun n h=>by simpa using h
 have n2: ∀n:Int,(q.op==n)=false-> ¬q.op=n:=fun n h=>by simpa using h
 have hw24: ∀j,j<ks.length->(typQ s (q.kids.getD j default)).1.length<=1000:=fun j hj=>typQ_len hs _ (ho.kid (zk (by omega)))
 rw [if_neg (fun h=>by have:=h.1;omega)] at hr
 refine uF mixed ttok (⟨[(4,.ptr 4 0),(5,num (0:Nat)),(11,.ptr 11 0)],[(4,.var [.snil,num (0:Nat)]),(11,vRes O (typQ s q).1.length)]⟩:SL) ?_ ?_
 ·simp -implicitDefEqProofs only [↓zb,push_cast,simprocAttr,tte]
  have hqr:zd wu q.rows=zd rRow q.rows:=rfl
  refine za (fun o1=>?_) fun o1=>?_
  ·have o1':=e2 _ o1
   obtain ⟨a1,a2⟩:=hty.scan o1'
   rw [if_pos o1'] at hO
   refine ze [[6],[0]] [] (c_find s q.table (by omega)) ?_
   have hlt:=wh (fun t:Tbl=>t.name.toList==q.table.toList) s
   have hbd:byT s q.table=fidx (fun t:Tbl=>t.name.toList==q.table.toList) s:=rfl
   rw [<-hbd] at hlt
   have hil:=hi.len
   have hb2:(if 0>byT s q.table then (0:Int) else byT s q.table)=byT s q.table:=if_neg (by omega)
   generalize byT s q.table=b at hO a1 a2 hlt hb2 ⊢
   simp -implicitDefEqProofs only [zY,hb2,↓zb,push_cast,simprocAttr,tte]
   refine ⟨by omega,by omega,zf (by kernel_rfl),?_⟩
   exact Weak.keepL (by simp [ends]) (by simp [vRes,hO,a2,ends]) (by simp [ends])
  have o1':=n2 _ o1
  rw [if_neg o1'] at hO
  refine za (fun h=>absurd (e2 _ h) (by omega)) (fun o2=>?_)
  have o2':=n2 _ o2
  rw [if_neg o2'] at hO
  rw [if_neg (by omega)] at hkids
  refine za (fun h=>absurd (e2 _ h) (by omega)) (fun o3=>?_)
  have o3':=n2 _ o3
  rw [if_neg o3'] at hO
  refine za (fun o4=>?_) fun o4=>?_
  ·have o4':=e2 _ o4
   rw [if_pos o4'] at hO
   rw [if_neg (by omega)] at hkids
   obtain ⟨b1,b2⟩:=hk 0 (by omega)
   have hw0:(typQ s q).1.length=q.exprs.length:=hty.proj o4'
   generalize ks.getD 0 default=K0 at *
   obtain ⟨k0,w0⟩:=K0
   simp only at hO b2 ⊢
   have hk0l:=b2.len
   have hel:=hq.exprs
   refine ⟨by omega,by omega,?_⟩
   refine z7 mixed ttok (fun n:Nat=>(⟨[(115,num n),(114,num k0.length),(113,aTab k0),(3,.ptr 3 0),(4,.ptr 4 0),(5,num (0:Nat)),(11,.ptr 11 0)],[(3,vQ q),(4,.var [.snil,num (0:Nat)]),(11,.var [.vec 700 ((k0.take n).map (keyR q)).length,num q.exprs.length]),(700,vecT ((k0.take n).map (keyR q)))]⟩:SL)) (fun n=>k0.length-n) (fun n=>n<=k0.length) 0 (Nat.zero_le _) ?_ ?_
   ·exact (Weak.nilCellL 11 0 700 53 1 rfl rfl rfl).trans (Weak.keepL (by simp [ends]) (by simp [ends]) (by simp [ends]))
   intro I hI n hn
   have hfs:=fun h=>jq (keyR q) k0 n h
   obtain ⟨G,hG⟩: ∃G,G=(k0.take n).map (keyR q):=⟨_,rfl⟩
   have hGl:G.length<=n:=by rw [hG,List.length_map,List.length_take];omega
   rw [<-hG] at hfs ⊢
   simp -implicitDefEqProofs only [↓zb,push_cast,simprocAttr,tte]
   refine za (fun g=>?_) fun g=>?_
   ·have g':n<k0.length:=by have:=of_decide_eq_true g;omega
    have hwk:=zh g' (by omega)
    have hfs:=hfs g'
    obtain ⟨r,hrr⟩: ∃r,r=k0.getD n default:=⟨_,rfl⟩
    rw [<-hrr] at hfs ⊢
    refine ⟨by omega,?_⟩
    refine ze [[6],[3]] [] (c_mvals q.exprs r hel hq.ex) ?_
    simp -implicitDefEqProofs only [↓zb,push_cast,simprocAttr,tte]
    have hrows:zd rRow G++[[D.sl 3 (zd rV (q.exprs.map (y9 r)))]]=zd rRow (G++[keyR q r]):=zj rRow G [keyR q r]
    have hlen1:G.length+1=(G++[keyR q r]).length:=by rw [List.length_append];rfl
    rw [hrows,hlen1]
    refine ⟨by omega,zf (by kernel_rfl),?_⟩
    refine zq hI (n+1) g' (by show k0.length-(n+1)<k0.length-n;omega) ?_
    rw [hfs]
    exact Weak.keepL (by simp [hwk,ends]) (by simp [ends]) (by simp [ends])
   obtain rfl:n=k0.length:=by have:=of_decide_eq_false g;omega
   rw [List.take_length,<-hO] at hG
   subst hG
   refine (Weak.frzCellL 11 0 1 rfl rfl rfl (by simp [zc]) rfl).trans ?_
   exact Weak.keepL (by simp [ends]) (by simp [vRes,hw0,ends]) (by simp [ends])
  have o4':=n2 _ o4
  rw [if_neg o4'] at hO
  refine za (fun h=>absurd (e2 _ h) (by omega)) (fun o5=>?_)
  have o5':=n2 _ o5
  rw [if_neg o5'] at hO
  refine za (fun h=>absurd (e2 _ h) (by omega)) (fun o6=>?_)
  have o6':=n2 _ o6
  rw [if_neg o6'] at hO
  refine za (fun h=>absurd (e2 _ h) (by omega)) (fun o7=>?_)
  have o7':=n2 _ o7
  rw [if_neg o7'] at hO
  refine za (fun h=>absurd (e2 _ h) (by omega)) (fun o8=>?_)
  have o8':=n2 _ o8
  rw [if_neg o8'] at hO
  refine za (fun o9=>?_) fun o9=>?_
  ·have o9':=e2 _ o9
   rw [if_pos o9'] at hO
   rw [if_neg (by omega)] at hkids
   obtain ⟨b1,b2⟩:=hk 0 (by omega)
   have d1:=hw24 0 (by omega)
   have b3:=b2.len
   have hw0:(typQ s q).1.length=(ks.getD 0 default).2:=by rw [hty.same (.inr o9'),b1]
   refine ⟨by omega,by omega,?_⟩
   refine ze [[1]] [] (c_bdistinct (ks.getD 0 default).1 (by omega) (fun r h=>by rw [b2.wid r h];omega)) ?_
   simp -implicitDefEqProofs only [↓zb,push_cast,simprocAttr,tte]
   refine ⟨by omega,by omega,zf (by kernel_rfl),?_⟩
   exact Weak.keepL (by simp [ends]) (by simp [vRes,hw0,hO,ends]) (by simp [ends])
  have o9':=n2 _ o9
  rw [if_neg o9'] at hO
  refine za (fun oa=>?_) fun oa=>?_
  ·have oa':=e2 _ oa
   rw [if_pos oa'] at hO
   rw [if_neg (by omega)] at hkids
   obtain ⟨b1,b2⟩:=hk 0 (by omega)
   have b3:=b2.len
   have hw0:(typQ s q).1.length=q.exprs.length+q.aggs.length:=hty.group oa'
   have hel:=hq.exprs
   have hal:=hq.aggs
   have hwm:IntKind.i64.wrap ((q.exprs.length:Int)+(q.aggs.length:Int))=((q.exprs.length+q.aggs.length:Nat):Int):=by rw [zm (by omega) (by omega)];omega
   have hc:=c_groupsP q hq (ks.getD 0 default).1 b3 (fun a ha=>okV_vals _ _ (hx.one.ag a ha) b2.val)
   rw [x4] at hc
   refine ⟨by omega,by omega,?_⟩
   refine ze [[0,0,0,0,0,0,0,0,0,6,6,7,1,1,15],[1]] [] (hc) ?_
   simp -implicitDefEqProofs only [hwm,↓zb,push_cast,simprocAttr,tte]
   refine ⟨zf (by kernel_rfl),?_⟩
   exact Weak.keepL (by simp [ends]) (by simp [vRes,hw0,hO,ends]) (by simp [ends])
  have oa':=n2 _ oa
  have:=hty.op
  omega
 refine jO mixed ttok ?_
 simp -implicitDefEqProofs only [vRes,↓zb,push_cast,simprocAttr,tte]
 refine za (fun big=>?_) fun big=>?_
 ·have big':1000<O.length:=by have:=of_decide_eq_true big;omega
  rw [if_pos big'] at hr
  rw [<-hr]
  refine zv [[1,0],[0]] rfl (by simp) (by simp [zc]<;>omega) ?_ (by first | rfl | simp [ends] | (subst_vars;simp [ends])) (by simp [ends]) (by simp [ends])
  rfl
 ·have big': ¬1000<O.length:=by have:=of_decide_eq_false big;omega
  rw [if_neg big'] at hr
  rw [<-hr]
  refine zv [[1,0],[0]] rfl (by simp) (by simp [zc]<;>omega) ?_ (by first | rfl | simp [ends] | (subst_vars;simp [ends])) (by simp [ends]) (by simp [ends])
  rfl
end
section
open Go.Am
attribute [local simp, local push_cast] num boo str ints aV aTab zx aS aT aC aRow rRow yQ wW wu zP zO aAgg vQ vecT aRes vRes aEv vEv rRes qRes zY rTab mEval
theorem c_meval (s:Sch) (hs:SmallS s) (i:Inst) (hi:SmallI i) (q:Qr) (hg:OkG q) (ho:OkQ q) (hx:OkXQ q):
 ACall Tryz.prog 12 [aS s,zx i,aQ q] [] (mEval (jV grP s i q)) []:=by
 have hc1:=c_fits s i hs hi
 have hc2:=c_Type s hs q ho
 have hc3:=c_query s hs i
 have hok:= @fits_ok s i
 simp only [zx] at hc1
 rw [x4] at hc2 ⊢
 refine zl mixed ttok Tryz.func12 Tryz.ntmps12 Tryz.results12 ?_
 generalize hr:mEval (jV grP s i q)=R
 unfold jV at hr
 simp -implicitDefEqProofs only [argT,↓zb,push_cast,simprocAttr,tte]
 refine ze [[6],[1]] [] (hc1) ?_
 simp -implicitDefEqProofs only [↓zb,push_cast,simprocAttr,tte]
 refine za (fun h1=>?_) fun h1=>?_
 ·have h1':xD s i≠0:=by simpa using h1
  rw [if_pos h1'] at hr
  rw [<-hr]
  refine zv [[1],[0]] rfl (by simp) (by simp [zc]<;>omega) ?_ (by first | rfl | simp [ends] | (subst_vars;simp [ends])) (by simp [ends]) (by simp [ends])
  rfl
 have h1':xD s i=0:=by simpa using h1
 rw [if_neg (fun h=>h h1')] at hr
 refine ze [[6],[0,0,0,0,0,0,0,0,0,6,6,7,1,1,15]] [] (hc2) ?_
 simp -implicitDefEqProofs only [zP,↓zb,push_cast,simprocAttr,tte]
 refine za (fun h2=>?_) fun h2=>?_
 ·have h2':(uK s q).2≠0:=by simpa using h2
  rw [if_pos h2'] at hr
  rw [<-hr]
  refine zv [[1],[0]] rfl (by simp) (by simp [zc]<;>omega) ?_ (by first | rfl | simp [ends] | (subst_vars;simp [ends])) (by simp [ends]) (by simp [ends])
  rfl
 have h2':(uK s q).2=0:=by simpa using h2
 rw [if_neg (fun h=>h h2')] at hr
 rw [typeQ_ok h2'] at h2'
 have hI:=hok h1'
 have hc3:=hc3 hI q hg ho hx h2'
 have hev:=evQ_ok grP_ok hI q hx h2'
 have hw:=typQ_len hs q ho
 rw [x4] at hc3
 cases hv:evQ grP s i q with
 | none=>
   rw [hv] at hc3 hr
   simp only [qRes,aEv] at hc3
   refine ze [[6,1],[0,0,0,0,0,0,0,0,0,6,6,7,1,1,15]] [] (hc3) ?_
   simp -implicitDefEqProofs only [↓zb,push_cast,simprocAttr,tte]
   rw [<-hr]
   refine zv [[1],[0]] rfl (by simp) (by simp [zc]<;>omega) ?_ (by first | rfl | simp [ends] | (subst_vars;simp [ends])) (by simp [ends]) (by simp [ends])
   rfl
 | some rows=>
   rw [hv] at hc3 hr
   have hR:=hev rows hv
   have hl:=hR.len
   simp only [qRes,aEv] at hc3
   refine ze [[6,1],[0,0,0,0,0,0,0,0,0,6,6,7,1,1,15]] [] (hc3) ?_
   simp -implicitDefEqProofs only [↓zb,push_cast,simprocAttr,tte]
   refine ze [[1]] [] (c_bcanon rows (by omega) (fun r h=>by rw [hR.wid r h];omega)) ?_
   simp -implicitDefEqProofs only [↓zb,push_cast,simprocAttr,tte]
   rw [<-hr]
   refine zv [[1],[0]] rfl (by simp) (by simp [zc]<;>omega) ?_ (by first | rfl | simp [ends] | (subst_vars;simp [ends])) (by simp [ends]) (by simp [ends])
   rfl
end
end Go.Proofs.YtnmibokjpedkiaaGreatDoor
