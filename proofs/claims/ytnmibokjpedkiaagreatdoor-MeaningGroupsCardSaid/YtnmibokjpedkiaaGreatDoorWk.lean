/- Groups of a query have one row for each key, and their counts add up: a proof over an abstract machine of our own (part Wk) -/
import Derived.Test.YtnmibokjpedkiaaGreatDoorWg
import Derived.Test.YtnmibokjpedkiaaGreatDoorWj
set_option maxRecDepth 100000
set_option maxHeartbeats 4000000
set_option linter.all false
namespace Go.Proofs.YtnmibokjpedkiaaGreatDoor
section
open Go.Am
attribute [local simp, local push_cast] num boo str ints aV aTab zx aS aT aC aRow rRow
def cntK (k:Row) (l:List KRow):Nat:=cntR k (l.map Prod.fst)
theorem cntK_le (k:Row) (l:List KRow):cntK k l<=l.length:=by have:=xx k (l.map Prod.fst);simpa [cntK] using this
theorem gd (x:KRow) (l:List KRow):0<cntK x.1 (x::l):=by
 unfold cntK
 rw [List.map_cons,xH,if_pos (yz _)]
 omega
def runF (q:Qr):Nat->List KRow->List Row
 | 0,_=>[]
 | _+1,[]=>[]
 | n+1,x::l=>(x.1++wz q (((x::l).take (cntK x.1 (x::l))).map Prod.snd))::runF q n ((x::l).drop (cntK x.1 (x::l)))
theorem runF_fuel (q:Qr): ∀(n m:Nat) (l:List KRow),l.length<=n->l.length<=m->runF q n l=runF q m l
 | 0,m,[],_,_=>by cases m<;>rfl
 | 0,m,x::l,h,_=>by simp at h
 | n+1,0,[],_,_=>rfl
 | n+1,0,x::l,_,h=>by simp at h
 | n+1,m+1,[],_,_=>rfl
 | n+1,m+1,x::l,h1,h2=>by
   have:=gd x l
   simp only [List.length_cons] at h1 h2
   rw [runF,runF,runF_fuel q n m _ (by simp;omega) (by simp;omega)]
def runM (q:Qr) (l:List KRow):List Row:=runF q l.length l
theorem runM_nil (q:Qr):runM q []=[]:=rfl
theorem runM_cons (q:Qr) (x:KRow) (l:List KRow):runM q (x::l)=(x.1++wz q (((x::l).take (cntK x.1 (x::l))).map Prod.snd))::runM q ((x::l).drop (cntK x.1 (x::l))):=by
 have:=gd x l
 unfold runM
 rw [List.length_cons,runF,runF_fuel q l.length _ _ (by simp;omega) (Nat.le_refl _)]
theorem key_asc {l:List KRow} (h:Asc leKk l):Asc leR (l.map Prod.fst):=by
 rw [Asc,List.pairwise_map]
 exact h
theorem sort_keys: ∀l:List KRow,(zA leKk l).map Prod.fst=srt (l.map Prod.fst)
 | []=>rfl
 | x::l=>by
   have h:=List.map_merge (f:=Prod.fst) (r:=leKk) (s:=leR) (l:=[x]) (l':=zA leKk l) (fun a _ b _=>rfl)
   rw [zA,h,sort_keys l]
   rfl
theorem filter_take (x:KRow) (l:List KRow) (h:Asc leKk (x::l)):
 ((x::l).filter fun y=>cmpR y.1 x.1==0)=(x::l).take (cntK x.1 (x::l))/\ ∀k,(∃y∈(x::l).drop (cntK x.1 (x::l)),y.1=k)->((x::l).filter fun y=>cmpR y.1 k==0)=((x::l).drop (cntK x.1 (x::l))).filter fun y=>cmpR y.1 k==0:=by
 have ha:=key_asc h
 have h1:=(asc_cons ha).1
 obtain ⟨d1,d2⟩:=drop_gt ((x::l).map Prod.fst) x.1 ha (fun y hy=>(uh x.1 y).2 (by
  rw [List.map_cons] at hy
  rcases List.mem_cons.1 hy with rfl | hy
  ·rw [yz];omega
  ·exact (uh _ _).1 (h1 y hy)))
 have hc:cntR x.1 ((x::l).map Prod.fst)=cntK x.1 (x::l):=rfl
 rw [hc] at d1 d2
 generalize cntK x.1 (x::l)=c at d1 d2
 have e1: ∀y∈(x::l).take c,y.1=x.1:=fun y hy=>d2 y.1 (by rw [<-List.map_take];exact List.mem_map_of_mem hy)
 have e2: ∀y∈(x::l).drop c,cmpR x.1 y.1<0:=fun y hy=>d1 y.1 (by rw [<-List.map_drop];exact List.mem_map_of_mem hy)
 generalize hL:x::l=L at e1 e2
 refine ⟨?_,fun k hk=>?_⟩
 ·rw [←List.take_append_drop c L,List.filter_append,List.take_append_drop]
  rw [List.filter_eq_self.2 fun y hy=>by rw [e1 y hy,yz];rfl]
  rw [List.filter_eq_nil_iff.2 fun y hy h0=>?_,List.append_nil]
  have:=e2 y hy
  have h2:=(vd y.1 x.1).1 (by simpa using h0)
  rw [h2,yz] at this
  omega
 ·obtain ⟨z,hz,rfl⟩:=hk
  have hz2:=e2 z hz
  conv=>lhs;rw [<-List.take_append_drop c L]
  rw [List.filter_append,List.filter_eq_nil_iff.2 fun y hy h0=>?_,List.nil_append]
  have h2:=(vd y.1 z.1).1 (by simpa using h0)
  rw [<-h2,e1 y hy,yz] at hz2
  omega
theorem runM_eq (q:Qr): ∀(n:Nat) (l:List KRow),l.length<=n->Asc leKk l->runM q l=((grpM (l.map Prod.fst) []).map (·.row)).map fun k=>k++wz q ((l.filter fun y=>cmpR y.1 k==0).map Prod.snd)
 | n,[],_,_=>rfl
 | 0,x::l,h,_=>by simp at h
 | n+1,x::l,h,ha=>by
   have hp:=gd x l
   have hpick:yh ((x::l).map Prod.fst) []=x.1:=rfl
   have ih:=runM_eq q n ((x::l).drop (cntK x.1 (x::l))) (by simp at h ⊢;omega) (List.Pairwise.sublist (List.drop_sublist _ _) ha)
   obtain ⟨f1,f2⟩:=filter_take x l ha
   rw [runM_cons,vn (by simp),hpick]
   have hc:cntR x.1 ((x::l).map Prod.fst)=cntK x.1 (x::l):=rfl
   rw [hc,List.drop_nil,<-List.map_drop,List.map_cons,List.map_cons,f1,ih]
   congr 1
   refine List.map_congr_left fun k hk=>?_
   have hm:=(grp_heads _ (((x::l).drop (cntK x.1 (x::l))).map Prod.fst) (Nat.le_refl _) (key_asc (List.Pairwise.sublist (List.drop_sublist _ _) ha))).2 k
   obtain ⟨y,hy,hyk⟩:=List.mem_map.1 (hm.1 hk)
   rw [f2 k ⟨y,hy,hyk⟩]
def keyed (q:Qr) (rows:List Row):List KRow:=rows.map fun r=>(keyR q r,r)
theorem run_grP (q:Qr) (rows:List Row) (h: ¬(rows.length=0∧q.exprs.length=0)):runM q (zA leKk (keyed q rows))=grP q rows:=by
 rw [runM_eq q _ _ (Nat.le_refl _) (yO ordKk _),sort_keys]
 have hk:(keyed q rows).map Prod.fst=rows.map (keyR q):=by simp [keyed]
 have hf: ∀k,wz q (((zA leKk (keyed q rows)).filter fun y=>cmpR y.1 k==0).map Prod.snd)=wz q (rows.filter fun r=>cmpR (keyR q r) k==0):=fun k=>by
  refine aggsR_perm q ?_
  have h1:=((zS (le:=leKk) (keyed q rows)).filter fun y=>cmpR y.1 k==0).map Prod.snd
  have h2:((keyed q rows).filter fun y=>cmpR y.1 k==0).map Prod.snd=rows.filter fun r=>cmpR (keyR q r) k==0:=by
   unfold keyed
   rw [List.filter_map,List.map_map]
   simp [Function.comp_def]
  rw [h2] at h1
  exact h1
 simp only [hf,hk]
 rw [<-distM_eq]
 unfold grP grpsR gkP
 split
 ·rename_i h0
  have hr: ∀r,keyR q r=[]:=fun r=>by unfold keyR;rw [List.eq_nil_of_length_eq_zero h0];rfl
  have hne: ¬rows.length=0:=fun e=>h ⟨e,h0⟩
  have hd:j4 (rows.map (keyR q))=[[]]:=by
   obtain ⟨p1,p2⟩:=xt (rows.map (keyR q))
   have hall: ∀x,x∈j4 (rows.map (keyR q)) ↔ x=[]:=fun x=>by
    rw [p2,List.mem_map]
    constructor
    ·rintro ⟨r,_,rfl⟩;exact hr r
    ·rintro rfl
     match rows,hne with
     | r::rows,_=>exact ⟨r,by simp,hr r⟩
   generalize j4 (rows.map (keyR q))=l at p1 hall
   match l,p1,hall with
   | [],_,hall=>exact absurd ((hall []).2 rfl) (by simp)
   | [x],_,hall=>rw [(hall x).1 (by simp)]
   | x::y::l,p1,hall=>
     have h1:=(hall x).1 (by simp)
     have h2:=(hall y).1 (by simp)
     have h3:=(List.pairwise_cons.1 p1).1 y (by simp)
     rw [h1,h2,yz] at h3
     omega
  rw [hd]
 ·rfl
theorem grP_none (q:Qr) (rows:List Row) (h:rows.length=0) (h0:q.exprs.length=0):grP q rows=[wz q []]:=by
 have hr:rows=[]:=List.eq_nil_of_length_eq_zero h
 subst hr
 simp [grP,gkP,h0,grpsR]
end
section
open Go.Am
attribute [local simp, local push_cast] num boo str ints aV aTab zx aS aT aC aRow rRow rG vecT yq
attribute [local simp] zK
theorem c_sorted (rows:List Row) (hl:rows.length<=100000) (hr1: ∀r∈rows,r.length<=1000):ACall Tryz.prog 69 [aTab rows] [] (aTab (srt rows)) []:=by
 refine zl mixed ttok Tryz.func69 Tryz.ntmps69 Tryz.results69 ?_
 generalize hr:aTab (srt rows)=R
 simp -implicitDefEqProofs only [argT,↓zb,push_cast,simprocAttr,tte]
 refine zo mixed ttok 8 [6,7] [] (by simp only [zC,ends,push_cast,simprocAttr];rfl) (by simp only [zH,zp,ends,push_cast,simprocAttr];rfl) rows.length (fun _=>True) (fun n=>[(3,.vec 500 (rows.take n).length)]) (fun n=>[(500,vecT (rows.take n))]) trivial ?_ ?_
 ·exact (Weak.nilL 3 500 53 1 rfl rfl).trans (Weak.keepL (by simp [cst,ends]) (by simp [cst,ends]) (by simp [cst,ends]))
 intro I hI n hn hi
 simp -implicitDefEqProofs only [cst,↓zb,push_cast,simprocAttr,tte]
 refine za (fun h=>?_) fun h=>?_
 ·have h':n<rows.length:=by have:=of_decide_eq_true h;omega
  have hw:=zh h' (by omega)
  have hs:=zz rows n h'
  have hl2:(rows.take n).length<=100000:=by rw [List.length_take];omega
  have hls:(rows.take (n+1)).length=(rows.take n).length+1:=by rw [hs,List.length_append];rfl
  refine ⟨by omega,?_⟩
  refine ze [[3]] [] (c_cloneR (rows.getD n default) (Nat.le_trans (hr1 _ (zk h')) (by decide))) ?_
  simp -implicitDefEqProofs only [↓zb,push_cast,simprocAttr,tte]
  have hrows:zd rRow (rows.take n)++[[D.sl 3 (zd rV (rows.getD n default))]]=zd rRow (rows.take (n+1)):=by rw [hs];exact zj rRow (rows.take n) [rows.getD n default]
  rw [hrows]
  refine ⟨by omega,?_⟩
  rw [<-hls]
  exact zn hI n rfl h' trivial (by simp [hw,ends]) (by simp [hw,ends]) (by simp [hw,ends]) (by simp [hw,ends])
 obtain rfl:n=rows.length:=by have:=of_decide_eq_false h;omega
 rw [List.take_length]
 refine kV [(1000,500)] (qy (e:=53) (wd:=1) (fz:=0) (rows:=zd rRow rows) (by simp [ends]) (by simp [zc])) (c_sortr rows hl hr1) (by simp [hl,ends,bs]) (by simp [ends,bs]) (by simp [hl,ends]) (by simp [idsOk,lookO,updO,ren1]) ?_
 simp -implicitDefEqProofs only [↓zb,push_cast,simprocAttr,tte]
 refine zt [1] rfl (by simp) (by simp [zc]<;>omega) ?_ (by first | rfl | simp [ends] | (subst_vars;simp [ends])) (by simp [ends]) (by simp [ends])
 exact hr
theorem cnt_ltL {X:List Row} {j:Nat} {r:Row} (h1:j<X.length) (h2:j<=cntR r X) (h:cmpR (X.getD j default) r=0):j<cntR r X:=by
 have:=cnt_lt (X:=X) (i:=0) (j:=j) (r:=r) (by omega) (by simpa using h2) (by simpa using h)
 simpa using this
theorem cnt_eqL {X:List Row} {j:Nat} {r:Row} (h2:j<=cntR r X) (h:X.length<=j\/cmpR (X.getD j default) r≠0):j=cntR r X:=by
 have:=cnt_eq (X:=X) (i:=0) (j:=j) (r:=r) (by simpa using h2) (by simpa using h)
 simpa using this
theorem c_merged (a b:List Row) (hl:a.length≤100000) (hm:b.length≤100000) (ha: ∀r∈a,r.length≤1000) (hb: ∀r∈b,r.length≤1000):
 ACall Tryz.prog 175 [aTab a,aTab b] [] (.d (.sl 3 (zd rG (grpM (srt a) (srt b))))) []:=by
 refine zl mixed ttok Tryz.func175 Tryz.ntmps175 Tryz.results175 ?_
 have iha:=c_sorted a hl ha
 have ihb:=c_sorted b hm hb
 have lx:(srt a).length=a.length:=zK a
 have ly:(srt b).length=b.length:=zK b
 have mx: ∀r∈srt a,r.length<=1000:=fun r h=>ha r ((zS a).mem_iff.1 h)
 have my: ∀r∈srt b,r.length<=1000:=fun r h=>hb r ((zS b).mem_iff.1 h)
 generalize srt a=X at iha lx mx ⊢
 generalize srt b=Y at ihb ly my ⊢
 generalize hG:grpM X Y=G
 generalize hr:A.d (D.sl 3 (zd rG G))=R
 simp -implicitDefEqProofs only [argT,↓zb,push_cast,simprocAttr,tte]
 refine ze [[1]] [] (iha) ?_
 simp -implicitDefEqProofs only [↓zb,push_cast,simprocAttr,tte]
 refine ze [[1]] [] (ihb) ?_
 simp -implicitDefEqProofs only [↓zb,push_cast,simprocAttr,tte]
 clear iha ihb
 refine z7 mixed ttok (fun x:List Row×List Row×List Grp=>(⟨[(5,aTab x.1),(6,aTab x.2.1),(7,.vec 500 x.2.2.length)],[(500,.vec 155 3 (zd rG x.2.2) 0)]⟩:SL)) (fun x=>x.1.length+x.2.1.length)
  (fun x=>(∀r∈x.1,r.length<=1000)/\(∀r∈x.2.1,r.length<=1000)/\x.2.2.length+x.1.length+x.2.1.length<=200000/\x.2.2++grpM x.1 x.2.1=G) (X,Y,[]) ⟨mx,my,by show 0+X.length+Y.length<=200000;omega,hG⟩ ?_ ?_
 ·exact (Weak.nilL 7 500 155 3 rfl rfl).trans (Weak.keepL (by simp [ends]) (by simp [ends]) (by simp [ends]))
 clear mx my lx ly hG X Y
 intro I hI ⟨X,Y,out⟩ ⟨mx,my,hol,hinv⟩
 simp only at mx my hol hinv
 simp -implicitDefEqProofs only [↓zb,push_cast,simprocAttr,tte]
 generalize hrr:yh X Y=r at *
 refine' meetQ ⟨[(5,aTab (X.drop 0)),(6,aTab Y),(7,.vec 500 out.length),(8,.ptr 8 0)],[(8,.var [.d (.sl 3 (zd rV r)),num (0:Nat),num (0:Nat)]),(500,.vec 155 3 (zd rG out) 0)]⟩ (0<X.length\/0<Y.length) ?lead ?body
 case lead=>
  intro hM
  have p1:0<X.length->Y.length=0->r=X.getD 0 default:=fun h1 h2=>by rw [<-hrr];have:=pick2_l (X:=X) (Y:=Y) (i:=0) (k:=0) h1 h2.symm;simpa using this
  have p2:X.length=0->0<Y.length->r=Y.getD 0 default:=fun h1 h2=>by rw [<-hrr];have:=pick2_r (X:=X) (Y:=Y) (i:=0) (k:=0) h1.symm h2;simpa using this
  have p3:0<X.length->0<Y.length->leR (X.getD 0 default) (Y.getD 0 default)=true->r=X.getD 0 default:=fun h1 h2 h=>by rw [<-hrr];have:=pick2_lt (X:=X) (Y:=Y) (i:=0) (k:=0) h1 h2 h;simpa using this
  have p4:0<X.length->0<Y.length->leR (X.getD 0 default) (Y.getD 0 default)=false->r=Y.getD 0 default:=fun h1 h2 h=>by rw [<-hrr];have:=pick2_gt (X:=X) (Y:=Y) (i:=0) (k:=0) h1 h2 h;simpa using this
  refine za (fun h1=>?_) fun h1=>?_
  ·have h1':0<X.length:=by have:=of_decide_eq_true h1;omega
   refine za (fun g1=>?_) fun g1=>?_
   ·have g1':Y.length=0:=by have:(Y.length:Int)=0:=by simpa using g1
                            omega
    have hp:=p1 h1' g1'
    refine ⟨zf (by kernel_rfl),by omega,?_⟩
    exact hM _ (.inl h1') (Weak.keepL (by simp [ends]) (by simp [hp,ends]) (by simp [ends]))
   ·have g1':0<Y.length:=by have: ¬(Y.length:Int)=0:=by simpa using g1
                            omega
    refine za (fun _=>?_) (fun h=>absurd (h1.symm.trans h) (by decide))
    refine ⟨by omega,by omega,?_⟩
    refine ze [[3],[3]] [] (uk (X.getD 0 default) (Y.getD 0 default) (Nat.le_trans (mx _ (zk h1')) (by decide))) ?_
    simp -implicitDefEqProofs only [↓zb,push_cast,simprocAttr,tte]
    refine ⟨zf (by kernel_rfl),?_⟩
    have hle:decide (cmpR (X.getD 0 default) (Y.getD 0 default)<=0)=leR (X.getD 0 default) (Y.getD 0 default):=rfl
    rw [hle]
    refine za (fun g2=>?_) fun g2=>?_
    ·have hp:=p3 h1' g1' g2
     refine ⟨by omega,?_⟩
     exact hM _ (.inl h1') (Weak.keepL (by simp [ends]) (by simp [hp,ends]) (by simp [ends]))
    ·have hp:=p4 h1' g1' g2
     refine ⟨by omega,?_⟩
     exact hM _ (.inl h1') (Weak.keepL (by simp [ends]) (by simp [hp,ends]) (by simp [ends]))
  ·have h1':X.length=0:=by have:=of_decide_eq_false h1;omega
   refine za (fun g1=>?_) fun g1=>?_
   ·have g1':0<Y.length:=by have:=of_decide_eq_true g1;omega
    refine za (fun h=>absurd (show (Y.length:Int)=0 by simpa using h) (by omega)) (fun _=>?_)
    refine za (fun h=>absurd (h1.symm.trans h) (by decide)) (fun _=>?_)
    have hp:=p2 h1' g1'
    refine ⟨zf (by kernel_rfl),by omega,?_⟩
    exact hM _ (.inr g1') (Weak.keepL (by simp [ends]) (by simp [hp,ends]) (by simp [ends]))
   ·have g1':Y.length=0:=by have:=of_decide_eq_false g1;omega
    have e1:X=[]:=List.eq_nil_of_length_eq_zero h1'
    have e2:Y=[]:=List.eq_nil_of_length_eq_zero g1'
    rw [e1,e2,grpM_nil,List.append_nil] at hinv
    refine zt [3] rfl (by simp) (by simp [zc]<;>omega) ?_ (by first | rfl | simp [ends] | (subst_vars;simp [ends])) (by simp [ends]) (by simp [ends])
    rw [<-hr,<-hinv]
 case body=>
  intro σ hQ hw
  have h0: ¬(X.length=0/\Y.length=0):=by omega
  have hxe:=vn h0
  have hpos:=vl X Y h0
  have hrm:=pick2_mem X Y h0
  rw [hrr] at hpos hrm hxe
  have hrl:r.length<=1000:=by
   rcases List.mem_append.1 hrm with q | q
   ·exact mx _ q
   ·exact my _ q
  rw [hxe] at hinv
  have hc1:=xx r X
  have hc2:=xx r Y
  have hlt1: ∀j,j<X.length->j<=cntR r X->cmpR (X.getD j default) r=0->j<cntR r X:=fun j=>cnt_ltL
  have heq1: ∀j,j<=cntR r X->X.length<=j\/cmpR (X.getD j default) r≠0->j=cntR r X:=fun j=>cnt_eqL
  have hlt2: ∀j,j<Y.length->j<=cntR r Y->cmpR (Y.getD j default) r=0->j<cntR r Y:=fun j=>cnt_ltL
  have heq2: ∀j,j<=cntR r Y->Y.length<=j\/cmpR (Y.getD j default) r≠0->j=cntR r Y:=fun j=>cnt_eqL
  generalize cntR r X=c1 at *
  generalize cntR r Y=c2 at *
  refine z7 mixed ttok (fun j:Nat=>(⟨[(5,aTab (X.drop j)),(6,aTab Y),(7,.vec 500 out.length),(8,.ptr 8 0)],[(8,.var [.d (.sl 3 (zd rV r)),num j,num (0:Nat)]),(500,.vec 155 3 (zd rG out) 0)]⟩:SL)) (fun j=>c1-j) (fun j=>j<=c1) 0 (Nat.zero_le _) hw ?_
  intro J hJ j hj
  have hl1:=hlt1 j
  have he1:=heq1 j
  have wj:=zh (N:=1000001) (n:=j) (by omega) (by omega)
  have hd1:(X.drop j).drop 1=X.drop (j+1):=List.drop_drop
  have hg1:(X.drop j).getD 0 default=X.getD j default:=by rw [kU];simp
  have hn1:(X.drop j).length=X.length-j:=List.length_drop
  obtain ⟨X1,hX1⟩: ∃X1,X1=X.drop j:=⟨_,rfl⟩
  rw [<-hX1] at hd1 hg1 hn1 ⊢
  simp -implicitDefEqProofs only [↓zb,push_cast,simprocAttr,tte]
  refine' meetQ ⟨[(5,aTab (X.drop c1)),(6,aTab (Y.drop 0)),(7,.vec 500 out.length),(8,.ptr 8 0)],[(8,.var [.d (.sl 3 (zd rV r)),num c1,num (0:Nat)]),(500,.vec 155 3 (zd rG out) 0)]⟩ True ?lead2 ?body2
  case lead2=>
   intro hM
   refine za (fun h1=>?_) fun h1=>?_
   ·have h1':j<X.length:=by have:=of_decide_eq_true h1;omega
    refine ⟨by omega,?_⟩
    refine ze [[3],[3]] [] (uk (X1.getD 0 default) r (Nat.le_trans (by rw [hg1];exact mx _ (zk h1')) (by decide))) ?_
    simp -implicitDefEqProofs only [↓zb,push_cast,simprocAttr,tte]
    rw [hg1]
    refine ⟨zf (by kernel_rfl),?_⟩
    refine za (fun g2=>?_) fun g2=>?_
    ·have hjc:=hl1 h1' hj (by simpa using g2)
     rw [List.take_length,hd1]
     refine ⟨by omega,?_⟩
     exact zq hJ (j+1) hjc (by show c1-(j+1)<c1-j;omega) (Weak.keepL (by simp [ends]) (by simp [wj,ends]) (by simp [ends]))
    ·have hjc:=he1 hj (.inr (by simpa using g2))
     subst hjc
     rw [hX1]
     exact hM _ trivial (Weak.keepL (by simp [ends]) (by simp [ends]) (by simp [ends]))
   ·have h1':X.length≤j:=by have:=of_decide_eq_false h1;omega
    have hjc:=he1 hj (.inl h1')
    subst hjc
    rw [hX1]
    refine ⟨zf (by kernel_rfl),?_⟩
    exact hM _ trivial (Weak.keepL (by simp [ends]) (by simp [ends]) (by simp [ends]))
  case body2=>
   intro σ2 _ hw2
   refine z7 mixed ttok (fun q:Nat=>(⟨[(5,aTab (X.drop c1)),(6,aTab (Y.drop q)),(7,.vec 500 out.length),(8,.ptr 8 0)],[(8,.var [.d (.sl 3 (zd rV r)),num c1,num q]),(500,.vec 155 3 (zd rG out) 0)]⟩:SL)) (fun q=>c2-q) (fun q=>q<=c2) 0 (Nat.zero_le _) hw2 ?_
   intro L hL q hq
   have hl2:=hlt2 q
   have he2:=heq2 q
   have wq:=zh (N:=1000001) (n:=q) (by omega) (by omega)
   have hd2:(Y.drop q).drop 1=Y.drop (q+1):=List.drop_drop
   have hg2:(Y.drop q).getD 0 default=Y.getD q default:=by rw [kU];simp
   have hn2:(Y.drop q).length=Y.length-q:=List.length_drop
   obtain ⟨Y1,hY1⟩: ∃Y1,Y1=Y.drop q:=⟨_,rfl⟩
   obtain ⟨X2,hX2⟩: ∃X2,X2=X.drop c1:=⟨_,rfl⟩
   have hxl:X2.length=X.length-c1:=by rw [hX2,List.length_drop]
   have hxm: ∀r∈X2,r.length<=1000:=fun r h=>mx r (List.mem_of_mem_drop (hX2 ▸ h))
   have hym: ∀r∈Y1,r.length<=1000:=fun r h=>my r (List.mem_of_mem_drop (hY1 ▸ h))
   rw [<-hX2] at hinv
   rw [<-hY1] at hd2 hg2 hn2 ⊢
   rw [<-hX2]
   have hrows:zd rG out++[[D.sl 3 (zd rV r),D.lit (.int .i64 (c1:Int)),D.lit (.int .i64 (c2:Int))]]=zd rG (out++[⟨r,c1,c2⟩]):=zj rG out [⟨r,c1,c2⟩]
   have hfin:q=c2->(out++[(⟨r,c1,c2⟩:Grp)])++grpM X2 Y1=G:=fun e=>by
    rw [hY1,e,<-hinv,List.append_assoc];rfl
   simp -implicitDefEqProofs only [↓zb,push_cast,simprocAttr,tte]
   refine za (fun h1=>?_) fun h1=>?_
   ·have h1':q<Y.length:=by have:=of_decide_eq_true h1;omega
    refine ⟨by omega,?_⟩
    refine ze [[3],[3]] [] (uk (Y1.getD 0 default) r (Nat.le_trans (by rw [hg2];exact my _ (zk h1')) (by decide))) ?_
    simp -implicitDefEqProofs only [↓zb,push_cast,simprocAttr,tte]
    rw [hg2]
    refine ⟨zf (by kernel_rfl),?_⟩
    refine za (fun g2=>?_) fun g2=>?_
    ·have hqc:=hl2 h1' hq (by simpa using g2)
     rw [List.take_length,hd2]
     refine ⟨by omega,?_⟩
     exact zq hL (q+1) hqc (by show c2-(q+1)<c2-q;omega) (Weak.keepL (by simp [hX2,ends]) (by simp [wq,ends]) (by simp [ends]))
    ·have hqc:=he2 hq (.inr (by simpa using g2))
     have hf:=hfin hqc
     subst hqc
     rw [hrows]
     refine ⟨by omega,?_⟩
     exact zq hI (X2,Y1,out++[⟨r,c1,q⟩]) ⟨hxm,hym,by show (out++[(⟨r,c1,q⟩:Grp)]).length+X2.length+Y1.length<=200000;rw [List.length_append];show out.length+1+_+_<=_;omega,hf⟩ (by show X2.length+Y1.length<X.length+Y.length;omega) (Weak.keepL (by simp [ends]) (by simp [ends]) (by simp [ends]))
   ·have h1':Y.length≤q:=by have:=of_decide_eq_false h1;omega
    have hqc:=he2 hq (.inl h1')
    have hf:=hfin hqc
    subst hqc
    rw [hrows]
    refine ⟨zf (by kernel_rfl),by omega,?_⟩
    exact zq hI (X2,Y1,out++[⟨r,c1,q⟩]) ⟨hxm,hym,by show (out++[(⟨r,c1,q⟩:Grp)]).length+X2.length+Y1.length<=200000;rw [List.length_append];show out.length+1+_+_<=_;omega,hf⟩ (by show X2.length+Y1.length<X.length+Y.length;omega) (Weak.keepL (by simp [ends]) (by simp [ends]) (by simp [ends]))
end
section
open Go.Am
attribute [local simp, local push_cast] num boo str ints aV aTab zx aS aT aC aRow rRow rG vecT
def aG (g:Grp):A:= .agg [.d (.sl 3 (zd rV g.row)),num g.m,num g.n]
def vB (all:Bool):Ob:= .var [boo all]
attribute [local simp, local push_cast] aG vB
theorem ret_dV {p:Prop} {x:D} {t:List (Nat×A)} {o:List (Nat×Ob)} {R:A} {os':List (Nat×Ob)} (hp:p) (hr:A.d x=R) (ho:keepO (lookO o) (inO os') os') (hin:keepIn (inO os') o):retx (some (p,A.d x)) ⟨t,o⟩ R os':=by
 subst hr
 exact zt [] rfl hp trivial rfl rfl ho hin
theorem c_ut (all:Bool) (g:Grp) (hm:g.m<=100000) (hn:g.n<=100000):ACall Tryz.prog 112 [aG g,.ptr 1000 0] [(1000,vB all)] (num (jb all g:Nat)) [(1000,vB all)]:=by
 refine zl mixed ttok Tryz.func112 Tryz.ntmps112 Tryz.results112 ?_
 obtain ⟨z,hz⟩: ∃z:Nat,z=jb all g:=⟨_,rfl⟩
 rw [<-hz]
 generalize hr:num (z:Nat)=R
 have wm:IntKind.i64.wrap ((g.m:Int)+(g.n:Int))=((g.m+g.n:Nat):Int):=by rw [zm (by omega) (by omega)];omega
 simp -implicitDefEqProofs only [argT,wm,↓zb,push_cast,simprocAttr,tte]
 refine za (fun h=>?_) fun h=>?_
 ·subst h
  exact ret_dV trivial (by rw [<-hr,hz];rfl) (by simp [ends]) (by simp [ends])
 ·subst h
  exact ret_dV trivial (by rw [<-hr,hz];rfl) (by simp [ends]) (by simp [ends])
theorem c_combined (f:FuncId) (t:Bool->Grp->Nat) (all:Bool) (a b:List Row) (hl:a.length<=100000) (hm:b.length<=100000) (ha: ∀r∈a,r.length<=1000) (hb: ∀r∈b,r.length<=1000) (hcl:(uU (t all) a b).length<=200000)
 (hc: ∀g:Grp,g.m<=100000->g.n<=100000->ACall Tryz.prog f [aG g,.ptr 1000 0] [(1000,vB all)] (num (t all g:Nat)) [(1000,vB all)]):
 ACall Tryz.prog 111 [aTab a,aTab b,.clo f [.ptr 1000 0]] [(1000,vB all)] (aTab (uU (t all) a b)) [(1000,vB all)]:=by
 refine zl mixed ttok Tryz.func111 Tryz.ntmps111 Tryz.results111 ?_
 have hG:=c_merged a b hl hm ha hb
 have hgl:=grpM_length _ (srt a) (srt b) (Nat.le_refl _)
 have hgm:=grpM_ok hl hm ha hb
 rw [zK,zK] at hgl
 unfold uU at hcl ⊢
 generalize grpM (srt a) (srt b)=G at hG hcl hgl hgm ⊢
 generalize hr:aTab (G.flatMap fun g=>List.replicate (t all g) g.row)=R
 simp -implicitDefEqProofs only [argT,↓zb,push_cast,simprocAttr,tte]
 refine ze [[1],[1]] [] (hG) ?_
 simp -implicitDefEqProofs only [↓zb,push_cast,simprocAttr,tte]
 refine z7 mixed ttok (fun n:Nat=>(⟨[(14,num n),(13,num G.length),(12,.d (.sl 3 (zd rG G))),(7,.vec 500 ((G.take n).flatMap fun g=>List.replicate (t all g) g.row).length),(2,.clo f [.ptr 1000 0])],[(1000,vB all),(500,vecT ((G.take n).flatMap fun g=>List.replicate (t all g) g.row))]⟩:SL)) (fun n=>G.length-n) (fun n=>n<=G.length) 0 (Nat.zero_le _) ?_ ?_
 ·exact (Weak.nilL 7 500 53 1 rfl rfl).trans (Weak.keepL (by simp [ends]) (by simp [ends]) (by simp [ends]))
 intro I hI n hn
 have hlt:=flat_take (t:=t all) (G:=G) (n:=n)
 have hlt1:=flat_take (t:=t all) (G:=G) (n:=n+1)
 have hsn:=comb_snoc (t all) G n
 simp -implicitDefEqProofs only [↓zb,push_cast,simprocAttr,tte]
 refine za (fun h=>?_) fun h=>?_
 ·have h':n<G.length:=by have:=of_decide_eq_true h;omega
  have hw:=zh h' (by omega)
  have hsn:=hsn h'
  obtain ⟨q1,q2,q3⟩:=hgm _ (zk h')
  obtain ⟨L,hL⟩: ∃L,L=((G.take n).flatMap fun g=>List.replicate (t all g) g.row):=⟨_,rfl⟩
  rw [<-hL] at hlt hsn ⊢
  obtain ⟨g,hg⟩: ∃g,g=G.getD n default:=⟨_,rfl⟩
  rw [<-hg] at q1 q2 q3 hsn ⊢
  rw [hsn] at hlt1
  have hlL:(L++List.replicate (t all g) g.row).length=L.length+t all g:=by rw [List.length_append,List.length_replicate]
  refine ⟨by omega,?_⟩
  have hcg:=hc g q2 q3
  simp only [aG] at hcg
  refine ze [[3,0,0],[0]] [(1000,1000)] (hcg) ?_
  simp -implicitDefEqProofs only [↓zb,push_cast,simprocAttr,tte]
  refine z7 mixed ttok (fun q:Nat=>(⟨[(21,num q),(20,num (t all g:Nat)),(14,num n),(13,num G.length),(12,.d (.sl 3 (zd rG G))),(7,.vec 500 (L++List.replicate q g.row).length),(2,.clo f [.ptr 1000 0]),(9,.ptr 9 0)],[(9,.var [.d (.sl 3 (zd rV g.row)),num g.m,num g.n]),(1000,vB all),(500,vecT (L++List.replicate q g.row))]⟩:SL)) (fun q=>t all g-q) (fun q=>q<=t all g) 0 (Nat.zero_le _) ?_ ?_
  ·exact Weak.keepL (by simp [ends]) (by simp [ends]) (by simp [ends])
  intro J hJ q hq
  have hlq:(L++List.replicate q g.row).length=L.length+q:=by rw [List.length_append,List.length_replicate]
  have hs2:L++List.replicate (q+1) g.row=(L++List.replicate q g.row)++[g.row]:=by rw [List.replicate_succ',List.append_assoc]
  have hlq1:(L++List.replicate (q+1) g.row).length=(L++List.replicate q g.row).length+1:=by rw [hs2,List.length_append];rfl
  obtain ⟨L1,hL1⟩: ∃L1,L1=L++List.replicate q g.row:=⟨_,rfl⟩
  rw [<-hL1] at hlq hs2 hlq1 ⊢
  have hrows:zd rRow L1++[[D.sl 3 (zd rV g.row)]]=zd rRow (L1++[g.row]):=zj rRow L1 [g.row]
  have hwq:=zh (N:=300000) (n:=q) (by omega) (by omega)
  simp -implicitDefEqProofs only [↓zb,push_cast,simprocAttr,tte]
  refine za (fun f=>?_) fun f=>?_
  ·have f':q<t all g:=by have:=of_decide_eq_true f;omega
   refine ze [[3]] [] (c_cloneR g.row (Nat.le_trans q1 (by decide))) ?_
   simp -implicitDefEqProofs only [↓zb,push_cast,simprocAttr,tte]
   rw [hrows,<-hs2]
   refine ⟨by omega,?_⟩
   exact zq hJ (q+1) f' (by show t all g-(q+1)<t all g-q;omega) (Weak.keepL (by simp [hwq,hlq1,ends]) (by simp [ends]) (by simp [ends]))
  ·obtain rfl:q=t all g:=by have:=of_decide_eq_false f;omega
   rw [<-hsn] at hL1
   rw [hL1]
   exact zq hI (n+1) h' (by show G.length-(n+1)<G.length-n;omega) (Weak.keepL (by simp [hw,ends]) (by simp [ends]) (by simp [ends]))
 ·obtain rfl:n=G.length:=by have:=of_decide_eq_false h;omega
  rw [List.take_length]
  refine zt [1] rfl (by simp) (by simp [zc]<;>omega) ?_ (by first | rfl | simp [ends] | (subst_vars;simp [ends])) (by simp [ends]) (by simp [ends])
  exact hr
end
section
open Go.Am
attribute [local simp, local push_cast] num boo str ints aV aTab zx aS aT aC aRow rRow rG vecT vB
theorem c_bunion (a b:List Row) (all:Bool) (hl:a.length<=100000) (hm:b.length<=100000) (ha: ∀r∈a,r.length<=1000) (hb: ∀r∈b,r.length<=1000):
 ACall Tryz.prog 64 [aTab a,aTab b,boo all] [] (aTab (uU (jb all) a b)) []:=by
 refine zl mixed ttok Tryz.func64 Tryz.ntmps64 Tryz.results64 ?_
 generalize hr:aTab (uU (jb all) a b)=R
 simp -implicitDefEqProofs only [argT,↓zb,push_cast,simprocAttr,tte]
 refine ze [[1],[1],[],[]] [(1000,5)] (c_combined 112 jb all a b hl hm ha hb (Nat.le_trans (combM_len (unionT_le all (srt a) (srt b))) (by omega)) (fun g h1 h2=>c_ut all g h1 h2)) ?_
 simp -implicitDefEqProofs only [↓zb,push_cast,simprocAttr,tte]
 exact zi trivial (by rw [<-hr];rfl) (by simp [ends])
theorem c_bdistinct (rows:List Row) (hl:rows.length<=100000) (hr1: ∀r∈rows,r.length<=1000):ACall Tryz.prog 67 [aTab rows] [] (aTab (j4 rows)) []:=by
 refine zl mixed ttok Tryz.func67 Tryz.ntmps67 Tryz.results67 ?_
 generalize hr:aTab (j4 rows)=R
 simp -implicitDefEqProofs only [argT,↓zb,push_cast,simprocAttr,tte]
 refine ze [[1],[1],[0]] [] (c_bunion rows [] false hl (by decide) hr1 (fun _ h=>by cases h)) ?_
 simp -implicitDefEqProofs only [↓zb,push_cast,simprocAttr,tte]
 exact zi trivial (by rw [<-hr];rfl) (by simp [ends])
theorem c_bcanon (rows:List Row) (hl:rows.length<=100000) (hr1: ∀r∈rows,r.length<=1000):ACall Tryz.prog 36 [aTab rows] [] (aTab (srt rows)) []:=by
 refine zl mixed ttok Tryz.func36 Tryz.ntmps36 Tryz.results36 ?_
 generalize hr:aTab (srt rows)=R
 simp -implicitDefEqProofs only [argT,↓zb,push_cast,simprocAttr,tte]
 refine ze [[1]] [] (c_sorted rows hl hr1) ?_
 simp -implicitDefEqProofs only [↓zb,push_cast,simprocAttr,tte]
 exact zi trivial (by rw [<-hr];rfl) (by simp [ends])
end
section
open Go.Am Go.Proofs Go.Shelf Go.RowKit
attribute [local simp, local push_cast] num boo str ints aV aTab zx aS aT aC aRow rRow yQ wW wu zP zO aAgg
theorem c_mvals (l:List Ex) (row:Row) (hl:l.length<=1000) (ho: ∀e∈l,Ok12 e):ACall Tryz.prog 62 [.d (.sl 6 (zd rE l)),aRow row] [] (aRow (l.map (y9 row))) []:=by
 refine zl mixed ttok Tryz.func62 Tryz.ntmps62 Tryz.results62 ?_
 generalize hr:aRow (l.map (y9 row))=R
 simp -implicitDefEqProofs only [argT,↓zb,push_cast,simprocAttr,tte]
 refine zo mixed ttok 10 [8,9,1] [] (by simp only [zC,ends,push_cast,simprocAttr];rfl) (by simp only [zH,zp,ends,push_cast,simprocAttr];rfl) l.length (fun _=>True) (fun n=>[(5,.vec 500 ((l.take n).map (y9 row)).length)]) (fun n=>[(500,.vec 71 3 (zd rV ((l.take n).map (y9 row))) 0)]) trivial ?_ ?_
 ·exact (Weak.nilL 5 500 71 3 rfl rfl).trans (Weak.keepL (by simp [cst,ends]) (by simp [cst,ends]) (by simp [cst,ends]))
 intro I hI n hn hi
 have hs:n<l.length->(l.take (n+1)).map (y9 row)=(l.take n).map (y9 row)++[y9 row (l.getD n default)]:=fun h=>by rw [zz _ _ h,List.map_append];rfl
 have hl2:((l.take n).map (y9 row)).length<=1000:=by rw [List.length_map,List.length_take];omega
 simp -implicitDefEqProofs only [cst,↓zb,push_cast,simprocAttr,tte]
 refine za (fun h=>?_) fun h=>?_
 ·have h':n<l.length:=by have:=of_decide_eq_true h;omega
  have hw:=zh h' (by omega)
  have hs:=hs h'
  have hls:((l.take (n+1)).map (y9 row)).length=((l.take n).map (y9 row)).length+1:=by rw [hs,List.length_append];rfl
  obtain ⟨L,hL⟩: ∃L,L=(l.take n).map (y9 row):=⟨_,rfl⟩
  rw [<-hL] at hs hl2 hls ⊢
  refine ⟨by omega,?_⟩
  have hc:=c_eval row _ (ho _ (zk h'))
  rw [wP] at hc
  refine ze [[0,0,0,0,0,6],[3]] [] (hc) ?_
  simp -implicitDefEqProofs only [aV,↓zb,push_cast,simprocAttr,tte]
  rw [<-hs]
  refine ⟨by omega,?_⟩
  rw [<-hls]
  exact zn hI n rfl h' trivial (by simp [hw,ends]) (by simp [hw,ends]) (by simp [hw,ends]) (by simp [hw,ends])
 obtain rfl:n=l.length:=by have:=of_decide_eq_false h;omega
 rw [List.take_length]
 refine zt [3] rfl (by simp) (by simp [zc]<;>omega) ?_ (by first | rfl | simp [ends] | (subst_vars;simp [ends])) (by simp [ends]) (by simp [ends])
 exact hr
theorem c_aggd (q:Qr) (hq:OkQ1 q) (key:Row) (rows:List Row) (hk:key.length<=1000) (hl:rows.length<=1000) (hv: ∀a∈q.aggs,∀v∈yN a.arg rows,okV v):
 ACall Tryz.prog 119 [aQ q,aRow key,aTab rows] [] (aRow (key++wz q rows)) []:=by
 have hal:=hq.aggs
 rw [x4]
 refine zl mixed ttok Tryz.func119 Tryz.ntmps119 Tryz.results119 ?_
 generalize hr:aRow (key++wz q rows)=R
 simp -implicitDefEqProofs only [argT,↓zb,push_cast,simprocAttr,tte]
 refine ze [[3]] [(1000,500)] (c_cloneO key (by omega)) ?_
 simp -implicitDefEqProofs only [↓zb,push_cast,simprocAttr,tte]
 refine z7 mixed ttok (fun n:Nat=>(⟨[(15,num n),(14,num q.aggs.length),(13,.d (.sl 7 (zd rAgg q.aggs))),(7,.vec 500 (key++(q.aggs.take n).map fun a=>aggM a.fn a.arg rows).length),(2,aTab rows)],[(500,.vec 71 3 (zd rV (key++(q.aggs.take n).map fun a=>aggM a.fn a.arg rows)) 0)]⟩:SL)) (fun n=>q.aggs.length-n) (fun n=>n<=q.aggs.length) 0 (Nat.zero_le _) ?_ ?_
 ·exact Weak.keepL (by simp [ends]) (by simp [ends]) (by simp [ends])
 intro I hI n hn
 have hs:n<q.aggs.length->key++((q.aggs.take (n+1)).map fun a=>aggM a.fn a.arg rows)=(key++(q.aggs.take n).map fun a=>aggM a.fn a.arg rows)++[aggM (q.aggs.getD n default).fn (q.aggs.getD n default).arg rows]:=fun h=>by rw [zz _ _ h,List.map_append,List.append_assoc];rfl
 have hl2:(key++(q.aggs.take n).map fun a=>aggM a.fn a.arg rows).length<=2000:=by rw [List.length_append,List.length_map,List.length_take];omega
 simp -implicitDefEqProofs only [↓zb,push_cast,simprocAttr,tte]
 refine za (fun h=>?_) fun h=>?_
 ·have h':n<q.aggs.length:=by have:=of_decide_eq_true h;omega
  have hw:=zh h' (by omega)
  have hs:=hs h'
  have hls:(key++(q.aggs.take (n+1)).map fun a=>aggM a.fn a.arg rows).length=(key++(q.aggs.take n).map fun a=>aggM a.fn a.arg rows).length+1:=by rw [hs,List.length_append];rfl
  obtain ⟨L,hL⟩: ∃L,L=key++(q.aggs.take n).map fun a=>aggM a.fn a.arg rows:=⟨_,rfl⟩
  rw [<-hL] at hs hl2 hls ⊢
  refine ⟨by omega,?_⟩
  have hm:=zk h'
  have hc:=c_aggregate (q.aggs.getD n default).fn (q.aggs.getD n default).arg (hq.ag _ hm) rows hl (hv _ hm)
  simp only [aAgg] at hc
  refine ze [[0,0,0,0,0,0,6],[1]] [] (hc) ?_
  simp -implicitDefEqProofs only [aV,↓zb,push_cast,simprocAttr,tte]
  rw [<-hs]
  refine ⟨by omega,?_⟩
  rw [<-hls]
  exact zq hI (n+1) h' (by show q.aggs.length-(n+1)<q.aggs.length-n;omega) (Weak.keepL (by simp [hw,ends]) (by simp [ends]) (by simp [ends]))
 obtain rfl:n=q.aggs.length:=by have:=of_decide_eq_false h;omega
 rw [List.take_length]
 refine zt [3] rfl (by simp) (by simp [zc]<;>omega) ?_ (by first | rfl | simp [ends] | (subst_vars;simp [ends])) (by simp [ends]) (by simp [ends])
 exact hr
end
end Go.Proofs.YtnmibokjpedkiaaGreatDoor
