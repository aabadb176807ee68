/- Made queries answer as specified (part Wk) -/
import Derived.Test.YtnmibokjpedkiaaGreatDoorWg
import Derived.Test.YtnmibokjpedkiaaGreatDoorWj
set_option maxRecDepth 100000
set_option maxHeartbeats 4000000
set_option linter.all false
namespace Go.Proofs.YtnmibokjpedkiaaGreatDoor
open Go.Am
section
attribute [local simp, local push_cast] Ta aRow rRow
def cntK (k:Row) (l:List KRow):Nat:=cntR k (l.map Prod.fst)
theorem cntK_le (k:Row) (l:List KRow):cntK k l<=l.length:=by have:=xy k (l.map Prod.fst);simpa [cntK] using this
theorem cntK_pos (x:KRow) (l:List KRow):0<cntK x.1 (x::l):=by
 unfold cntK;rw [Y0,xz,if_pos (yi _)];omega
def runF (q:Qr):Nat->List KRow->List Row
 | 0,_=>[]
 | _+1,[]=>[]
 | n+1,x::l=>(x.1++xc q (((x::l).take (cntK x.1 (x::l))).map Prod.snd))::runF q n ((x::l).drop (cntK x.1 (x::l)))
theorem runF_fuel (q:Qr): ∀(n m:Nat) (l:List KRow),l.length<=n->l.length<=m->runF q n l=runF q m l
 | 0,m,[],_,_=>by cases m<;>rfl
 | 0,m,x::l,h,_=>by simp at h
 | n+1,0,[],_,_=>rfl
 | n+1,0,x::l,_,h=>by simp at h
 | n+1,m+1,[],_,_=>rfl
 | n+1,m+1,x::l,h1,h2=>by
   have:=cntK_pos x l;simp only [Y5] at h1 h2;rw [runF,runF,runF_fuel q n m _ Zt Zt]
def runM (q:Qr) (l:List KRow):List Row:=runF q l.length l
theorem runM_nil (q:Qr):runM q []=[]:=rfl
theorem runM_cons (q:Qr) (x:KRow) (l:List KRow):runM q (x::l)=(x.1++xc q (((x::l).take (cntK x.1 (x::l))).map Prod.snd))::runM q ((x::l).drop (cntK x.1 (x::l))):=by
 have:=cntK_pos x l;unfold runM;rw [Y5,runF,runF_fuel q l.length _ _ Zt (Ys _)]
theorem key_asc {l:List KRow} (h:Asc leKk l):Asc leR (l.map Prod.fst):=by
 rw [Asc,List.pairwise_map];exact h
theorem sort_keys: ∀l:List KRow,(zL leKk l).map Prod.fst=srt (l.map Prod.fst)
 | []=>rfl
 | x::l=>by
   have h:=List.map_merge (f:=Prod.fst) (r:=leKk) (s:=leR) (l:=[x]) (l':=zL leKk l) (fun a _ b _=>rfl);rw [zL,h,sort_keys l];rfl
theorem filter_take (x:KRow) (l:List KRow) (h:Asc leKk (x::l)):
 ((x::l).filter fun y=>cmpR y.1 x.1==0)=(x::l).take (cntK x.1 (x::l))/\ ∀k,(∃y∈(x::l).drop (cntK x.1 (x::l)),y.1=k)->((x::l).filter fun y=>cmpR y.1 k==0)=((x::l).drop (cntK x.1 (x::l))).filter fun y=>cmpR y.1 k==0:=by
 have ha:=key_asc h;have h1:=(kp ha).1;obtain ⟨d1,d2⟩:=drop_gt ((x::l).map Prod.fst) x.1 ha (fun y hy=>(jy x.1 y).2 (by
  rw [Y0] at hy;rcases YB.1 hy with rfl | hy
  ·rw [yi];omega
  ·exact (jy _ _).1 (h1 y hy)))
 have hc:cntR x.1 ((x::l).map Prod.fst)=cntK x.1 (x::l):=rfl;rw [hc] at d1 d2;generalize cntK x.1 (x::l)=c at d1 d2;have e1: ∀y∈(x::l).take c,y.1=x.1:=fun y hy=>d2 y.1 (by rw [<-List.map_take];exact List.mem_map_of_mem hy);have e2: ∀y∈(x::l).drop c,cmpR x.1 y.1<0:=fun y hy=>d1 y.1 (by rw [<-List.map_drop];exact List.mem_map_of_mem hy);generalize hL:x::l=L at e1 e2;refine ⟨?_,fun k hk=>?_⟩
 ·rw [←Yp c L,Uy,Yp];rw [List.filter_eq_self.2 fun y hy=>by rw [e1 y hy,yi];rfl];rw [UI.2 fun y hy h0=>?_,Yw];have:=e2 y hy;have h2:=(wF y.1 x.1).1 (Zc h0);rw [h2,yi] at this;omega
 ·obtain ⟨z,hz,rfl⟩:=hk;have hz2:=e2 z hz
  conv=>lhs;rw [<-Yp c L]
  rw [Uy,UI.2 fun y hy h0=>?_,Ue];have h2:=(wF y.1 z.1).1 (Zc h0);rw [<-h2,e1 y hy,yi] at hz2;omega
theorem runM_eq (q:Qr): ∀(n:Nat) (l:List KRow),l.length<=n->Asc leKk l->runM q l=((grpM (l.map Prod.fst) []).map (·.row)).map fun k=>k++xc q ((l.filter fun y=>cmpR y.1 k==0).map Prod.snd)
 | n,[],_,_=>rfl
 | 0,x::l,h,_=>by simp at h
 | n+1,x::l,h,ha=>by
   have hp:=cntK_pos x l;have hpick:yo ((x::l).map Prod.fst) []=x.1:=rfl;have ih:=runM_eq q n ((x::l).drop (cntK x.1 (x::l))) XC (List.Pairwise.sublist (Ut _ _) ha);obtain ⟨f1,f2⟩:=filter_take x l ha;rw [runM_cons,wP Zd,hpick];have hc:cntR x.1 ((x::l).map Prod.fst)=cntK x.1 (x::l):=rfl;rw [hc,List.drop_nil,<-List.map_drop,Y0,Y0,f1,ih]
   congr 1
   refine Up fun k hk=>?_;have hm:=(grp_heads _ (((x::l).drop (cntK x.1 (x::l))).map Prod.fst) (Ys _) (key_asc (List.Pairwise.sublist (Ut _ _) ha))).2 k;obtain ⟨y,hy,hyk⟩:=Yv.1 (hm.1 hk);rw [f2 k ⟨y,hy,hyk⟩]
def keyed (q:Qr) (rows:List Row):List KRow:=rows.map fun r=>(keyR q r,r)
theorem run_grP (q:Qr) (rows:List Row) (h: ¬(rows.length=0∧q.exprs.length=0)):runM q (zL leKk (keyed q rows))=grP q rows:=by
 rw [runM_eq q _ _ (Ys _) (yL ordKk _),sort_keys];have hk:(keyed q rows).map Prod.fst=rows.map (keyR q):=by simp [keyed]
 have hf: ∀k,xc q (((zL leKk (keyed q rows)).filter fun y=>cmpR y.1 k==0).map Prod.snd)=xc q (rows.filter fun r=>cmpR (keyR q r) k==0):=fun k=>by
  refine aggsR_perm q ?_;have h1:=((zJ (le:=leKk) (keyed q rows)).filter fun y=>cmpR y.1 k==0).map Prod.snd;have h2:((keyed q rows).filter fun y=>cmpR y.1 k==0).map Prod.snd=rows.filter fun r=>cmpR (keyR q r) k==0:=by
   unfold keyed;rw [List.filter_map,Ux];simp [Function.comp_def]
  rw [h2] at h1;exact h1
 simp only [hf,hk];rw [<-distM_eq];unfold grP grpsR gkP
 split
 ·rename_i h0;have hr: ∀r,keyR q r=[]:=fun r=>by unfold keyR;rw [Yi h0];rfl
  have hne: ¬rows.length=0:=fun e=>h ⟨e,h0⟩;have hd:jb (rows.map (keyR q))=[[]]:=by
   obtain ⟨p1,p2⟩:=wC (rows.map (keyR q));have hall: ∀x,x∈jb (rows.map (keyR q)) ↔ x=[]:=fun x=>by
    rw [p2,Yv];constructor
    ·rintro ⟨r,_,rfl⟩;exact hr r
    ·rintro rfl
     match rows,hne with
     | r::rows,_=>exact ⟨r,Zd,hr r⟩
   generalize jb (rows.map (keyR q))=l at p1 hall
   match l,p1,hall with
   | [],_,hall=>exact absurd ((hall []).2 rfl) Zd
   | [x],_,hall=>rw [(hall x).1 Zd]
   | x::y::l,p1,hall=>
     have h1:=(hall x).1 Zd;have h2:=(hall y).1 Zd;have h3:=(U9.1 p1).1 y Zd;rw [h1,h2,yi] at h3;omega
  rw [hd]
 ·rfl
theorem grP_none (q:Qr) (rows:List Row) (h:rows.length=0) (h0:q.exprs.length=0):grP q rows=[xc q []]:=by
 have hr:rows=[]:=Yi h;subst hr;simp [grP,gkP,h0,grpsR]
end
section
attribute [local simp, local push_cast] Ta aRow rRow rG vecT Ra.vecK
attribute [local simp] zI
theorem X6 {p:Prop} (h:p:=by simp [zc]):p:=h
theorem c_sorted (rows:List Row) (hl:rows.length<=100000) (hr1: ∀r∈rows,r.length<=1000):ACall Tryz.prog 69 [aTab rows] [] (aTab (srt rows)) []:=by
 refine zn mixed ttok Tryz.func69 Tryz.ntmps69 Tryz.results69 ?_;generalize hr:aTab (srt rows)=R;refine Zn ?_;refine zq mixed ttok 8 [6,7] [] Zv Zw rows.length (fun _=>True) (fun n=>[(3,.vec 500 (rows.take n).length)]) (fun n=>[(500,vecT (rows.take n))]) trivial ?_ ?_
 ·exact (YU 3 500 53 1 rfl rfl).trans (Ya Zh Zh Zh)
 intro I hI n hn hi;refine Zx ?_;refine za (fun h=>?_) fun h=>?_
 ·have h':n<rows.length:=Zq h;have hw:=zh h' Za;have hs:=zy rows n h';have hl2:(rows.take n).length<=100000:=ZD;have hls:(rows.take (n+1)).length=(rows.take n).length+1:=Xr hs;refine ⟨Za,?_⟩;refine zg [[3]] [] (c_cloneR (rows.getD n default) (Y3 (hr1 _ (zk h')) Zi)) ?_;refine Zf ?_;have hrows:zd rRow (rows.take n)++[[D.sl 3 (zd rV (rows.getD n default))]]=zd rRow (rows.take (n+1)):=by rw [hs];exact zf rRow (rows.take n) [rows.getD n default]
  rw [hrows];refine ⟨Za,?_⟩;rw [<-hls];exact Nw
 obtain rfl:n=rows.length:=Zp h;rw [Yk];refine xl [(1000,500)] (view_sub (e:=53) (wd:=1) (fz:=0) (rows:=zd rRow rows) Zb X6) (Ra.c_sort rows hl hr1) (by simp [hl,ends,bs]) (ZU bs) (Ze hl) ZV ?_;refine Zf ?_;exact MO
theorem cnt_ltL {X:List Row} {j:Nat} {r:Row} (h1:j<X.length) (h2:j<=cntR r X) (h:cmpR (X.getD j default) r=0):j<cntR r X:=by
 have:=cnt_lt (X:=X) (i:=0) (j:=j) (r:=r) Za (Zc h2) (Zc h);simpa using this
theorem cnt_eqL {X:List Row} {j:Nat} {r:Row} (h2:j<=cntR r X) (h:X.length<=j\/cmpR (X.getD j default) r≠0):j=cntR r X:=by
 have:=cnt_eq (X:=X) (i:=0) (j:=j) (r:=r) (Zc h2) (Zc h);simpa using this
theorem Vk {p:Prop} (h:p:=by show (out++[(⟨r,c1,q⟩:Grp)]).length+X2.length+Y1.length<=200000;rw [Yb];show out.length+1+_+_<=_;omega):p:=h
theorem Gq{p:Prop}(h:p:=by
 exact zi hI (X2,Y1,out++[⟨r,c1,q⟩]) ⟨hxm,hym,Vk,hf⟩ Zl (Ya Zb Zb Zb)):p:=h
theorem c_merged (a b:List Row) (hl:a.length≤100000) (hm:b.length≤100000) (ha: ∀r∈a,r.length≤1000) (hb: ∀r∈b,r.length≤1000):
 ACall Tryz.prog 175 [aTab a,aTab b] [] (.d (.sl 3 (zd rG (grpM (srt a) (srt b))))) []:=by
 refine zn mixed ttok Tryz.func175 Tryz.ntmps175 Tryz.results175 ?_;have iha:=c_sorted a hl ha;have ihb:=c_sorted b hm hb;have lx:(srt a).length=a.length:=zI a;have ly:(srt b).length=b.length:=zI b;have mx: ∀r∈srt a,r.length<=1000:=fun r h=>ha r ((zJ a).mem_iff.1 h);have my: ∀r∈srt b,r.length<=1000:=fun r h=>hb r ((zJ b).mem_iff.1 h);generalize srt a=X at iha lx mx ⊢;generalize srt b=Y at ihb ly my ⊢;generalize hG:grpM X Y=G;generalize hr:A.d (D.sl 3 (zd rG G))=R;refine Zn ?_;refine zg [[1]] [] (iha) ?_;refine Zf ?_;refine zg [[1]] [] (ihb) ?_;refine Zf ?_;clear iha ihb;refine zx mixed ttok (fun x:List Row×List Row×List Grp=>(⟨[(5,aTab x.1),(6,aTab x.2.1),(7,.vec 500 x.2.2.length)],[(500,.vec 155 3 (zd rG x.2.2) 0)]⟩:SL)) (fun x=>x.1.length+x.2.1.length)
  (fun x=>(∀r∈x.1,r.length<=1000)/\(∀r∈x.2.1,r.length<=1000)/\x.2.2.length+x.1.length+x.2.1.length<=200000/\x.2.2++grpM x.1 x.2.1=G) (X,Y,[]) ⟨mx,my,by show 0+X.length+Y.length<=200000;omega,hG⟩ ?_ ?_
 ·exact (YU 7 500 155 3 rfl rfl).trans (Ya Zb Zb Zb)
 clear mx my lx ly hG X Y;intro I hI ⟨X,Y,out⟩ ⟨mx,my,hol,hinv⟩;simp only at mx my hol hinv;refine Zf ?_;generalize hrr:yo X Y=r at *
 refine' meetQ ⟨[(5,aTab (X.drop 0)),(6,aTab Y),(7,.vec 500 out.length),(8,.ptr 8 0)],[(8,.var [.d (.sl 3 (zd rV r)),num (0:Nat),num (0:Nat)]),(500,.vec 155 3 (zd rG out) 0)]⟩ (0<X.length\/0<Y.length) ?lead ?body
 case lead=>
  intro hM;have p1:0<X.length->Y.length=0->r=X.getD 0 default:=fun h1 h2=>by rw [<-hrr];have:=pick2_l (X:=X) (Y:=Y) (i:=0) (k:=0) h1 h2.symm;simpa using this
  have p2:X.length=0->0<Y.length->r=Y.getD 0 default:=fun h1 h2=>by rw [<-hrr];have:=pick2_r (X:=X) (Y:=Y) (i:=0) (k:=0) h1.symm h2;simpa using this
  have p3:0<X.length->0<Y.length->leR (X.getD 0 default) (Y.getD 0 default)=true->r=X.getD 0 default:=fun h1 h2 h=>by rw [<-hrr];have:=pick2_lt (X:=X) (Y:=Y) (i:=0) (k:=0) h1 h2 h;simpa using this
  have p4:0<X.length->0<Y.length->leR (X.getD 0 default) (Y.getD 0 default)=false->r=Y.getD 0 default:=fun h1 h2 h=>by rw [<-hrr];have:=pick2_gt (X:=X) (Y:=Y) (i:=0) (k:=0) h1 h2 h;simpa using this
  refine za (fun h1=>?_) fun h1=>?_
  ·have h1':0<X.length:=Zq h1;refine za (fun g1=>?_) fun g1=>?_
   ·have g1':Y.length=0:=by have:(Y.length:Int)=0:=by simpa using g1
                            omega
    have hp:=p1 h1' g1';refine ⟨ze Zg,Za,?_⟩;exact hM _ (.inl h1') (Ya Zb (Ze hp) Zb)
   ·have g1':0<Y.length:=by have: ¬(Y.length:Int)=0:=by simpa using g1
                            omega
    refine za (fun _=>?_) (fun h=>absurd (h1.symm.trans h) Zi);refine ⟨Za,Za,?_⟩;refine zg [[3],[3]] [] (c_cmpKr (X.getD 0 default) (Y.getD 0 default) (Y3 (mx _ (zk h1')) Zi)) ?_;refine Zf ?_;refine ⟨ze Zg,?_⟩;have hle:decide (cmpR (X.getD 0 default) (Y.getD 0 default)<=0)=leR (X.getD 0 default) (Y.getD 0 default):=rfl;rw [hle];refine za (fun g2=>?_) fun g2=>?_
    ·have hp:=p3 h1' g1' g2;refine ⟨Za,?_⟩;exact hM _ (.inl h1') (Ya Zb (Ze hp) Zb)
    ·have hp:=p4 h1' g1' g2;refine ⟨Za,?_⟩;exact hM _ (.inl h1') (Ya Zb (Ze hp) Zb)
  ·have h1':X.length=0:=Zp h1;refine za (fun g1=>?_) fun g1=>?_
   ·have g1':0<Y.length:=Zq g1;refine za (fun h=>absurd (show (Y.length:Int)=0 from Zc h) Za) (fun _=>?_);refine za (fun h=>absurd (h1.symm.trans h) Zi) (fun _=>?_);have hp:=p2 h1' g1';refine ⟨ze Zg,Za,?_⟩;exact hM _ (.inr g1') (Ya Zb (Ze hp) Zb)
   ·have g1':Y.length=0:=Zp g1;have e1:X=[]:=Yi h1';have e2:Y=[]:=Yi g1';exact KJ
 case body=>
  intro σ hQ hw;have h0: ¬(X.length=0/\Y.length=0):=Za;have hxe:=wP h0;have hpos:=v7 X Y h0;have hrm:=pick2_mem X Y h0;rw [hrr] at hpos hrm hxe;have hrl:r.length<=1000:=by
   rcases Yr.1 hrm with q | q
   ·exact mx _ q
   ·exact my _ q
  rw [hxe] at hinv;have hc1:=xy r X;have hc2:=xy r Y;have hlt1: ∀j,j<X.length->j<=cntR r X->cmpR (X.getD j default) r=0->j<cntR r X:=fun j=>cnt_ltL;have heq1: ∀j,j<=cntR r X->X.length<=j\/cmpR (X.getD j default) r≠0->j=cntR r X:=fun j=>cnt_eqL;have hlt2: ∀j,j<Y.length->j<=cntR r Y->cmpR (Y.getD j default) r=0->j<cntR r Y:=fun j=>cnt_ltL;have heq2: ∀j,j<=cntR r Y->Y.length<=j\/cmpR (Y.getD j default) r≠0->j=cntR r Y:=fun j=>cnt_eqL;generalize cntR r X=c1 at *;generalize cntR r Y=c2 at *;refine zx mixed ttok (fun j:Nat=>(⟨[(5,aTab (X.drop j)),(6,aTab Y),(7,.vec 500 out.length),(8,.ptr 8 0)],[(8,.var [.d (.sl 3 (zd rV r)),num j,num (0:Nat)]),(500,.vec 155 3 (zd rG out) 0)]⟩:SL)) (fun j=>c1-j) (fun j=>j<=c1) 0 (Yj _) hw ?_;intro J hJ j hj;have hl1:=hlt1 j;have he1:=heq1 j;have wj:=zh (N:=1000001) (n:=j) Za Za;have hd1:(X.drop j).drop 1=X.drop (j+1):=Uo;have hg1:(X.drop j).getD 0 default=X.getD j default:=by rw [drop_getD];simp
  have hn1:(X.drop j).length=X.length-j:=Ym;obtain ⟨X1,hX1⟩: ∃X1,X1=X.drop j:=⟨_,rfl⟩
  rw [<-hX1] at hd1 hg1 hn1 ⊢;refine Zf ?_
  refine' meetQ ⟨[(5,aTab (X.drop c1)),(6,aTab (Y.drop 0)),(7,.vec 500 out.length),(8,.ptr 8 0)],[(8,.var [.d (.sl 3 (zd rV r)),num c1,num (0:Nat)]),(500,.vec 155 3 (zd rG out) 0)]⟩ True ?lead2 ?body2
  case lead2=>
   intro hM;refine za (fun h1=>?_) fun h1=>?_
   ·have h1':j<X.length:=Zq h1;refine ⟨Za,?_⟩;refine zg [[3],[3]] [] (c_cmpKr (X1.getD 0 default) r (Y3 (by rw [hg1];exact mx _ (zk h1')) Zi)) ?_;refine Zf ?_;rw [hg1];refine ⟨ze Zg,?_⟩;refine za (fun g2=>?_) fun g2=>?_
    ·have hjc:=hl1 h1' hj (Zc g2);rw [Yk,hd1];refine ⟨Za,?_⟩;exact zi hJ (j+1) hjc Zl (Ya Zb (Ze wj) Zb)
    ·have hjc:=he1 hj (.inr (Zc g2));subst hjc;rw [hX1];exact hM _ trivial (Ya Zb Zb Zb)
   ·have h1':X.length≤j:=Zp h1;have hjc:=he1 hj (.inl h1');subst hjc;rw [hX1];refine ⟨ze Zg,?_⟩;exact hM _ trivial (Ya Zb Zb Zb)
  case body2=>
   intro σ2 _ hw2;refine zx mixed ttok (fun q:Nat=>(⟨[(5,aTab (X.drop c1)),(6,aTab (Y.drop q)),(7,.vec 500 out.length),(8,.ptr 8 0)],[(8,.var [.d (.sl 3 (zd rV r)),num c1,num q]),(500,.vec 155 3 (zd rG out) 0)]⟩:SL)) (fun q=>c2-q) (fun q=>q<=c2) 0 (Yj _) hw2 ?_;intro L hL q hq;have hl2:=hlt2 q;have he2:=heq2 q;have wq:=zh (N:=1000001) (n:=q) Za Za;have hd2:(Y.drop q).drop 1=Y.drop (q+1):=Uo;have hg2:(Y.drop q).getD 0 default=Y.getD q default:=by rw [drop_getD];simp
   have hn2:(Y.drop q).length=Y.length-q:=Ym;obtain ⟨Y1,hY1⟩: ∃Y1,Y1=Y.drop q:=⟨_,rfl⟩
   obtain ⟨X2,hX2⟩: ∃X2,X2=X.drop c1:=⟨_,rfl⟩
   have hxl:X2.length=X.length-c1:=by rw [hX2,Ym]
   have hxm: ∀r∈X2,r.length<=1000:=fun r h=>mx r (Y9 (hX2 ▸ h));have hym: ∀r∈Y1,r.length<=1000:=fun r h=>my r (Y9 (hY1 ▸ h));rw [<-hX2] at hinv;rw [<-hY1] at hd2 hg2 hn2 ⊢;rw [<-hX2];have hrows:zd rG out++[[D.sl 3 (zd rV r),D.lit (.int .i64 (c1:Int)),D.lit (.int .i64 (c2:Int))]]=zd rG (out++[⟨r,c1,c2⟩]):=zf rG out [⟨r,c1,c2⟩];have hfin:q=c2->(out++[(⟨r,c1,c2⟩:Grp)])++grpM X2 Y1=G:=fun e=>by
    rw [hY1,e,<-hinv,Yn];rfl
   refine Zf ?_;refine za (fun h1=>?_) fun h1=>?_
   ·have h1':q<Y.length:=Zq h1;refine ⟨Za,?_⟩;refine zg [[3],[3]] [] (c_cmpKr (Y1.getD 0 default) r (Y3 (by rw [hg2];exact my _ (zk h1')) Zi)) ?_;refine Zf ?_;rw [hg2];refine ⟨ze Zg,?_⟩;refine za (fun g2=>?_) fun g2=>?_
    ·have hqc:=hl2 h1' hq (Zc g2);rw [Yk,hd2];refine ⟨Za,?_⟩;exact zi hL (q+1) hqc Zl (Ya (Ze hX2) (Ze wq) Zb)
    ·have hqc:=he2 hq (.inr (Zc g2));have hf:=hfin hqc;subst hqc;rw [hrows];refine ⟨Za,?_⟩;exact Gq
   ·have h1':Y.length≤q:=Zp h1;have hqc:=he2 hq (.inl h1');have hf:=hfin hqc;subst hqc;rw [hrows];refine ⟨ze Zg,Za,?_⟩;exact Gq
end
section
attribute [local simp, local push_cast] Ta aRow rRow rG vecT
def aG (g:Grp):A:= .agg [.d (.sl 3 (zd rV g.row)),num g.m,num g.n]
def vB (all:Bool):Ob:= .var [boo all]
attribute [local simp, local push_cast] aG vB
theorem c_once (b:Bool):ACall Tryz.prog 114 [boo b] [] (num (if b then 1 else 0)) []:=by
 refine zn mixed ttok Tryz.func114 Tryz.ntmps114 Tryz.results114 ?_;exact Jr
theorem jO {p:Prop} {x:D} {t:UL} {o:UM} {R:A} {os':UM} (hp:p) (hr:A.d x=R) (ho:keepO (lookO o) (inO os') os') (hin:keepIn (inO os') o):retx (some (p,A.d x)) ⟨t,o⟩ R os':=by
 subst hr;exact zv [] rfl hp trivial rfl rfl ho hin
theorem c_ut (all:Bool) (g:Grp) (hm:g.m<=100000) (hn:g.n<=100000):ACall Tryz.prog 112 [aG g,.ptr 1000 0] [(1000,vB all)] (num (xG all g:Nat)) [(1000,vB all)]:=by
 refine zn mixed ttok Tryz.func112 Tryz.ntmps112 Tryz.results112 ?_;obtain ⟨z,hz⟩: ∃z:Nat,z=xG all g:=⟨_,rfl⟩
 rw [<-hz];generalize hr:num (z:Nat)=R;have wm:IntKind.i64.wrap ((g.m:Int)+(g.n:Int))=((g.m+g.n:Nat):Int):=Z9;refine ZQ wm ?_;refine za (fun h=>?_) fun h=>?_
 ·subst h;exact jO trivial (Zo hr hz) Zb Zb
 ·subst h;exact jO trivial (Zo hr hz) Zb Zb
theorem Vl {p:Prop} (h:p:=by rw [<-hr];exact congrArg num (e false (by rw [Ud];simp;omega))):p:=h
theorem JX{p:Prop}(h:p:=by
 have h1': ¬0<g.m:=Zp h1;refine zg [[0]] [] (c_once false) ?_;refine Zf ?_;exact jO trivial Vl Zb Zb):p:=h
theorem Kp{p:Prop}(h:p:=by
 refine Zf ?_;exact jO trivial (by rw [<-hr];exact congrArg num (e _ (by rw [Ud];simp;omega))) Zb Zb):p:=h
theorem c_et (all:Bool) (g:Grp) (hm:g.m<=100000) (hn:g.n<=100000):ACall Tryz.prog 113 [aG g,.ptr 1000 0] [(1000,vB all)] (num (yX all g:Nat)) [(1000,vB all)]:=by
 refine zn mixed ttok Tryz.func113 Tryz.ntmps113 Tryz.results113 ?_;obtain ⟨z,hz⟩: ∃z:Nat,z=yX all g:=⟨_,rfl⟩
 rw [<-hz];generalize hr:num (z:Nat)=R;have wm:IntKind.i64.wrap ((g.m:Int)-(g.n:Int))=(g.m:Int)-(g.n:Int):=zt Za Za;refine ZQ wm ?_;refine za (fun h=>?_) fun h=>?_
 ·subst h;have e:(if (g.m:Int)-(g.n:Int)>0 then (g.m:Int)-(g.n:Int) else 0)=((z:Nat):Int):=by
   rw [hz];show _=((g.m-g.n:Nat):Int);split<;>omega
  exact jO trivial (by rw [<-hr];exact congrArg num e) Zb Zb
 ·subst h;have e: ∀b:Bool,b=decide (0<g.m/\g.n=0)->(if b=true then (1:Int) else 0)=((z:Nat):Int):=fun b hb=>by
   subst hb;rw [hz];exact Ke
  refine za (fun h1=>?_) fun h1=>?_
  ·have h1':0<g.m:=Zq h1;refine zg [[0]] [] (c_once ((g.n:Int)==0)) ?_;exact Kp
  ·exact JX
theorem c_it (all:Bool) (g:Grp) (hm:g.m<=100000) (hn:g.n<=100000):ACall Tryz.prog 115 [aG g,.ptr 1000 0] [(1000,vB all)] (num (xP all g:Nat)) [(1000,vB all)]:=by
 refine zn mixed ttok Tryz.func115 Tryz.ntmps115 Tryz.results115 ?_;obtain ⟨z,hz⟩: ∃z:Nat,z=xP all g:=⟨_,rfl⟩
 rw [<-hz];generalize hr:num (z:Nat)=R;refine Zn ?_;refine za (fun h=>?_) fun h=>?_
 ·subst h;have e:(if (g.n:Int)<(g.m:Int) then (g.n:Int) else (g.m:Int))=((z:Nat):Int):=by
   rw [hz];show _=((min g.m g.n:Nat):Int);split<;>omega
  exact jO trivial (by rw [<-hr];exact congrArg num e) Zb Zb
 ·subst h;have e: ∀b:Bool,b=decide (0<g.m/\0<g.n)->(if b=true then (1:Int) else 0)=((z:Nat):Int):=fun b hb=>by
   subst hb;rw [hz];have e:xP false g=if 0<g.m/\0<g.n then 1 else 0:=rfl
   rw [e];by_cases hq:0<g.m/\0<g.n<;>simp [hq]
  refine za (fun h1=>?_) fun h1=>?_
  ·have h1':0<g.m:=Zq h1;refine zg [[0]] [] (c_once (decide ((g.n:Int)>0))) ?_;exact Kp
  ·exact JX
theorem c_combined (f:FuncId) (t:Bool->Grp->Nat) (all:Bool) (a b:List Row) (hl:a.length<=100000) (hm:b.length<=100000) (ha: ∀r∈a,r.length<=1000) (hb: ∀r∈b,r.length<=1000) (hcl:(wg (t all) a b).length<=200000)
 (hc: ∀g:Grp,g.m<=100000->g.n<=100000->ACall Tryz.prog f [aG g,.ptr 1000 0] [(1000,vB all)] (num (t all g:Nat)) [(1000,vB all)]):
 ACall Tryz.prog 111 [aTab a,aTab b,.clo f [.ptr 1000 0]] [(1000,vB all)] (aTab (wg (t all) a b)) [(1000,vB all)]:=by
 refine zn mixed ttok Tryz.func111 Tryz.ntmps111 Tryz.results111 ?_;have hG:=c_merged a b hl hm ha hb;have hgl:=ug _ (srt a) (srt b) (Ys _);have hgm:=grpM_ok hl hm ha hb;rw [zI,zI] at hgl;unfold wg at hcl ⊢;generalize grpM (srt a) (srt b)=G at hG hcl hgl hgm ⊢;generalize hr:aTab (G.flatMap fun g=>List.replicate (t all g) g.row)=R;refine Zn ?_;refine zg [[1],[1]] [] (hG) ?_;refine Zf ?_;refine zx mixed ttok (fun n:Nat=>(⟨[(14,num n),(13,num G.length),(12,.d (.sl 3 (zd rG G))),(7,.vec 500 ((G.take n).flatMap fun g=>List.replicate (t all g) g.row).length),(2,.clo f [.ptr 1000 0])],[(1000,vB all),(500,vecT ((G.take n).flatMap fun g=>List.replicate (t all g) g.row))]⟩:SL)) (fun n=>G.length-n) (fun n=>n<=G.length) 0 (Yj _) ?_ ?_
 ·exact (YU 7 500 53 1 rfl rfl).trans (Ya Zb Zb Zb)
 intro I hI n hn;have hlt:=qd (t:=t all) (G:=G) (n:=n);have hlt1:=qd (t:=t all) (G:=G) (n:=n+1);have hsn:=comb_snoc (t all) G n;refine Zf ?_;refine za (fun h=>?_) fun h=>?_
 ·have h':n<G.length:=Zq h;have hw:=zh h' Za;have hsn:=hsn h';obtain ⟨q1,q2,q3⟩:=hgm _ (zk h');obtain ⟨L,hL⟩: ∃L,L=((G.take n).flatMap fun g=>List.replicate (t all g) g.row):=⟨_,rfl⟩
  rw [<-hL] at hlt hsn ⊢;obtain ⟨g,hg⟩: ∃g,g=G.getD n default:=⟨_,rfl⟩
  rw [<-hg] at q1 q2 q3 hsn ⊢;rw [hsn] at hlt1;have hlL:(L++List.replicate (t all g) g.row).length=L.length+t all g:=by rw [Yb,YQ]
  refine ⟨Za,?_⟩;have hcg:=hc g q2 q3;simp only [aG] at hcg;refine zg [[3,0,0],[0]] [(1000,1000)] (hcg) ?_;refine Zf ?_;refine zx mixed ttok (fun q:Nat=>(⟨[(21,num q),(20,num (t all g:Nat)),(14,num n),(13,num G.length),(12,.d (.sl 3 (zd rG G))),(7,.vec 500 (L++List.replicate q g.row).length),(2,.clo f [.ptr 1000 0]),(9,.ptr 9 0)],[(9,.var [.d (.sl 3 (zd rV g.row)),num g.m,num g.n]),(1000,vB all),(500,vecT (L++List.replicate q g.row))]⟩:SL)) (fun q=>t all g-q) (fun q=>q<=t all g) 0 (Yj _) ?_ ?_
  ·exact Ya Zb Zb Zb
  intro J hJ q hq;have hlq:(L++List.replicate q g.row).length=L.length+q:=by rw [Yb,YQ]
  have hs2:L++List.replicate (q+1) g.row=(L++List.replicate q g.row)++[g.row]:=by rw [List.replicate_succ',Yn]
  have hlq1:(L++List.replicate (q+1) g.row).length=(L++List.replicate q g.row).length+1:=Xr hs2;obtain ⟨L1,hL1⟩: ∃L1,L1=L++List.replicate q g.row:=⟨_,rfl⟩
  rw [<-hL1] at hlq hs2 hlq1 ⊢;have hrows:zd rRow L1++[[D.sl 3 (zd rV g.row)]]=zd rRow (L1++[g.row]):=zf rRow L1 [g.row];have hwq:=zh (N:=300000) (n:=q) Za Za;refine Zf ?_;refine za (fun f=>?_) fun f=>?_
  ·have f':q<t all g:=Zq f;refine zg [[3]] [] (c_cloneR g.row (Y3 q1 Zi)) ?_;refine Zf ?_;rw [hrows,<-hs2];refine ⟨Za,?_⟩;exact zi hJ (q+1) f' Zl (Ya (Z0 hwq hlq1) Zb Zb)
  ·obtain rfl:q=t all g:=Zp f;rw [<-hsn] at hL1;rw [hL1];exact Nd
 ·exact GD
end
section
attribute [local simp, local push_cast] Ta aRow rRow rG vecT vB
theorem c_bunion (a b:List Row) (all:Bool) (hl:a.length<=100000) (hm:b.length<=100000) (ha: ∀r∈a,r.length<=1000) (hb: ∀r∈b,r.length<=1000):
 ACall Tryz.prog 64 [aTab a,aTab b,boo all] [] (aTab (wg (xG all) a b)) []:=by
 refine zn mixed ttok Tryz.func64 Tryz.ntmps64 Tryz.results64 ?_;generalize hr:aTab (wg (xG all) a b)=R;refine Zn ?_;refine zg [[1],[1],[],[]] [(1000,5)] (c_combined 112 xG all a b hl hm ha hb (Y3 (j9 (unionT_le all (srt a) (srt b))) Za) (fun g h1 h2=>c_ut all g h1 h2)) ?_;refine Zf ?_;exact N7
theorem c_bexcept (a b:List Row) (all:Bool) (hl:a.length<=100000) (hm:b.length<=100000) (ha: ∀r∈a,r.length<=1000) (hb: ∀r∈b,r.length<=1000):
 ACall Tryz.prog 65 [aTab a,aTab b,boo all] [] (aTab (wg (yX all) a b)) []:=by
 refine zn mixed ttok Tryz.func65 Tryz.ntmps65 Tryz.results65 ?_;generalize hr:aTab (wg (yX all) a b)=R;refine Zn ?_;refine zg [[1],[1],[],[]] [(1000,5)] (c_combined 113 yX all a b hl hm ha hb (Y3 (j9 (exceptT_le all (srt a) (srt b))) Za) (fun g h1 h2=>c_et all g h1 h2)) ?_;refine Zf ?_;exact N7
theorem c_binter (a b:List Row) (all:Bool) (hl:a.length<=100000) (hm:b.length<=100000) (ha: ∀r∈a,r.length<=1000) (hb: ∀r∈b,r.length<=1000):
 ACall Tryz.prog 66 [aTab a,aTab b,boo all] [] (aTab (wg (xP all) a b)) []:=by
 refine zn mixed ttok Tryz.func66 Tryz.ntmps66 Tryz.results66 ?_;generalize hr:aTab (wg (xP all) a b)=R;refine Zn ?_;refine zg [[1],[1],[],[]] [(1000,5)] (c_combined 115 xP all a b hl hm ha hb (Y3 (j9 (interT_le all (srt a) (srt b))) Za) (fun g h1 h2=>c_it all g h1 h2)) ?_;refine Zf ?_;exact N7
theorem c_bdistinct (rows:List Row) (hl:rows.length<=100000) (hr1: ∀r∈rows,r.length<=1000):ACall Tryz.prog 67 [aTab rows] [] (aTab (jb rows)) []:=by
 refine zn mixed ttok Tryz.func67 Tryz.ntmps67 Tryz.results67 ?_;generalize hr:aTab (jb rows)=R;refine Zn ?_;refine zg [[1],[1],[0]] [] (c_bunion rows [] false hl Zi hr1 (fun _ h=>by cases h)) ?_;refine Zf ?_;exact N7
theorem c_bcanon (rows:List Row) (hl:rows.length<=100000) (hr1: ∀r∈rows,r.length<=1000):ACall Tryz.prog 36 [aTab rows] [] (aTab (srt rows)) []:=by
 refine zn mixed ttok Tryz.func36 Tryz.ntmps36 Tryz.results36 ?_;generalize hr:aTab (srt rows)=R;refine Zn ?_;refine zg [[1]] [] (c_sorted rows hl hr1) ?_;refine Zf ?_;exact N7
theorem c_rcanon (rows:List Row) (hl:rows.length<=100000) (hr1: ∀r∈rows,r.length<=1000):ACall Tryz.prog 39 [aTab rows] [] (aTab (srt rows)) []:=by
 have:=c_canon rows.length rows Za hl hr1;rwa [gC _ _ Za] at this
end
section
open Go.Am Go.Proofs Go.Shelf Go.RowKit
attribute [local simp, local push_cast] Ta aRow rRow yx yA yM z7 zQ aAgg
theorem fn_growV {h:UJ} {d n:Nat} (ho:h d=none) (hn:n≤1000000):
 FnCall Tryz.prog 174 [.snil,num n] h ⟨True,.vec d 0,[(d,.vec 71 3 [] 0)],[d]⟩ where
 fn:=⟨_,Tryz.func174,Zg,Zg⟩
 keyed:=Z3
 calls:=fun h2 hr cx β w us rel hus=>by
  have ho2:h2 d=none:=(hr d Zd).trans ho;simp only [num,repL,A.rep,D.rep] at hus;obtain ⟨u1,_,rfl,rfl,u2,_,rfl,⟨rfl,_⟩,rfl⟩:=hus;by_cases h0:n=0
  ·subst h0
   refine (show Calls Tryz.prog 174 #[.slice none 0 0,.int .i64 ((0:Nat):Int)] w _ from Any8.slices_Grow_room Tryz.growV none 0 0 0 w (by omega) (by omega) (by omega) (by omega)).mono ?_
   rintro e' w' ⟨rfl,rfl⟩
   obtain ⟨r1,L1⟩:=rel.nil d 71 3 ho2
   refine ⟨_,_,rfl,r1,L1,?_⟩
   simp only [A.rep,zj]
   exact ⟨71,3,[],0,by simp [upds],by simp,rfl,fun _=> .inl ⟨by simp,trivial⟩⟩
  ·obtain ⟨i0,hi,his,hib,z,hz,hzc⟩:=(ttok 71 _ rfl).info;refine (show Calls Tryz.prog 174 #[.slice none 0 0,.int .i64 (n:Int)] w _ from Any8.slices_Grow_grow Tryz.growV i0 z hi hz (Z8 his) none 0 0 n [] w Za Za (by rw [hib];show (0+n) * 32<=_;omega) Za Zd (fun _=>rfl) (fun _ h=>by cases h)).mono ?_
   rintro e' w' ⟨rfl,rfl⟩
   generalize hG:grownCap w (0+n) 0 (Tryz.growV_ren.t 25)=G;generalize hC: #[]++Builtin.zeroCells z.cells (0+n-0)++Builtin.zeroCells z.cells (G-(0+n))=C;have hGn:0+n<=G:=by rw [<-hG];exact grownCap_ge w _ _ _
   have hGm:G<=maxLen:=Vg;obtain ⟨r0,L0⟩:=rel.drew;obtain ⟨r1,L1⟩:=r0.alloc d (.vec 71 3 [] 0) C 71 ho2 (fun L=>by
    simp only [Ob.rep];exact ⟨Yj _,fun _ h=>(by cases h),.inr ⟨_,C,rfl,zV w.drew _,by simp [Go.Am.rowsAt],Zd⟩⟩)
   have hCs:C.size=G * 3:=by
    rw [<-hC];have:z.cells.size=3:=Z4 hzc;simp only [U5,size_zeroCells,this];simp;omega
   refine ⟨_,_,rfl,r1,L0.trans L1,?_⟩
   simp only [A.rep,zj]
   refine ⟨71,3,[],0,by simp [upds],by simp,rfl,fun _=> .inr ⟨w.heap.size,G,by simp,rfl,Nat.zero_le _,hGm,C,71,zV w.drew _,hCs⟩⟩
theorem flatR_snoc (ll:List Row) (n:Nat) (h:n<ll.length):(ll.take (n+1)).flatten=(ll.take n).flatten++ll.getD n default:=by
 rw [zy _ _ h,List.flatten_append];simp
theorem flatR_len: ∀(ll:List Row) (b:Nat),(∀l∈ll,l.length<=b)->ll.flatten.length<=ll.length * b
 | [],_,_=>Zd
 | l::ll,b,h=>by
   have h1:=h l Zd;have h2:=flatR_len ll b fun x hx=>h x (Zu hx);rw [List.flatten_cons,Yb,Y5,YY];omega
theorem c_concatV (ll:List Row) (hl:ll.length<=1000) (hb: ∀l∈ll,l.length<=1000):ACall Tryz.prog 110 [.d (.sl 1 (zd rRow ll))] [] (aRow ll.flatten) []:=by
 refine zn mixed ttok Tryz.func110 Tryz.ntmps110 Tryz.results110 ?_;generalize hr:aRow ll.flatten=R;have hfl: ∀n,(ll.take n).flatten.length<=1000000:=fun n=>by
  have h1:=flatR_len (ll.take n) 1000 fun l h=>hb l (YH h);exact Kh
 refine Zn ?_;refine zq mixed ttok 11 [0,9,10] [] Zv Zw ll.length (fun _=>True) (fun n=>[(3,num ((ll.take n).flatten.length:Nat))]) (fun _=>[]) trivial ?_ ?_
 ·exact Ya Zh Zh Zh
 intro I hI n hn hi;refine Zx ?_;refine za (fun h=>?_) fun h=>?_
 ·have h':n<ll.length:=Zq h;have hw:=zh h' Za;have hs:=flatR_snoc ll n h';exact Na
 obtain rfl:n=ll.length:=Zp h;clear hI;refine callx_fn (fn_growV (d:=600) (n:=(ll.take ll.length).flatten.length) rfl (hfl _)) rfl ?_;refine Zf ?_;refine zq mixed ttok 27 [25,26] [] Zv Zw ll.length (fun _=>True) (fun n=>[(6,.vec 600 (ll.take n).flatten.length)]) (fun n=>[(600,.vec 71 3 (zd rV (ll.take n).flatten) 0)]) trivial ?_ ?_
 ·exact Ya Zh (by simp [cst,zd,ends]) Zh
 intro I hI n hn hi;refine Zx ?_;refine za (fun h=>?_) fun h=>?_
 ·have h':n<ll.length:=Zq h;have hw:=zh h' Za;have hs:=flatR_snoc ll n h';exact Nm
 obtain rfl:n=ll.length:=Zp h;rw [Yk];exact NK
theorem c_cat2 (a b:Row) (ha:a.length<=1000) (hb:b.length<=1000):ACall Tryz.prog 110 [.d (.sl 1 [[.sl 3 (zd rV a)],[.sl 3 (zd rV b)]])] [] (aRow (a++b)) []:=by
 have h:=c_concatV [a,b] Zd (by intro l hl;simp at hl;rcases hl with rfl | rfl<;>assumption);have hfl:[a,b].flatten=a++b:=Zd;rw [hfl] at h;exact h
theorem c_both (a b:Row) (ha:a.length<=1000) (hb:b.length<=1000):ACall Tryz.prog 140 [aRow a,aRow b] [] (aRow (a++b)) []:=by
 suffices hS: ∀R,aRow (a++b)=R->ACall Tryz.prog 140 [aRow a,aRow b] [] R [] from hS _ rfl
 intro R hr;refine zn mixed ttok Tryz.func140 Tryz.ntmps140 Tryz.results140 ?_;refine Zn ?_;refine ⟨Za,Za,?_⟩;refine zv [3] rfl Zd Zj ?_ Zk Zb Zb;rw [zf];exact hr
theorem c_width (s:Sch) (hs:SmallS s) (q:Qr) (ho:OkQ q) (R:A) (hr:num ((wJ s q).1.length:Nat)=R):ACall Tryz.prog 75 [aS s,aQ q] [] R []:=by
 have hc:=c_Type4 s hs q ho;rw [zW] at hc ⊢;refine zn mixed ttok Tryz.func75 Tryz.ntmps75 Tryz.results75 ?_;refine Zn ?_;refine zg [[6],[0,0,0,0,0,0,0,0,0,6,6,7,1,1,15]] [] (hc) ?_;refine Xf ?_;exact zm trivial hr Zb
theorem c_mvals (l:List Ex) (row:Row) (hl:l.length<=1000) (ho: ∀e∈l,Ok12 e):ACall Tryz.prog 62 [.d (.sl 6 (zd rE l)),aRow row] [] (aRow (l.map (zG row))) []:=by
 refine zn mixed ttok Tryz.func62 Tryz.ntmps62 Tryz.results62 ?_;generalize hr:aRow (l.map (zG row))=R;refine Zn ?_;refine zq mixed ttok 10 [8,9,1] [] Zv Zw l.length (fun _=>True) (fun n=>[(5,.vec 500 ((l.take n).map (zG row)).length)]) (fun n=>[(500,.vec 71 3 (zd rV ((l.take n).map (zG row))) 0)]) trivial ?_ ?_
 ·exact (YU 5 500 71 3 rfl rfl).trans (Ya Zh Zh Zh)
 intro I hI n hn hi;have hs:n<l.length->(l.take (n+1)).map (zG row)=(l.take n).map (zG row)++[zG row (l.getD n default)]:=fun h=>by rw [zy _ _ h,YE];rfl
 have hl2:((l.take n).map (zG row)).length<=1000:=Xu;refine Zx ?_;refine za (fun h=>?_) fun h=>?_
 ·have h':n<l.length:=Zq h;have hw:=zh h' Za;have hs:=hs h';have hls:((l.take (n+1)).map (zG row)).length=((l.take n).map (zG row)).length+1:=Xr hs;obtain ⟨L,hL⟩: ∃L,L=(l.take n).map (zG row):=⟨_,rfl⟩
  rw [<-hL] at hs hl2 hls ⊢;refine ⟨Za,?_⟩;have hc:=c_eval row _ (ho _ (zk h'));rw [yt] at hc;refine zg [[0,0,0,0,0,6],[3]] [] (hc) ?_;refine Z5 ?_;rw [<-hs];refine ⟨Za,?_⟩;rw [<-hls];exact Nw
 obtain rfl:n=l.length:=Zp h;rw [Yk];exact NK
theorem c_aggd (q:Qr) (hq:OkQ1 q) (key:Row) (rows:List Row) (hk:key.length<=1000) (hl:rows.length<=1000) (hv: ∀a∈q.aggs,∀v∈y6 a.arg rows,okV v):
 ACall Tryz.prog 119 [aQ q,aRow key,aTab rows] [] (aRow (key++xc q rows)) []:=by
 have hal:=hq.aggs;rw [zW];refine zn mixed ttok Tryz.func119 Tryz.ntmps119 Tryz.results119 ?_;generalize hr:aRow (key++xc q rows)=R;refine Zn ?_;refine zg [[3]] [(1000,500)] (c_cloneO key Za) ?_;refine Zf ?_;refine zx mixed ttok (fun n:Nat=>(⟨[(15,num n),(14,num q.aggs.length),(13,.d (.sl 7 (zd rAgg q.aggs))),(7,.vec 500 (key++(q.aggs.take n).map fun a=>aggM a.fn a.arg rows).length),(2,aTab rows)],[(500,.vec 71 3 (zd rV (key++(q.aggs.take n).map fun a=>aggM a.fn a.arg rows)) 0)]⟩:SL)) (fun n=>q.aggs.length-n) (fun n=>n<=q.aggs.length) 0 (Yj _) ?_ ?_
 ·exact Ya Zb Zb Zb
 intro I hI n hn;have hs:n<q.aggs.length->key++((q.aggs.take (n+1)).map fun a=>aggM a.fn a.arg rows)=(key++(q.aggs.take n).map fun a=>aggM a.fn a.arg rows)++[aggM (q.aggs.getD n default).fn (q.aggs.getD n default).arg rows]:=fun h=>by rw [zy _ _ h,YE,Yn];rfl
 have hl2:(key++(q.aggs.take n).map fun a=>aggM a.fn a.arg rows).length<=2000:=by rw [Yb,Y2,Yh];omega
 refine Zf ?_;refine za (fun h=>?_) fun h=>?_
 ·have h':n<q.aggs.length:=Zq h;have hw:=zh h' Za;have hs:=hs h';have hls:(key++(q.aggs.take (n+1)).map fun a=>aggM a.fn a.arg rows).length=(key++(q.aggs.take n).map fun a=>aggM a.fn a.arg rows).length+1:=Xr hs;obtain ⟨L,hL⟩: ∃L,L=key++(q.aggs.take n).map fun a=>aggM a.fn a.arg rows:=⟨_,rfl⟩
  rw [<-hL] at hs hl2 hls ⊢;refine ⟨Za,?_⟩;have hm:=zk h';have hc:=c_aggregate (q.aggs.getD n default).fn (q.aggs.getD n default).arg (hq.ag _ hm) rows hl (hv _ hm);simp only [aAgg] at hc;refine zg [[0,0,0,0,0,0,6],[1]] [] (hc) ?_;refine Z5 ?_;rw [<-hs];refine ⟨Za,?_⟩;rw [<-hls];exact Nd
 obtain rfl:n=q.aggs.length:=Zp h;rw [Yk];exact NK
end
end Go.Proofs.YtnmibokjpedkiaaGreatDoor
