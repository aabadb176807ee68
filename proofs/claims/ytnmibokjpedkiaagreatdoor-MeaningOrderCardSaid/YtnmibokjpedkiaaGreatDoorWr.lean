/- Made queries answer as specified (part Wr) -/
import Derived.Test.YtnmibokjpedkiaaGreatDoorWq
set_option maxRecDepth 100000
set_option maxHeartbeats 4000000
set_option linter.all false
namespace Go.Proofs.YtnmibokjpedkiaaGreatDoor
open Go.Am
section
attribute [local simp, local push_cast] Ta aRow rRow rTab yr y6 yJ z8 zP aAgg vQ gh zN
theorem c_lawE (l:List Int) (hx:xU l):ACall Tryz.prog 3 [ints l] [] (boo true) []:=by
 refine zn mixed ttok Tryz.func3 Tryz.ntmps3 Tryz.results3 ?_
 generalize hr:boo true=R
 simp -implicitDefEqProofs only [argT,↓zb,push_cast,simprocAttr,tt]
 refine zf [[]] [(1000,14)] (c_schema0w hx) ?_
 obtain ⟨s,q,i,q2,hs1,hs2,hi1,hi2,hS,hl1,hT,hI,hq,hq2⟩:=made_all l (most:=6) (by omega) (by omega)
 have hci:=c_minst (most:=6) (p:=q) hx (by omega) (by omega) hS hT (by omega)
 rw [<-hs1,<-hs2]
 rw [<-hi1,<-hi2] at hci
 simp -implicitDefEqProofs only [↓zb,push_cast,simprocAttr,tt]
 refine zf [[],[6],[]] [(1000,14)] (hci) ?_
 simp -implicitDefEqProofs only [↓zb,push_cast,simprocAttr,tt]
 have hcq:ACall Tryz.prog 11 [.ptr 1000 0,aS s,num 5] [(1000,zN l q2)] (aQT (yb l s 4 q2).1) [(1000,zN l (yb l s 4 q2).2)]:=c_mquery hx hS (by omega) hT 4 (by omega) q2 (by have:wQ 4=45320:=rfl;omega)
 obtain ⟨ho,hxq,hT2⟩:=kX l hS (by omega) hT 4 q2
 unfold aQT at hcq
 generalize (yb l s 4 q2).1.1=Q at hcq ho hxq hT2
 generalize (yb l s 4 q2).1.2=T at hcq
 generalize (yb l s 4 q2).2=p3 at hcq
 have hT3:tszQ Q<=1000000000000:=Nat.le_trans hT2 (by decide)
 have hc1:=c_meval s hS i hI Q ho hxq
 have hc2:=c_reval8 s hS i hI Q (fun h=>R8_typed hT3 h) ho hxq
 rw [<-evalQ_PR] at hc2
 rw [zW] at hcq hc1 hc2
 simp only [z7] at hc1 hc2
 obtain ⟨hE1,hE2⟩:=qJ hS (i:=i) ho hxq
 generalize xy grP s i Q=E at hc1 hc2 hE1 hE2
 obtain ⟨rows,e⟩:=E
 simp only at hE1 hE2
 refine zf [[],[6],[]] [(1000,14)] (hcq) ?_
 simp -implicitDefEqProofs only [↓zb,push_cast,simprocAttr,tt]
 refine zf [[6],[1],[0,0,0,0,0,0,0,0,0,6,6,7,1,1,15]] [] (hc1) ?_
 simp -implicitDefEqProofs only [↓zb,push_cast,simprocAttr,tt]
 refine zf [[6],[1],[0,0,0,0,0,0,0,0,0,6,6,7,1,1,15]] [] (hc2) ?_
 simp -implicitDefEqProofs only [↓zb,push_cast,simprocAttr,tt]
 refine zf [[1],[1]] [] (c_equalT rows hE1 hE2) ?_
 simp -implicitDefEqProofs only [beq_self_eq_true,↓zb,push_cast,simprocAttr,tt]
 exact zl trivial hr (by simp [ends])
end
section
attribute [local simp, local push_cast] Ta aRow rRow rTab yr y6 yJ z8 zP aAgg vQ gh zN vT yk rE
def Wide (s:Sch) (i:Inst):Prop:= ∀n,n<s.length-> ∀r∈i.getD n default,r.length=(s.getD n default).columns.length
theorem inst_wide (xs:List Int) (most:Int) (s:Sch) (p:Nat):Wide s (qf xs most s p).1:=fun n hn r hr=>by
 obtain ⟨q,m,h⟩:=instTo_at xs most s p s.length n hn;unfold qf at hr;rw [h] at hr;simp only [tabI,Yu] at hr;obtain ⟨k,_,rfl⟩:=hr;exact rowI_len ..
theorem ferr_all {α:Type} {f:α→Int} {e:Int}: ∀l:List α,(∀x∈l,f x=0∨f x=e)→ferr f l=if l.all (fun x=>f x==0) then 0 else e
 | [],_=>rfl
 | x::l,h=>by
   have ih:=ferr_all (f:=f) (e:=e) l fun y hy=>h y (Zr hy);rw [ferr];by_cases hx:f x=0
   ·simp [hx,ih]
   ·rcases h x Zd with h0 | h0
    ·exact absurd h0 hx
    ·simp [hx];exact h0
theorem fits_rev {s:Sch} {i:Inst} (hw:Wide s i):xN s (i.map List.reverse)=xN s i:=by
 have ha: ∀n,(i.map List.reverse).getD n default=(i.getD n default).reverse:=fun n=>by
  by_cases hn:n<i.length
  ·simp [Ye,hn]
  ·simp only [Ye];rw [List.getElem?_eq_none (by rw [Yx];omega),List.getElem?_eq_none Za];rfl
 have hn: ∀n∈List.range s.length,vm s (i.map List.reverse) n=vm s i n:=fun n hn=>by
  have h:=hw n (U7.1 hn);unfold vm tabF;rw [ha n,List.length_reverse]
  split
  ·rfl
  have h4: ∀r∈i.getD n default,yW (s.getD n default) r=0\/yW (s.getD n default) r=4:=fun r hr=>by
   unfold yW;rw [if_neg (by have:=h r hr;omega)]
   split
   ·exact .inl rfl
   ·exact .inr rfl
  rw [ferr_all _ h4,ferr_all _ fun r hr=>h4 r (List.mem_reverse.1 hr),List.all_reverse]
 have hc: ∀l:List Nat,(∀n∈l,vm s (i.map List.reverse) n=vm s i n)->ferr (vm s (i.map List.reverse)) l=ferr (vm s i) l:=fun l=>by
  induction l with
  | nil=>intro _;rfl
  | cons n l ih=>intro h;rw [ferr,ferr,h n Zd,ih fun m hm=>h m (Zr hm)]
 unfold xN uk;rw [hc _ hn,Yx]
theorem eval_rev {s:Sch} {i:Inst} (hw:Wide s i) (q:Qr):xy grP s (i.map List.reverse) q=xy grP s i q:=by
 unfold xy;rw [fits_rev hw,ans_perm s (i.map List.reverse) i q fun n=>by
  by_cases hn:n<i.length
  ·simp [Ye,hn,List.reverse_perm]
  ·simp only [Ye];rw [List.getElem?_eq_none (by rw [Yx];omega),List.getElem?_eq_none Za]]
theorem rev_take (l:List Row) {m:Nat} (h:m<l.length):l.reverse.take (m+1)=l.reverse.take m++[l.getD ((l.length:Int)-1-m).toNat default]:=by
 rw [zy l.reverse m (Zc h)]
 congr 2
 have e:((l.length:Int)-1-m).toNat=l.length-1-m:=Za;rw [e];simp [Ye,List.getElem?_reverse h]
def tO:List (Nat×A):=[(4,.ptr 4 0),(5,.ptr 5 0),(6,.ptr 6 0),(8,.ptr 8 0)]
def oO (s:Sch) (i:Inst) (q:Qr) (cs:List A):List (Nat×Ob):=[(4,vS s),(5,vI i),(6,vQ q),(8,.var [.vs 34 i.length]),(34,.var cs)]
def S7 (s:Sch) (i:Inst) (q:Qr) (k:Nat):SL:=⟨(9,.d (.lit (.int .i64 k)))::tO,oO s i q ((i.take k).map (fun t=>tabC t.reverse)++List.replicate (i.length-k) .snil)⟩
def R7 (s:Sch) (i:Inst) (q:Qr) (D E:List A) (k L:Nat) (tab:Tab2) (m:Nat):SL:=
 ⟨(10,.d (.lit (.int .i64 ((L:Int)-1-m))))::(9,.d (.lit (.int .i64 k)))::tO,(600,.vec 53 1 (zd rRow (tab.reverse.take m)) 0)::oO s i q (D++ .vec 600 m::E)⟩
theorem closedL_revs {dom:Nat->Bool}: ∀(ts:Inst),closedL dom (ts.map fun t=>tabC t.reverse)=true
 | []=>rfl
 | t::ts=>by rw [Y2,closedL,closedL_revs ts];rfl
theorem c_lawO (l:List Int) (hx:xU l):ACall Tryz.prog 5 [ints l] [] (boo true) []:=by
 refine zn mixed ttok Tryz.func5 Tryz.ntmps5 Tryz.results5 ?_;generalize hr:boo true=R;refine Zn ?_;refine zf [[]] [(1000,19)] (c_schema0w hx) ?_;obtain ⟨s,q,i,q2,hs1,hs2,hi1,hi2,hS,hl1,hT,hI,hq,hq2⟩:=made_all l (most:=5) Za Za;have hci:=c_minst (most:=5) (p:=q) hx Za Za hS hT Za;have hWide:Wide s i:=by rw [hi1];exact inst_wide _ _ _ _
 rw [<-hs1,<-hs2];rw [<-hi1,<-hi2] at hci;clear hi1;refine Ze ?_;refine zf [[],[6],[]] [(1000,19)] (hci) ?_;refine Ze ?_;have hcq:ACall Tryz.prog 11 [.ptr 1000 0,aS s,num 4] [(1000,zN l q2)] (aQT (yb l s 3 q2).1) [(1000,zN l (yb l s 3 q2).2)]:=c_mquery hx hS Za hT 3 Za q2 (by have:wQ 3=21160:=rfl;omega);obtain ⟨ho,hxq,hT2⟩:=kX l hS Za hT 3 q2;unfold aQT at hcq;generalize (yb l s 3 q2).1.1=Q at hcq ho hxq hT2;generalize (yb l s 3 q2).1.2=T at hcq;generalize (yb l s 3 q2).2=p3 at hcq;have hT3:tszQ Q<=1000000000000:=Y3 hT2 Zi;rw [zW] at hcq;refine zf [[],[6],[]] [(1000,19)] (hcq) ?_;refine Ze ?_;have hil:=hI.len;have hsl:=hS.len;refine ⟨Za,?_⟩;refine loopx_weak ?_;refine zw mixed ttok (fun k:Nat=>S7 s i Q k) (fun k=>i.length-k) (fun k=>k<=i.length) 0 (Yj _) ?_ ?_
 ·exact Ya (by simp [S7,tO,oO,ends]) (by simp [S7,oO,vS,vI,vQ,u4,ends]) (by simp [S7,oO,ends])
 intro I hIk k hk;simp -implicitDefEqProofs only [S7,tO,oO,vS,vI,vQ,↓zb,push_cast,simprocAttr,tt];refine za (fun h=>?_) fun h=>?_
 rotate_left
 ·have hkk:k=i.length:=Zo h;subst hkk;have hxs:((i.take i.length).map (fun t=>tabC t.reverse)++List.replicate (i.length-i.length) A.snil)=(i.map fun t=>(.sl 1 (zd rRow t.reverse):D)).map .d:=by simp [tabC]
  have hrt:((i.map fun t=>(.sl 1 (zd rRow t.reverse):D)).map fun x=>[x])=zd rTab (i.map List.reverse):=by simp [zd,rTab]
  rw [hxs];refine ⟨⟨[(4,.ptr 4 0),(5,.ptr 5 0),(6,.ptr 6 0),(8,.ptr 8 0)],[(4,vS s),(5,vI i),(6,vQ Q),(8,.var [.d (.sl 1 (zd rTab (i.map List.reverse)))])]⟩,?_,?_⟩
  ·rw [←hrt];exact Weak.keepVsCell 8 (q:=34) (n:=i.length) (xs:=i.map fun t=>(.sl 1 (zd rRow t.reverse):D)) rfl rfl rfl rfl Zd Zb (by simp [vS,vI,vQ,ends]) Zb
  have hJ:SmallI (i.map List.reverse):=by
   obtain ⟨a1,a2,a3⟩:=hI;refine ⟨Zc a1,fun t ht=>?_,fun t ht r hr=>?_⟩
   ·obtain ⟨u,hu,rfl⟩:=Yu.1 ht;rw [List.length_reverse];exact a2 u hu
   ·obtain ⟨u,hu,rfl⟩:=Yu.1 ht;exact a3 u hu r (List.mem_reverse.1 hr)
  have hc1:=c_meval s hS i hI Q ho hxq
  have hc2:=c_reval8 s hS i hI Q (fun h=>R8_typed hT3 h) ho hxq
  have hc3:=c_meval s hS (i.map List.reverse) hJ Q ho hxq
  rw [eval_rev hWide] at hc3
  rw [<-evalQ_PR] at hc2
  rw [zW] at hc1 hc2 hc3
  simp only [z7] at hc1 hc2 hc3
  obtain ⟨hE1,hE2⟩:=qJ hS (i:=i) ho hxq
  generalize xy grP s i Q=E at hc1 hc2 hc3 hE1 hE2
  generalize i.map List.reverse=j at hc3 ⊢
  obtain ⟨rows,e⟩:=E
  simp only at hE1 hE2
  simp -implicitDefEqProofs only [vS,vI,vQ,↓zb,push_cast,simprocAttr,tt]
  refine zf [[6],[1],[0,0,0,0,0,0,0,0,0,6,6,7,1,1,15]] [] (hc1) ?_
  simp -implicitDefEqProofs only [↓zb,push_cast,simprocAttr,tt]
  refine zf [[6],[1],[0,0,0,0,0,0,0,0,0,6,6,7,1,1,15]] [] (hc3) ?_
  simp -implicitDefEqProofs only [↓zb,push_cast,simprocAttr,tt]
  refine zf [[6],[1],[0,0,0,0,0,0,0,0,0,6,6,7,1,1,15]] [] (hc2) ?_
  simp -implicitDefEqProofs only [beq_self_eq_true,↓zb,push_cast,simprocAttr,tt]
  refine zf [[1],[1]] [] (c_equalT rows hE1 hE2) ?_
  simp -implicitDefEqProofs only [↓zb,push_cast,simprocAttr,tt]
  refine zf [[1],[1]] [] (c_equalT rows hE1 hE2) ?_
  simp -implicitDefEqProofs only [↓zb,push_cast,simprocAttr,tt]
  exact zl trivial hr (by simp [ends])
 have h':k<i.length:=Zp h;have hw:=zh h' Za;have htl:=hI.tab _ (zk h');refine ⟨Zu,?_⟩;generalize htt:i.getD k default=tab at htl;have hw0:IntKind.i64.wrap ((tab.length:Int)-1)=(tab.length:Int)-1-(0:Nat):=Zz;have hD:((i.take k).map fun t=>tabC t.reverse).length=k:=Xs;have hcs:(i.take k).map (fun t=>tabC t.reverse)++List.replicate (i.length-k) A.snil=(i.take k).map (fun t=>tabC t.reverse)++ .snil::List.replicate (i.length-(k+1)) .snil:=by
  rw [show i.length-k=(i.length-(k+1))+1 from Za,UA]
 have hnext:(i.take (k+1)).map (fun t=>tabC t.reverse)++List.replicate (i.length-(k+1)) A.snil=(i.take k).map (fun t=>tabC t.reverse)++tabC tab.reverse::List.replicate (i.length-(k+1)) .snil:=by
  rw [zy i k h',htt];simp
 rw [hcs];have hcD: ∀dom:Nat->Bool,closedL dom ((i.take k).map fun t=>tabC t.reverse)=true:=fun _=>closedL_revs _;have hcE: ∀dom:Nat->Bool,closedL dom (List.replicate (i.length-(k+1)) A.snil)=true:=fun _=>u4 _;generalize (i.take k).map (fun t=>tabC t.reverse)=D at hD hcD hnext ⊢;obtain ⟨E,hEE⟩: ∃E,List.replicate (i.length-(k+1)) A.snil=E:=⟨_,rfl⟩
 rw [hEE] at hcE ⊢;refine zw mixed ttok (fun m:Nat=>R7 s i Q D E k tab.length tab m) (fun m=>tab.length-m) (fun m=>m<=tab.length) 0 (Yj _) ?_ ?_
 ·refine (Up 34 k 600 53 1 rfl (get_at hD) rfl).trans ?_;rw [set_at hD,hw0];exact Ya (by simp [R7,tO,oO,ends]) (by simp [R7,oO,vS,vI,vQ,zd,xG,closedL,hcD,hcE,ends]) (by simp [R7,oO,ends])
 intro J hJ m hm;simp -implicitDefEqProofs only [R7,tO,oO,vS,vI,vQ,get_at hD,take_at hD,drop_at hD,set_at hD,↓zb,push_cast,simprocAttr,tt];refine za (fun g=>?_) fun g=>?_
 rotate_left
 ·have hmm:m=tab.length:=Zo g;refine zi hIk (k+1) h' Zj ?_;refine (Weak.frzCellL 34 k 1 rfl (get_at hD) rfl (by simp [zc];omega) rfl).trans ?_;have hfull:tab.reverse.take m=tab.reverse:=by rw [U6 (by simp;omega)]
  rw [set_at hD,hfull];exact Ya (by simp [S7,tO,oO,hw,ends]) (by simp only [S7];rw [hnext,hEE];simp [oO,vS,vI,vQ,tabC,xG,closedL,hcD,hcE,ends]) (by simp [S7,oO,ends])
 have g':m<tab.length:=Zp g;have hwm:IntKind.i64.wrap ((tab.length:Int)-1-m-1)=(tab.length:Int)-1-((m+1:Nat):Int):=Zz;have hrv:=rev_take tab g';have hrl:(tab.reverse.take m).length=m:=Zt;have hDl:k+1<=(D++A.vec 600 m::E).length:=Zr hD;refine ⟨⟨Za,Za⟩,⟨Za,Za⟩,⟨Za,Z2 htt⟩,⟨hrl.symm,Za⟩,⟨Za,Za⟩,hDl,ze Zf,?_⟩;rw [htt];exact zi hJ (m+1) g' Zj (Ya (by simp [R7,tO,oO,hwm,ends]) (by simp only [R7,hrv];simp [oO,vS,vI,vQ,hrl,zd,xG,closedL,hcD,hcE,ends]) (by simp [R7,oO,ends]))
end
end Go.Proofs.YtnmibokjpedkiaaGreatDoor
