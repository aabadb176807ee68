/- Made queries answer as specified (part Wl) -/
import Derived.Test.YtnmibokjpedkiaaGreatDoorWk
set_option maxRecDepth 100000
set_option maxHeartbeats 4000000
set_option linter.all false
namespace Go.Proofs.YtnmibokjpedkiaaGreatDoor
open Go.Am
section
attribute [local simp, local push_cast] Ta aRow rRow yx yA yM z7 zQ aAgg rKk aKR Ka.vecK vQ vecT
def vKs (l:List KRow):Ob:= .var [.d (.sl 2 (zd rKk l))]
attribute [local simp, local push_cast] vKs
theorem c_g2 (x:KRow) (l:List KRow) (hl:0<l.length) (hx:x.1.length<=1000000):
 ACall Tryz.prog 121 [aKR x,.ptr 1000 0] [(1000,vKs l)] (boo (cmpR x.1 (l.getD 0 default).1 !=0)) [(1000,vKs l)]:=by
 refine zn mixed ttok Tryz.func121 Tryz.ntmps121 Tryz.results121 ?_;generalize hr:boo (cmpR x.1 (l.getD 0 default).1 !=0)=R;refine Zn ?_;refine ⟨Za,?_⟩;refine zg [[3],[3]] [] (c_cmpKr x.1 (l.getD 0 default).1 hx) ?_;refine Zf ?_;refine ⟨ze Zg,?_⟩;exact jO trivial (ZJ hr) Zb Zb
theorem c_idxKK (l:List KRow) (hl:0<l.length) (hl2:l.length<=100000) (hw: ∀x∈l,x.1.length<=1000):
 ACall Tryz.prog 120 [.d (.sl 2 (zd rKk l)),.clo 121 [.ptr 1000 0]] [(1000,vKs l)] (num (fidx (fun x=>cmpR x.1 (l.getD 0 default).1 !=0) l)) [(1000,vKs l)]:=by
 refine zn mixed ttok Tryz.func120 Tryz.ntmps120 Tryz.results120 ?_;obtain ⟨p,hp⟩: ∃p:KRow->Bool,p=fun x=>cmpR x.1 (l.getD 0 default).1 !=0:=⟨_,rfl⟩
 rw [<-hp];generalize hr:num (fidx p l)=R;refine Zn ?_;refine zx mixed ttok (fun n:Nat=>(⟨[(8,num n),(7,num l.length),(0,.d (.sl 2 (zd rKk l))),(1,.clo 121 [.ptr 1000 0])],[(1000,vKs l)]⟩:SL)) (fun n=>l.length-n) (fun n=>n<=l.length/\ ∀i,i<n->p (l.getD i default)=false) 0 ⟨Yj _,fun i h=>absurd h (Yu _)⟩ ?_ ?_
 ·exact Ya Zb Zb Zb
 intro I hI n ⟨hn,hi⟩;refine Zf ?_;refine za (fun h=>?_) fun h=>?_
 ·have h':n<l.length:=Zq h;have hw2:=zh h' Za;refine ⟨Za,?_⟩;have hc:=c_g2 (l.getD n default) l hl (Y3 (hw _ (zk h')) Zi);simp only [aKR] at hc;refine zg [[3,3],[0]] [(1000,1000)] (hc) ?_;refine Zf ?_;have hb:(cmpR (l.getD n default).1 (l.getD 0 default).1 !=0)=p (l.getD n default):=ZA hp;rw [hb];refine za (fun g=>?_) fun g=>?_
  ·exact jO trivial (Zo hr (vC p l n h' hi g)) Zb Zb
  ·exact zi hI (n+1) ⟨h',fun i h2=>if h3:i=n then by rw [h3];exact g else hi i Za⟩ Zl (Ya (Ze hw2) Zb Zb)
 ·obtain rfl:n=l.length:=Zp h;exact jO trivial (Zo hr (xE p l hi)) Zb Zb
theorem fidx_cnt (k:Row): ∀l:List KRow,(if fidx (fun x:KRow=>cmpR x.1 k !=0) l<0 then (l.length:Int) else fidx (fun x:KRow=>cmpR x.1 k !=0) l)=cntK k l
 | []=>rfl
 | x::l=>by
   have ih:=fidx_cnt k l;have hg:=fidx_ge (fun x:KRow=>cmpR x.1 k !=0) l;unfold cntK at ih ⊢;rw [Y0,xz,fidx];by_cases h:cmpR x.1 k=0
   ·have hb:(cmpR x.1 k !=0)=false:=Zu h;rw [hb,if_pos h,if_neg (show¬false=true from Zi),Y5]
    split at ih
    ·rename_i h2;rw [if_pos h2,if_pos Zi];omega
    ·rename_i h2;rw [if_neg h2,if_neg Za];omega
   ·have hb:(cmpR x.1 k !=0)=true:=Zu h;rw [hb,if_neg h,if_pos rfl];rfl
theorem meet_bs {b:Bool} {p1 p2:Prop} {P:Program} {c:Code} {K:Exit->SL->Prop} {σ1 σ2:SL} (s:SL) (h1:b=true->p1/\Weak σ1.st s.st) (h2:b=false->p2/\Weak σ2.st s.st) (h: ∀σ:SL,Weak σ.st s.st->wK P c K σ):vH b (p1/\wK P c K σ1) (p2/\wK P c K σ2):=
 ⟨fun e=>⟨(h1 e).1,h _ (h1 e).2⟩,fun e=>⟨(h2 e).1,h _ (h2 e).2⟩⟩
theorem X7 {p:Prop} (h:p:=by simp [vKs,ends]):p:=h
theorem JJ{p:Prop}(h:p:=by
 refine (Weak.frzCellL 5 0 2 rfl rfl rfl (by simp [zc,hSl]) rfl).trans ?_;exact (YU 8 700 53 1 rfl rfl).trans (Ya Zb X7 Zb)):p:=h
theorem c_groupsP (q:Qr) (hq:OkQ1 q) (rows:List Row) (hl:rows.length≤1000) (hv: ∀a∈q.aggs,∀v∈y6 a.arg rows,okV v):
 ACall Tryz.prog 68 [aQ q,aTab rows] [] (aTab (grP q rows)) []:=by
 rw [zW];have hal:=hq.aggs;have hel:=hq.exprs;refine zn mixed ttok Tryz.func68 Tryz.ntmps68 Tryz.results68 ?_;generalize hr:aTab (grP q rows)=R;refine Zn ?_;refine zx mixed ttok (fun n:Nat=>(⟨[(15,num n),(14,num rows.length),(13,aTab rows),(2,.ptr 2 0),(5,.ptr 5 0),(4,.snil)],[(2,vQ q),(5,.var [.vec 500 (keyed q (rows.take n)).length]),(500,Ka.vecK (keyed q (rows.take n)))]⟩:SL)) (fun n=>rows.length-n) (fun n=>n<=rows.length) 0 (Yj _) ?_ ?_
 ·exact (Us 5 0 500 160 2 rfl rfl rfl).trans (Ya (by simp [keyed,ends]) (by simp [keyed,ends]) Zb)
 intro I hI n hn;have hs:n<rows.length->keyed q (rows.take (n+1))=keyed q (rows.take n)++[(keyR q (rows.getD n default),rows.getD n default)]:=fun h=>by unfold keyed;rw [zy _ _ h,YE];rfl
 have hl2:(keyed q (rows.take n)).length=n:=by unfold keyed;rw [Y2,Yh];omega
 refine Zf ?_;refine za (fun h=>?_) fun h=>?_
 ·have h':n<rows.length:=Zq h;have hw:=zh h' Za;have hs:=hs h';have hls:(keyed q (rows.take (n+1))).length=(keyed q (rows.take n)).length+1:=Xr hs;obtain ⟨L,hL⟩: ∃L,L=keyed q (rows.take n):=⟨_,rfl⟩
  rw [<-hL] at hs hl2 hls ⊢;refine ⟨Za,?_⟩;refine zg [[6],[3]] [] (c_mvals q.exprs (rows.getD n default) hel hq.ex) ?_;refine Zf ?_;have hrows:zd rKk L++[[D.sl 3 (zd rV (q.exprs.map (zG (rows.getD n default)))),D.sl 3 (zd rV (rows.getD n default))]]=zd rKk (L++[(keyR q (rows.getD n default),rows.getD n default)]):=zf rKk L [(keyR q (rows.getD n default),rows.getD n default)];rw [hrows,<-hs];refine ⟨Za,ze Zg,?_⟩;rw [<-hls];exact Nd
 obtain rfl:n=rows.length:=Zp h;rw [Yk] at hl2 ⊢;have hkw: ∀x∈keyed q rows,x.1.length<=1000:=fun x hx=>by
  obtain ⟨r,_,rfl⟩:=Yv.1 hx;show (keyR q r).length<=1000;unfold keyR;rw [Y2];exact hel
 refine xl [(1000,500)] (view_sub (e:=160) (wd:=2) (fz:=0) (rows:=zd rKk (keyed q rows)) Zb X6) (Ka.c_sort (keyed q rows) Za hkw) (by simp [hl,ends,bs]) (ZU bs) (Ze hl) ZV ?_;refine Zf ?_;have hSl:(zL leKk (keyed q rows)).length=rows.length:=by rw [zI];exact hl2
 have hSm: ∀x∈zL leKk (keyed q rows),x.1.length<=1000:=fun x hx=>hkw x ((zJ _).mem_iff.1 hx);have hSv: ∀x∈zL leKk (keyed q rows),x.2∈rows:=fun x hx=>by
  obtain ⟨r,hr,rfl⟩:=Yv.1 ((zJ _).mem_iff.1 hx);exact hr
 have hrun:=run_grP q rows;rw [hl2];generalize zL leKk (keyed q rows)=S at hSl hSm hSv hrun ⊢;refine ⟨hSl.symm,?_⟩;have z1: ∀n:Nat,((n:Int)==0)=true->n=0:=fun n h=>Zc h;have z2: ∀n:Nat,((n:Int)==0)=false-> ¬n=0:=fun n h e=>by subst e;exact absurd h (by decide)
 have z3: ∀n:Nat,n=0->((n:Int)==0)=true:=fun n e=>by subst e;rfl
 refine meet_ab ⟨[(2,.ptr 2 0),(5,.ptr 5 0),(8,.vec 700 0)],[(2,vQ q),(5,vKs S),(700,vecT [])]⟩ (fun h1 h2=>?_) (fun h1 h2=>?_) (fun h1=>?_) (fun hQ σ hw=>?_)
 ·have hc:=c_aggd q hq [] [] Zi Zi (fun a ha v hv=>by cases hv);rw [zW] at hc;refine zg [[0,0,0,0,0,0,0,0,0,6,6,7,1,1,15],[3],[1]] [] (hc) ?_;refine Zf ?_;refine zv [1] rfl Zd Zj ?_ Zk Zb Zb;rw [<-hr,grP_none q rows (z1 _ h1) (z1 _ h2)];rfl
 ·exact JJ
 ·exact JJ
 ·have hrun:=hrun (fun h=>hQ ⟨z3 _ h.1,z3 _ h.2⟩);refine zx mixed ttok (fun x:List KRow×List Row=>(⟨[(2,.ptr 2 0),(5,.ptr 5 0),(8,.vec 700 x.2.length)],[(2,vQ q),(5,vKs x.1),(700,vecT x.2)]⟩:SL)) (fun x=>x.1.length)
   (fun x=>(∀y∈x.1,y∈S)/\x.2.length+x.1.length<=1000/\x.2++runM q x.1=grP q rows) (S,[]) ⟨fun y h=>h,by show 0+S.length<=1000;omega,hrun⟩ hw ?_
  intro I hI ⟨X,out⟩ ⟨hXS,hol,hinv⟩;simp only at hXS hol hinv;refine Zf ?_;refine za (fun h1=>?_) fun h1=>?_
  ·have h1':0<X.length:=Zq h1;refine zg [[2],[]] [(1000,5)] (c_idxKK X h1' Za (fun x hx=>hSm x (hXS x hx))) ?_;refine Zf ?_;have hcnt:=fidx_cnt (X.getD 0 default).1 X;have hcl:=cntK_le (X.getD 0 default).1 X;have hfl:=xU (fun x:KRow=>cmpR x.1 (X.getD 0 default).1 !=0) X;have hX0:X=X.getD 0 default::X.drop 1:=by have:=zA X 0 h1';simpa using this
   have hcp:0<cntK (X.getD 0 default).1 X:=by rw [hX0];exact cntK_pos _ _
   have hinv2:out++((X.getD 0 default).1++xc q ((X.take (cntK (X.getD 0 default).1 X)).map Prod.snd))::runM q (X.drop (cntK (X.getD 0 default).1 X))=grP q rows:=by
    rw [<-hinv]
    congr 1
    have:=runM_cons q (X.getD 0 default) (X.drop 1);rw [<-hX0] at this;exact this.symm
   have hk0:=hSm _ (hXS _ (zk h1'));generalize fidx (fun x:KRow=>cmpR x.1 (X.getD 0 default).1 !=0) X=fi at *;generalize cntK (X.getD 0 default).1 X=c at *;have hgm: ∀r∈(X.take c).map Prod.snd,r∈rows:=fun r hr=>by
    obtain ⟨y,hy,rfl⟩:=Yv.1 hr;exact hSv y (hXS y (YH hy))
   refine meet_bs ⟨[(59,num (0:Nat)),(58,num c),(57,.d (.sl 2 (zd rKk (X.take c)))),(10,.vec 600 0),(9,num c),(2,.ptr 2 0),(5,.ptr 5 0),(8,.vec 700 out.length)],[(2,vQ q),(5,vKs X),(700,vecT out),(600,vecT [])]⟩ (fun g=>?_) (fun g=>?_) fun σ2 hw2=>?_
   ·have g':fi<0:=Yd g;rw [if_pos g'] at hcnt;have hc2:c=X.length:=Za;subst hc2;refine ⟨Za,?_⟩;exact (YU 10 600 53 1 rfl rfl).trans (Ya Zb X7 Zb)
   ·have g': ¬fi<0:=Yc g;rw [if_neg g'] at hcnt;subst hcnt;refine ⟨Za,?_⟩;exact (YU 10 600 53 1 rfl rfl).trans (Ya (Ze hcl) X7 Zb)
   clear hcnt;obtain ⟨Y,hY⟩: ∃Y,Y=X.take c:=⟨_,rfl⟩
   have hYl:Y.length=c:=by rw [hY,Yh];omega
   rw [<-hY] at hw2 hinv2 hgm;refine zx mixed ttok (fun j:Nat=>(⟨[(59,num j),(58,num c),(57,.d (.sl 2 (zd rKk Y))),(10,.vec 600 ((Y.take j).map Prod.snd).length),(9,num c),(2,.ptr 2 0),(5,.ptr 5 0),(8,.vec 700 out.length)],[(2,vQ q),(5,vKs X),(700,vecT out),(600,vecT ((Y.take j).map Prod.snd))]⟩:SL)) (fun j=>c-j) (fun j=>j<=c) 0 (Yj _) (hw2.trans (Ya Zb X7 Zb)) ?_;intro J hJ j hj;have hs:j<Y.length->(Y.take (j+1)).map Prod.snd=(Y.take j).map Prod.snd++[(Y.getD j default).2]:=fun h=>by rw [zy _ _ h,YE];rfl
   have hl3:((Y.take j).map Prod.snd).length=j:=Xu;simp -implicitDefEqProofs only [vKs,↓zb,push_cast,simprocAttr,tt];refine za (fun f=>?_) fun f=>?_
   ·have f':j<Y.length:=Zq f;have hwj:=zh f' Za;have hs:=hs f';have hls:((Y.take (j+1)).map Prod.snd).length=((Y.take j).map Prod.snd).length+1:=Xr hs;obtain ⟨L,hL⟩: ∃L,L=(Y.take j).map Prod.snd:=⟨_,rfl⟩
    rw [<-hL] at hs hl3 hls ⊢;have hrows:zd rRow L++[[D.sl 3 (zd rV (Y.getD j default).2)]]=zd rRow (L++[(Y.getD j default).2]):=zf rRow L [(Y.getD j default).2];rw [hrows,<-hs];refine ⟨Za,Za,?_⟩;rw [<-hls];exact zi hJ (j+1) Za Zl (Ya (Ze hwj) X7 Zb)
   obtain rfl:j=c:=Zp f;rw [<-hYl,Yk] at hl3 ⊢;have hc:=c_aggd q hq (X.getD 0 default).1 (Y.map Prod.snd) hk0 Za (fun a ha v hv2=>hv a ha v (by
    unfold y6 at hv2 ⊢;rw [Uj] at hv2 ⊢;obtain ⟨h3,h4⟩:=hv2;obtain ⟨r,hr,rfl⟩:=Yv.1 h3;exact ⟨List.mem_map_of_mem (hgm r hr),h4⟩))
   rw [zW] at hc;refine ⟨Za,?_⟩;refine zg [[0,0,0,0,0,0,0,0,0,6,6,7,1,1,15],[3],[1]] [] (hc) ?_;refine Zf ?_;rw [Yk];have hrows:zd rRow out++[[D.sl 3 (zd rV ((X.getD 0 default).1++xc q (Y.map Prod.snd)))]]=zd rRow (out++[(X.getD 0 default).1++xc q (Y.map Prod.snd)]):=zf rRow out [(X.getD 0 default).1++xc q (Y.map Prod.snd)];rw [hrows];have hlo:out.length+1=(out++[(X.getD 0 default).1++xc q (Y.map Prod.snd)]).length:=Xc;rw [hlo];refine ⟨Za,ze Zg,Za,?_⟩;exact zi hI (X.drop Y.length,out++[(X.getD 0 default).1++xc q (Y.map Prod.snd)]) ⟨fun y hy=>hXS y (Y9 hy),by show (out++[_]).length+(X.drop Y.length).length<=1000;rw [<-hlo,Ym];omega,by show (out++[_])++runM q (X.drop Y.length)=grP q rows;rw [<-hinv2,hYl,Yn];rfl⟩ (by show (X.drop Y.length).length<X.length;rw [Ym];omega) (Ya Zb X7 Zb)
  ·have h1':X.length=0:=Zp h1;rw [Yi h1',runM_nil,Yw] at hinv;refine zv [1] rfl Zd Zj ?_ Zk Zb Zb;rw [<-hr,<-hinv];rfl
end
section
attribute [local simp, local push_cast] Ta aRow rRow yx yA yM z7 zQ aAgg vQ vecT
def aRes (rows:List Row) (w:Nat):A:= .agg [.d (.sl 1 (zd rRow rows)),num w]
def vRes (rows:List Row) (w:Nat):Ob:= .var [.d (.sl 1 (zd rRow rows)),num w]
def rBo (b:Bool):List D:=[.lit (.bool b)]
def vecB (l:List Bool):Ob:= .vec 4 1 (zd rBo l) 0
attribute [local simp, local push_cast] aRes vRes rBo vecB
def metK (q:Qr) (a b:List Row):List Bool:=b.map fun t=>a.any fun r=>okJ q r t
def widK (q:Qr) (wa wb:Nat):Nat:=if q.kind≥5 then wa else wa+wb
theorem vX (n:Nat):List.replicate n [D.lit (.int .i64 0),D.lit (.int .i64 0),D.lit (.string ByteArray.empty)]=zd rV (zX n):=by simp [zd,rV,zX,zl]
theorem gO (n:Nat):(zX n).length=n:=by simp [zX]
theorem j8 (p:Row->Bool) (l:List Row) (n:Nat) (h:n<l.length):(l.take (n+1)).filter p=(l.take n).filter p++(if p (l.getD n default)=true then [l.getD n default] else []):=by
 rw [zy _ _ h,Uy];generalize l.getD n default=x;cases hp:p x<;>simp [hp]
theorem any_snoc (p:Row->Bool) (l:List Row) (n:Nat) (h:n<l.length):(l.take (n+1)).any p=((l.take n).any p || p (l.getD n default)):=by
 rw [zy _ _ h,List.any_append];simp
def mixK (M0 M1:List Bool) (k:Nat):List Bool:=M1.take k++M0.drop k
theorem mixK_len {M0 M1:List Bool} (h:M0.length=M1.length) (k:Nat) (hk:k<=M0.length):(mixK M0 M1 k).length=M0.length:=by
 unfold mixK;rw [Yb,Yh,Ym];omega
theorem mixK_set {M0 M1:List Bool} (h:M0.length=M1.length) (k:Nat) (hk:k<M0.length):mixK M0 M1 (k+1)=(mixK M0 M1 k).set k (M1.getD k default):=by
 unfold mixK;rw [List.set_append_right _ _ ZD,Yh,show k-min k M1.length=0 from Za,zA M0 k hk,List.set_cons_zero,zy M1 k Za,Yn];rfl
theorem mixK_same {M0 M1:List Bool} (h:M0.length=M1.length) (k:Nat) (hk:k<M0.length) (he:M1.getD k default=M0.getD k default):mixK M0 M1 (k+1)=mixK M0 M1 k:=by
 unfold mixK;rw [zy M1 k Za,zA M0 k hk,he];simp
theorem mixK_end {M0 M1:List Bool} (h:M0.length=M1.length):mixK M0 M1 M1.length=M1:=by unfold mixK;rw [Yk,<-h,Um,Yw]
theorem metK_len (q:Qr) (a b:List Row):(metK q a b).length=b.length:=by unfold metK;rw [Y2]
theorem metK_get (q:Qr) (a b:List Row) (k:Nat) (hk:k<b.length):(metK q a b).getD k default=a.any fun r=>okJ q r (b.getD k default):=by
 unfold metK;rw [vk _ _ _ hk]
theorem metK_step (q:Qr) (a b:List Row) (i k:Nat) (hi:i<a.length) (hk:k<b.length):(metK q (a.take (i+1)) b).getD k default=((metK q (a.take i) b).getD k default || okJ q (a.getD i default) (b.getD k default)):=by
 rw [metK_get _ _ _ _ hk,metK_get _ _ _ _ hk,zy _ _ hi,List.any_append];simp
theorem outK_len (q:Qr) (wb:Nat) (b:List Row): ∀l:List Row,(l.flatMap (wL q wb b)).length≤l.length * (b.length+1)
 | []=>Zd
 | r::l=>by
   have ih:=outK_len q wb b l;have h1:(wL q wb b r).length<=b.length+1:=by
    unfold wL tailJ;rw [Yb];have h2:(if q.kind<5 then (b.filter (okJ q r)).map (r++ ·) else []).length<=b.length:=by
     split
     ·rw [Y2];exact YX _ _
     ·exact Yj _
    have h3:(if b.any (okJ q r)=false/\(q.kind=2\/q.kind=4) then [r++zX wb] else if (b.any (okJ q r)=true/\q.kind=5)\/(b.any (okJ q r)=false/\q.kind=6) then [r] else []).length<=1:=by
     split
     ·exact Ys _
     ·split
      ·exact Ys _
      ·exact Yj _
    omega
   rw [List.flatMap_cons,Yb,Y5,YY];omega
theorem flatM_snoc (f:Row->List Row) (l:List Row) (n:Nat) (h:n<l.length):(l.take (n+1)).flatMap f=(l.take n).flatMap f++f (l.getD n default):=by
 rw [zy _ _ h,List.flatMap_append];simp
theorem meet_or {b1 b2:Bool} {F:Prop} {P:Program} {c:Code} {K:Exit->SL->Prop} {σ1 σ2:SL} (s:SL) (h1:b1=true->Weak σ1.st s.st) (h2:b1=false->b2=true->Weak σ2.st s.st) (h3:b1=false->b2=false->F)
 (h:(b1=true\/b2=true)-> ∀σ:SL,Weak σ.st s.st->wK P c K σ):vH b1 (wK P c K σ1) (vH b2 (wK P c K σ2) F):=
 ⟨fun e=>h (.inl e) _ (h1 e),fun e=>⟨fun e2=>h (.inr e2) _ (h2 e e2),fun e2=>h3 e e2⟩⟩
theorem ZY {p:Prop} (h:p:=by simp [vRes,vecB,ends]):p:=h
theorem W2 {p:Prop} (h:p:=by rw [hok];simpa [bne] using c1):p:=h
theorem W3 {p:Prop} (h:p:=by have:=hlen1 (r++zX wb);omega):p:=h
theorem WD {p q:Prop} (h:q) (e:p=q:=by conv=>lhs;simp -implicitDefEqProofs only [vRes,vecB,↓zb,push_cast,simprocAttr,tt]):p:=(e).mpr h
theorem MX{p:Prop}(h:p:=by
 rw [hG,hfs];by_cases hq5:q.kind<5
 ·have e5: ∀(x y:List Row),(if q.kind<5 then x else y)=x:=fun x y=>if_pos hq5;simp only [e5];cases hq6:okJ q r t with
  | false=>simp
  | true=>simp [hq5]
 ·have e5: ∀(x y:List Row),(if q.kind<5 then x else y)=y:=fun x y=>if_neg hq5;simp only [e5];rw [if_neg (fun h=>hq5 h.2)]):p:=h
theorem No{p:Prop}(h:p:=by
 refine zi hI (i+1) h' Zl ?_;rw [hgo2];exact Ya (Ze hw) ZY Zb):p:=h
theorem NS{p:Prop}(h:p:=by
 rw [Yb];have:(if q.kind<5 then ((b.take k).filter (okJ q r)).map (r++ ·) else []).length<=1000:=by
  split
  ·rw [Y2];exact Y3 (YX _ _) ZD
  ·exact Yj _
 omega):p:=h
theorem JU{p:Prop}(h:p:=by
 have:metK q [] b=List.replicate b.length false:=by unfold metK;rw [List.eq_replicate_iff];simp
 rw [this];simp [zd,rBo]):p:=h
theorem KP{p:Prop}(h:p:=by
 refine zi hJ (k+1) g' Zl ?_;rw [hle,has,hmset];exact Ya (Ze hwk) ZY Zb):p:=h
theorem G6{p:Prop}(h:p:=by
 refine ⟨Za,Zd,?_⟩;rw [vX];refine zg [[1]] [] (c_cat2 r (zX wb) hra' Za) ?_;refine Zf ?_;rw [hrow1,hlen1 (r++zX wb)];refine ⟨W3,ze Zg,?_⟩;exact No):p:=h
theorem Hg{p:Prop}(h:p:=by
 rw [hrow1,hlen1 r];refine ⟨by have:=hlen1 r;omega,?_⟩;exact No):p:=h
theorem c_joinP (q:Qr) (hq:OkQ1 q) (a b:List Row) (wa wb:Nat) (ha:a.length≤1000) (hb:b.length≤1000) (hra: ∀r∈a,r.length≤1000) (hrb: ∀r∈b,r.length≤1000) (hwa:wa≤1000) (hwb:wb≤1000) (hk:1≤q.kind∧q.kind≤6):
 ACall Tryz.prog 63 [aQ q,aRes a wa,aRes b wb] [] (aRes (jnM q wa wb a b) (widK q wa wb)) []:=by
 rw [zW];refine zn mixed ttok Tryz.func63 Tryz.ntmps63 Tryz.results63 ?_;generalize hr:aRes (jnM q wa wb a b) (widK q wa wb)=R;obtain ⟨wab,hwab⟩: ∃wab:Int,wab=(wa:Int)+(wb:Int):=⟨_,rfl⟩
 have w0:IntKind.i64.wrap ((wa:Int)+(wb:Int))=wab:=by rw [hwab];exact zt (by omega) (by omega)
 have hce: ∀row,ACall Tryz.prog 61 [aE q.cond,aRow row] [] (aV (zG row q.cond)) []:=fun row=>c_eval row _ hq.cond;simp only [yt] at hce;refine ZQ w0 ?_;refine ⟨Za,?_⟩;have hbit:List.replicate b.length [D.lit (.bool false)]=zd rBo (metK q [] b):=JU;rw [hbit];refine zx mixed ttok (fun i:Nat=>(⟨[(30,num i),(29,num a.length),(28,aTab a),(3,.ptr 3 0),(4,.ptr 4 0),(5,.ptr 5 0),(6,.ptr 6 0),(7,.ptr 7 0),(8,.vec 26 b.length)],[(3,vQ q),(4,vRes a wa),(5,vRes b wb),(6,.var [.snil,num (0:Nat)]),(7,.var [.vec 700 ((a.take i).flatMap (wL q wb b)).length,num wab]),(700,vecT ((a.take i).flatMap (wL q wb b))),(26,vecB (metK q (a.take i) b))]⟩:SL)) (fun i=>a.length-i) (fun i=>i<=a.length) 0 (Yj _) ?_ ?_
 ·exact (Us 7 0 700 53 1 rfl rfl rfl).trans (Ya Zb ZY Zb)
 intro I hI i hi;have hol:=outK_len q wb b (a.take i);have hol1:(a.take i).length * (b.length+1)<=1000 * 1001:=U3 ZD Za;have hos:=flatM_snoc (wL q wb b) a i;have hms:=metK_step q a b i;have hm0:=metK_len q (a.take i) b;have hm1:=metK_len q (a.take (i+1)) b;obtain ⟨O,hO⟩: ∃O,O=(a.take i).flatMap (wL q wb b):=⟨_,rfl⟩
 obtain ⟨M0,hM0⟩: ∃M0,M0=metK q (a.take i) b:=⟨_,rfl⟩
 obtain ⟨M1,hM1⟩: ∃M1,M1=metK q (a.take (i+1)) b:=⟨_,rfl⟩
 rw [<-hO] at hol hos ⊢;rw [<-hM0] at hms hm0 ⊢;rw [<-hM1] at hms hm1;refine WD ?_;refine za (fun h=>?_) fun h=>?_
 ·have h':i<a.length:=Zq h;have hw:=zh h' Za;have hos:=hos h';have hms:=fun k=>hms k h';have hra':=hra _ (zk h');refine ⟨Za,?_⟩;obtain ⟨r,hrr⟩: ∃r,r=a.getD i default:=⟨_,rfl⟩
  rw [<-hrr] at hos hms hra' ⊢;refine zx mixed ttok (fun k:Nat=>(⟨[(37,num k),(36,num b.length),(35,aTab b),(10,aRow r),(11,boo ((b.take k).any (okJ q r))),(30,num i),(29,num a.length),(28,aTab a),(3,.ptr 3 0),(4,.ptr 4 0),(5,.ptr 5 0),(6,.ptr 6 0),(7,.ptr 7 0),(8,.vec 26 b.length)],
   [(3,vQ q),(4,vRes a wa),(5,vRes b wb),(6,.var [.snil,num (0:Nat)]),(7,.var [.vec 700 (O++(if q.kind<5 then ((b.take k).filter (okJ q r)).map (r++ ·) else [])).length,num wab]),(700,vecT (O++(if q.kind<5 then ((b.take k).filter (okJ q r)).map (r++ ·) else []))),(26,vecB (mixK M0 M1 k))]⟩:SL)) (fun k=>b.length-k) (fun k=>k<=b.length) 0 (Yj _) ?_ ?_
  ·have e0:mixK M0 M1 0=M0:=by simp [mixK]
   exact Ya Zb (by simp [vRes,vecB,e0,ends]) Zb
  intro J hJ k hk2;have hfs:=j8 (okJ q r) b k;have has:=any_snoc (okJ q r) b k;have hml:=mixK_len (hm0.trans hm1.symm) k Za;have hmset:=mixK_set (hm0.trans hm1.symm) k;have hmsame:=mixK_same (hm0.trans hm1.symm) k;have hgl:(O++(if q.kind<5 then ((b.take k).filter (okJ q r)).map (r++ ·) else [])).length<=2002000:=NS;obtain ⟨f,hf⟩: ∃f,f=(b.take k).any (okJ q r):=⟨_,rfl⟩
  obtain ⟨M,hM⟩: ∃M,M=mixK M0 M1 k:=⟨_,rfl⟩
  obtain ⟨G,hG⟩: ∃G,G=(O++(if q.kind<5 then ((b.take k).filter (okJ q r)).map (r++ ·) else [])):=⟨_,rfl⟩
  rw [<-hf] at has ⊢;rw [<-hM] at hml hmset hmsame ⊢;rw [<-hG] at hgl ⊢;refine WD ?_;refine za (fun g=>?_) fun g=>?_
  ·have g':k<b.length:=Zq g;have hwk:=zh g' Za;have hfs:=hfs g';have has:=has g';have hmset:=hmset Za;have hmsame:=hmsame Za;have hms:=hms k g';have hrb':=hrb _ (zk g');refine ⟨Za,?_⟩;obtain ⟨t,ht⟩: ∃t,t=b.getD k default:=⟨_,rfl⟩
   rw [<-ht] at hfs has hms hrb' ⊢;refine zg [[1]] [] (c_cat2 r t hra' hrb') ?_;refine Zf ?_;refine zg [[0,0,0,0,0,6],[3]] [] (hce (r++t)) ?_;refine Z5 ?_;refine zg [[0,0,0]] [] (j4 (zG (r++t) q.cond)) ?_;refine Zf ?_;have hok:okJ q r t=(zM (zG (r++t) q.cond)==1):=rfl;have hle:(O++(if q.kind<5 then ((b.take (k+1)).filter (okJ q r)).map (r++ ·) else []))=if okJ q r t=true/\q.kind<5 then G++[r++t] else G:=MX
   refine za (fun c1=>?_) fun c1=>?_
   ·have hno:okJ q r t=false:=W2;rw [hno] at hle has hms;rw [if_neg (show¬(false=true/\q.kind<5) from fun h=>by cases h.1)] at hle;rw [Y7] at has hms;have hmm:=hmsame hms;refine zi hJ (k+1) g' Zl ?_;rw [hle,has,hmm];exact Ya (Ze hwk) ZY Zb
   ·have hyes:okJ q r t=true:=W2;rw [hyes] at hle has hms;rw [Y4] at has hms;rw [hms] at hmset;have hset:(zd rBo M).set k (D.lit (.bool true)::List.drop 1 ((zd rBo M).getD k []))=zd rBo (M.set k true):=by
     rw [xR _ _ _ Za];exact jM rBo M k true
    refine ⟨⟨Za,Za⟩,Za,?_⟩;rw [hset];refine za (fun c2=>?_) fun c2=>?_
    ·have c2':q.kind<5:=Yd c2;rw [if_pos (show true=true/\q.kind<5 from ⟨rfl,c2'⟩)] at hle;have hrows:zd rRow G++[[D.sl 3 (zd rV (r++t))]]=zd rRow (G++[r++t]):=zf rRow G [r++t];have hgl1:G.length+1=(G++[r++t]).length:=Xc;rw [hrows,hgl1];refine ⟨Za,?_⟩;exact KP
    ·have c2': ¬q.kind<5:=Yc c2;rw [if_neg (show¬(true=true/\q.kind<5) from fun h=>c2' h.2)] at hle;exact KP
  obtain rfl:k=b.length:=Zp g;rw [Yk] at hf hG;have hM2:M=M1:=by rw [hM,<-hm1];exact mixK_end (hm0.trans hm1.symm)
  subst hM2;have hoj:(a.take (i+1)).flatMap (wL q wb b)=G++tailJ q wb f r:=by
   rw [hos,hG,hf,wL,Yn]
  rw [hM1] at *;have hnl:=gO wb;have hgo: ∀G2:List Row,G2=G++tailJ q wb f r->(a.take (i+1)).flatMap (wL q wb b)=G2:=fun G2 h=>by rw [h];exact hoj
  unfold tailJ at hgo;have hrow1: ∀x:Row,zd rRow G++[[D.sl 3 (zd rV x)]]=zd rRow (G++[x]):=fun x=>zf rRow G [x];have hlen1: ∀x:Row,G.length+1=(G++[x]).length:=fun x=>Xc;clear hoj hos hmset hmsame hms has hfs hJ;have e2: ∀n:Int,(q.kind==n)=true->q.kind=n:=fun n h=>Zc h;have n2: ∀n:Int,(q.kind==n)=false-> ¬q.kind=n:=fun n h=>Zc h;refine za (fun f1=>?_) fun f1=>?_
  ·have f1':f=false:=Zc f1;refine za (fun k2=>?_) fun k2=>?_
   ·have k2':=e2 _ k2
    have hgo2:=hgo (G++[r++zX wb]) (by rw [if_pos ⟨f1',.inl k2'⟩])
    exact G6
   have k2':=n2 _ k2;refine za (fun k4=>?_) fun k4=>?_
   ·have k4':=e2 _ k4
    have hgo2:=hgo (G++[r++zX wb]) (by rw [if_pos ⟨f1',.inr k4'⟩])
    exact G6
   have k4':=n2 _ k4;subst f1';refine za (fun h=>absurd h Zi) (fun _=>?_);refine za (fun _=>?_) (fun h=>absurd h Zi);refine za (fun k6=>?_) fun k6=>?_
   ·have k6':=e2 _ k6;have hgo2:=hgo (G++[r]) (by rw [if_neg (fun h=>h.2.elim k2' k4'),if_pos (.inr ⟨rfl,k6'⟩)]);exact Hg
   have k6':=n2 _ k6;have hgo2:=hgo G (by rw [if_neg (fun h=>h.2.elim k2' k4'),if_neg (fun h=>h.elim (fun g=>by cases g.1) fun g=>k6' g.2),Yw]);exact No
  have f1':f=true:=Zc f1;subst f1';refine za (fun _=>?_) (fun h=>absurd h Zi);refine za (fun k5=>?_) fun k5=>?_
  ·have k5':=e2 _ k5;have hgo2:=hgo (G++[r]) (by rw [if_neg (fun h=>by cases h.1),if_pos (.inl ⟨rfl,k5'⟩)]);exact Hg
  have k5':=n2 _ k5;refine za (fun h=>absurd h Zi) (fun _=>?_);have hgo2:=hgo G (by rw [if_neg (fun h=>by cases h.1),if_neg (fun h=>h.elim (fun g=>k5' g.2) fun g=>by cases g.1),Yw]);exact No
 obtain rfl:i=a.length:=Zp h;rw [Yk] at hO hM0;have e2: ∀n:Int,(q.kind==n)=true->q.kind=n:=fun n h=>Zc h;have n2: ∀n:Int,(q.kind==n)=false-> ¬q.kind=n:=fun n h=>Zc h;clear hos hms hm1 hM1 hI;have hJn: ¬(q.kind=3\/q.kind=4)->jnM q wa wb a b=O:=fun h=>by unfold jnM joinR;rw [if_neg h,Yw,hO]
 have hJy:(q.kind=3\/q.kind=4)->jnM q wa wb a b=O++(b.filter fun t=> !(a.any fun r=>okJ q r t)).map (zX wa++ ·):=fun h=>by unfold jnM joinR;rw [if_pos h,hO]
 have hOl:O.length<=1001000:=Za;refine za (fun g5=>?_) fun g5=>?_
 ·have g5':q.kind≥5:=Yd g5;refine za (fun h=>absurd (e2 _ h) Za) (fun _=>?_);refine za (fun h=>absurd (e2 _ h) Za) (fun _=>?_);refine zv [1,0] rfl Zd Zj ?_ Zk Zb Zb;rw [<-hr,hJn Za];unfold widK;rw [if_pos g5'];rfl
 have g5': ¬q.kind≥5:=Yc g5;have hW:widK q wa wb=wa+wb:=by unfold widK;rw [if_neg g5']
 refine meet_or ⟨[(129,num (0:Nat)),(128,num b.length),(127,aTab b),(4,.ptr 4 0),(6,.ptr 6 0),(7,.ptr 7 0),(8,.vec 26 b.length)],[(4,vRes a wa),(6,.var [.snil,num (0:Nat)]),(7,.var [.vec 700 O.length,num wab]),(700,vecT O),(26,vecB M0)]⟩ (fun _=>?_) (fun _ _=>?_) (fun h3 h4=>?_) (fun h34 σ hw=>?_)
 ·exact Ya Zb ZY Zb
 ·exact Ya Zb ZY Zb
 ·refine zv [1,0] rfl Zd Zj ?_ Zk Zb Zb;rw [<-hr,hJn (fun h=>h.elim (n2 _ h3) (n2 _ h4)),hW,hwab];simp [aRes]
 have hJ:=hJy (h34.imp (e2 _) (e2 _));have hget: ∀k,k<b.length->M0.getD k default=a.any fun r=>okJ q r (b.getD k default):=fun k hk=>by rw [hM0];exact metK_get q a b k hk
 clear hJn hJy h34 hM0;obtain ⟨p,hp⟩: ∃p:Row->Bool,p=fun t=> !(a.any fun r=>okJ q r t):=⟨_,rfl⟩
 rw [<-hp] at hJ;refine zx mixed ttok (fun k:Nat=>(⟨[(129,num k),(128,num b.length),(127,aTab b),(4,.ptr 4 0),(6,.ptr 6 0),(7,.ptr 7 0),(8,.vec 26 b.length)],[(4,vRes a wa),(6,.var [.snil,num (0:Nat)]),(7,.var [.vec 700 (O++((b.take k).filter p).map (zX wa++ ·)).length,num wab]),(700,vecT (O++((b.take k).filter p).map (zX wa++ ·))),(26,vecB M0)]⟩:SL)) (fun k=>b.length-k) (fun k=>k<=b.length) 0 (Yj _) (hw.trans (Ya Zb ZY Zb)) ?_;intro I hI k hk2;have hfs:=j8 p b k;have hgl:(O++((b.take k).filter p).map (zX wa++ ·)).length<=1002000:=by
  rw [Yb,Y2];have:=YX p (b.take k);rw [Yh] at this;omega
 obtain ⟨G,hG⟩: ∃G,G=O++((b.take k).filter p).map (zX wa++ ·):=⟨_,rfl⟩
 rw [<-hG] at hgl ⊢;have hnl:=gO wa;refine WD ?_;refine za (fun g=>?_) fun g=>?_
 ·have g':k<b.length:=Zq g;have hwk:=zh g' Za;have hfs:=hfs g';have hget:=hget k g';have hrb':=hrb _ (zk g');obtain ⟨t,ht⟩: ∃t,t=b.getD k default:=⟨_,rfl⟩
  rw [<-ht] at hfs hget hrb' ⊢;have hpt:p t= !(M0.getD k default):=by rw [hget,hp]
  refine ⟨Za,⟨Za,Za⟩,Za,hm0.symm,?_⟩;refine za (fun c1=>?_) fun c1=>?_
  ·have hpt2:p t=true:=by rw [hpt];exact c1
   have hg2:O++((b.take (k+1)).filter p).map (zX wa++ ·)=G++[zX wa++t]:=by rw [hfs,if_pos hpt2,YE,hG,Yn];rfl
   refine ⟨Za,Zd,?_⟩;rw [vX];refine zg [[1]] [] (c_cat2 (zX wa) t Za hrb') ?_;refine Zf ?_;have hrow1:zd rRow G++[[D.sl 3 (zd rV (zX wa++t))]]=zd rRow (G++[zX wa++t]):=zf rRow G [zX wa++t];have hlen1:G.length+1=(G++[zX wa++t]).length:=Xc;rw [hrow1,hlen1];refine ⟨Za,ze Zg,?_⟩;refine zi hI (k+1) g' Zl ?_;rw [hg2];exact Ya (Ze hwk) ZY Zb
  ·have hpt2: ¬p t=true:=by rw [hpt,c1];decide
   have hg2:O++((b.take (k+1)).filter p).map (zX wa++ ·)=G:=by rw [hfs,if_neg hpt2,Yw,hG]
   refine zi hI (k+1) g' Zl ?_;rw [hg2];exact Ya (Ze hwk) ZY Zb
 obtain rfl:k=b.length:=Zp g;rw [Yk,<-hJ] at hG;subst hG;refine zv [1,0] rfl Zd Zj ?_ Zk Zb Zb;rw [<-hr,hW,hwab];simp [aRes]
end
section
attribute [local simp, local push_cast] Ta aRow rRow
structure RO (w:Nat) (rows:List Row):Prop where
 len:rows.length<=1000
 wid: ∀r∈rows,r.length=w
 val: ∀r∈rows,∀v∈r,okV v
structure RW (w:Nat) (rows:List Row):Prop where
 wid: ∀r∈rows,r.length=w
 val: ∀r∈rows,∀v∈r,okV v
structure OkI (s:Sch) (i:Inst):Prop where
 len:i.length=s.length
 tab: ∀n,n<s.length->RO (s.getD n default).columns.length (i.getD n default)
structure OkXQ1 (q:Qr):Prop where
 cond:OkX q.cond
 ex: ∀e∈q.exprs,OkX e
 ag: ∀a∈q.aggs,OkX a.arg
 row: ∀r∈q.rows,∀v∈r,okV v
inductive OkXQ:Qr->Prop
 | mk (q:Qr) (h:OkXQ1 q) (hk: ∀k∈q.kids,OkXQ k):OkXQ q
theorem OkXQ.one {q:Qr} (h:OkXQ q):OkXQ1 q:=by cases h;assumption
theorem OkXQ.kid {q k:Qr} (h:OkXQ q) (hk:k∈q.kids):OkXQ k:=by cases h with | mk _ _ h2=>exact h2 k hk
theorem okV_sum (l:List Val):okV (sumS l):=by
 unfold sumS
 split
 ·exact xh
 ·split
  ·exact okV_int ⟨Za,Za⟩
  ·exact xh
theorem okV_agg (fn:Int) (e:Ex) (rows:List Row) (hl:rows.length<=1000) (hv: ∀v∈y6 e rows,okV v):okV (aggM fn e rows):=by
 have h1:=kP e rows;have hS: ∀v∈sortV (y6 e rows),okV v:=fun v h=>hv v ((vV _).mem_iff.1 h);have h2:=jw (y6 e rows);have h3:=ddTo_len (sortV (y6 e rows)) (sortV (y6 e rows)).length;unfold aggM
 repeat' split
 all_goals first
  | exact xh
  | exact okV_sum _
  | exact kU hS _
  | exact okV_int ⟨Za,Za⟩
theorem okV_aggs {q:Qr} (hq:OkXQ1 q) {rows:List Row} (hl:rows.length<=1000) (hr: ∀r∈rows,∀v∈r,okV v):(xc q rows).length=q.aggs.length/\ ∀v∈xc q rows,okV v:=by
 refine ⟨by simp [xc],fun v hv=>?_⟩;obtain ⟨a,ha,rfl⟩:=Yv.1 hv;exact okV_agg _ _ _ hl (okV_vals _ _ (hq.ag a ha) hr)
theorem okV_key {q:Qr} (hq:OkXQ1 q) {r:Row} (hr: ∀v∈r,okV v):(keyR q r).length=q.exprs.length/\ ∀v∈keyR q r,okV v:=by
 refine ⟨by simp [keyR],fun v hv=>?_⟩;obtain ⟨e,he,rfl⟩:=Yv.1 hv;exact okV_eval r hr e (hq.ex e he)
def GrOk (gr:GF):Prop:= ∀(q:Qr) (rows:List Row),OkXQ1 q->rows.length<=1000->(∀r∈rows,∀v∈r,okV v)->RW (q.exprs.length+q.aggs.length) (gr q rows)
theorem grps_ok {q:Qr} {rows keys:List Row} (hq:OkXQ1 q) (hl:rows.length<=1000) (hr: ∀r∈rows,∀v∈r,okV v) (hk: ∀k∈keys,k.length=q.exprs.length/\ ∀v∈k,okV v):RW (q.exprs.length+q.aggs.length) (grpsR q rows keys):=by
 have key: ∀x∈grpsR q rows keys,x.length=q.exprs.length+q.aggs.length/\ ∀v∈x,okV v:=fun x hx=>by
  obtain ⟨k,hk2,rfl⟩:=Yv.1 hx;obtain ⟨a1,a2⟩:=hk k hk2;obtain ⟨b1,b2⟩:=okV_aggs hq (rows:=rows.filter fun r=>cmpR (keyR q r) k==0) (Y3 (YX _ _) hl) (fun r h=>hr r (Uj.1 h).1);exact ⟨by rw [Yb,a1,b1],fun v hv=>(Yr.1 hv).elim (a2 v) (b2 v)⟩
 exact ⟨fun r h=>(key r h).1,fun r h=>(key r h).2⟩
theorem KM{p:Prop}(h:p:=by
 rename_i h0;simp only [YK] at hk;subst hk;exact ⟨Zu h0,fun v h=>by cases h⟩):p:=h
theorem grP_ok:GrOk grP:=fun q rows hq hl hr=>grps_ok hq hl hr fun k hk=>by
 unfold gkP at hk
 split at hk
 ·exact KM
 ·obtain ⟨r,hr2,rfl⟩:=Yv.1 (((wC _).2 k).1 hk);exact okV_key hq (hr r hr2)
theorem grR_ok:GrOk grR:=fun q rows hq hl hr=>grps_ok hq hl hr fun k hk=>by
 unfold gkR at hk
 split at hk
 ·exact KM
 ·obtain ⟨r,hr2,rfl⟩:=Yv.1 ((gm _ k).1 hk);exact okV_key hq (hr r hr2)
theorem typ_kids {s:Sch} {q:Qr} (h:(typQ s q).2=0):(∀k∈q.kids,(typQ s k).2=0)/\typQ s q=ownQ s q (q.kids.map fun k=>(typQ s k).1):=by
 rw [gJ,typQK] at h ⊢;by_cases hf:ferr Prod.snd (q.kids.map (typQ s))=0
 ·rw [if_pos hf];refine ⟨fun k hk=>?_,by rw [Ux];rfl⟩;rw [vN] at hf;exact wR hf k hk
 ·rw [if_neg hf] at h;exact absurd h hf
theorem own_fm {s:Sch} {q:Qr} {ks:List (List Int)} (h:(ownQ s q ks).2=0):(1≤q.op∧q.op≤10)∧(ks.length:Int)=(y9 q.op).kids:=by
 unfold ownQ at h
 split at h
 ·exact absurd h Zi
 ·rename_i h1
  split at h
  ·exact absurd h Zi
  ·rename_i h2;refine ⟨?_,Zc h2⟩;by_cases hf:isFm q.op=false
   ·exact absurd (.inl hf) h1
   ·simp only [isFm,Bool.and_eq_false_iff,Ye,not_or,Classical.not_not] at hf;exact hf
theorem fm_kids (op:Int) (h:1<=op/\op<=10):(y9 op).kids=if op=1\/op=2 then 0 else if 5<=op/\op<=8 then 2 else 1:=by
 have:op=1\/op=2\/op=3\/op=4\/op=5\/op=6\/op=7\/op=8\/op=9\/op=10:=Za;rcases this with rfl | rfl | rfl | rfl | rfl | rfl | rfl | rfl | rfl | rfl<;>decide
theorem own_rest {s:Sch} {q:Qr} {ks:List (List Int)} (h:(ownQ s q ks).2=0):ownQ s q ks=(if q.op=1 then (if byT s q.table≥0 then (yd (s.getD (byT s q.table).toNat default),0) else ([],11))
 else if q.op=2 then (if xm q≠0 then ([],xm q) else (q.types,0))
 else if q.op=3 then (if uk (ks.getD 0 default) q.cond≠0 then ([],uk (ks.getD 0 default) q.cond) else (ks.getD 0 default,0))
 else if q.op=4 then (if q.exprs.length=0\/q.exprs.length>24 then ([],9) else wh (ks.getD 0 default) q.exprs)
 else if q.op=5 then joinM (ks.getD 0 default) (ks.getD 1 default) q
 else if q.op=10 then kL (ks.getD 0 default) q
 else if q.op=6\/q.op=7\/q.op=8 then (if (ks.getD 0 default==ks.getD 1 default)=true then (ks.getD 0 default,0) else ([],4))
 else (ks.getD 0 default,0)):=by
 have h2:=h;unfold ownQ at h2 ⊢
 split
 ·rename_i h1;rw [if_pos h1] at h2;exact absurd h2 Zi
 ·rename_i h1;rw [if_neg h1] at h2
  split
  ·rename_i h3;rw [if_pos h3] at h2;exact absurd h2 Zi
  ·rfl
theorem listM_ok {α:Type} {f:α->Int×Int} {l:List α} (h:(vG f l).2=0):(vG f l).1.length=l.length:=by
 unfold vG at h ⊢
 split
 ·simp
 ·rename_i h2;rw [if_neg h2] at h;exact absurd h h2
structure Typed (s:Sch) (q:Qr):Prop where
 op:1<=q.op/\q.op<=10
 kids:q.kids.length=if q.op=1\/q.op=2 then 0 else if 5<=q.op/\q.op<=8 then 2 else 1
 kid: ∀k∈q.kids,(typQ s k).2=0
 scan:q.op=1->0<=byT s q.table/\(typQ s q).1.length=(s.getD (byT s q.table).toNat default).columns.length
 vals:q.op=2->(typQ s q).1=q.types/\(∀r∈q.rows,r.length=q.types.length)/\q.types.length<=24
 same:(q.op=3\/q.op=9)->(typQ s q).1=(typQ s (q.kids.getD 0 default)).1
 proj:q.op=4->(typQ s q).1.length=q.exprs.length
 join:q.op=5->(1<=q.kind/\q.kind<=6)/\(typQ s (q.kids.getD 0 default)).1.length+(typQ s (q.kids.getD 1 default)).1.length<=24/\
  (typQ s q).1.length=if q.kind=5\/q.kind=6 then (typQ s (q.kids.getD 0 default)).1.length else (typQ s (q.kids.getD 0 default)).1.length+(typQ s (q.kids.getD 1 default)).1.length
 sets:(q.op=6\/q.op=7\/q.op=8)->(typQ s q).1=(typQ s (q.kids.getD 0 default)).1/\(typQ s (q.kids.getD 0 default)).1=(typQ s (q.kids.getD 1 default)).1
 group:q.op=10->(typQ s q).1.length=q.exprs.length+q.aggs.length
theorem W4 {p P0:Prop} (zf_:P0) (h:P0->p:=by intro zf_;rw [zf_,if_neg (by omega),if_pos (by omega)]):p:=h zf_
theorem xH {s:Sch} {q:Qr} (h:(typQ s q).2=0):Typed s q:=by
 obtain ⟨hk,he⟩:=typ_kids h;have h0:=h;rw [he] at h0;obtain ⟨hop,hkl⟩:=own_fm h0;have hrest:=own_rest h0;rw [fm_kids _ hop,Y2] at hkl;have g0:0<q.kids.length->(q.kids.map fun k=>(typQ s k).1).getD 0 default=(typQ s (q.kids.getD 0 default)).1:=fun h=>vk _ _ _ h;have g1:1<q.kids.length->(q.kids.map fun k=>(typQ s k).1).getD 1 default=(typQ s (q.kids.getD 1 default)).1:=fun h=>vk _ _ _ h;rw [hrest] at h0;rw [hrest] at he;have hkl2:q.kids.length=if q.op=1\/q.op=2 then 0 else if 5<=q.op/\q.op<=8 then 2 else 1:=by
  split at hkl
  ·rename_i h1;rw [if_pos h1];omega
  ·rename_i h1;rw [if_neg h1]
   split at hkl
   ·rename_i h2;rw [if_pos h2];omega
   ·rename_i h2;rw [if_neg h2];omega
 clear hkl hrest;refine ⟨hop,hkl2,hk,fun e=>?_,fun e=>?_,fun e=>?_,fun e=>?_,fun e=>?_,fun e=>?_,fun e=>?_⟩
 ·rw [if_pos e] at h0 he
  split at h0
  ·rename_i h1;rw [if_pos h1] at he;rw [he];exact ⟨h1,by simp [yd]⟩
  ·exact absurd h0 Zi
 ·rw [if_neg Za,if_pos e] at h0 he
  split at h0
  ·rename_i h1;exact absurd h0 h1
  ·rename_i h1;rw [if_neg h1] at he;have hv:xm q=0:=Zc h1;unfold xm at hv
   split at hv
   ·exact absurd hv Zi
   ·rename_i h2;refine ⟨ZA he,fun r hr=>?_,Za⟩;have:=wR hv r hr;unfold xn at this
    split at this
    ·exact absurd this Zi
    ·rename_i h3;simpa using h3
 ·rw [he];rcases e with e | e
  ·rw [if_neg Za,if_neg Za,if_pos e] at h0 ⊢
   split at h0
   ·rename_i h1;exact absurd h0 h1
   ·rename_i h1;rw [if_neg h1];exact g0 (by rw [hkl2,if_neg (by omega)];split<;>omega)
  ·rw [if_neg Za,if_neg Za,if_neg Za,if_neg Za,if_neg Za,if_neg Za,if_neg Za];exact g0 (by rw [hkl2,if_neg (by omega)];split<;>omega)
 ·rw [he];rw [if_neg Za,if_neg Za,if_neg Za,if_pos e] at h0 ⊢
  split at h0
  ·exact absurd h0 Zi
  ·rename_i h1;rw [if_neg h1];exact listM_ok h0
 ·have hkl3:q.kids.length=2:=W4 hkl2;rw [he];rw [if_neg Za,if_neg Za,if_neg Za,if_neg Za,if_pos e,g0 Za,g1 Za] at h0 ⊢;generalize (typQ s (q.kids.getD 0 default)).1=A at h0 ⊢;generalize (typQ s (q.kids.getD 1 default)).1=B at h0 ⊢;unfold joinM at h0 ⊢
  split at h0
  ·exact absurd h0 Zi
  ·rename_i h1;rw [if_neg h1]
   split at h0
   ·exact absurd h0 Zi
   ·rename_i h2;rw [if_neg h2];rw [Yb] at h2
    split at h0
    ·rename_i h3;exact absurd h0 h3
    ·rename_i h3;rw [if_neg h3];refine ⟨Za,Za,?_⟩
     split
     ·rfl
     ·rw [Yb]
 ·have hkl3:q.kids.length=2:=W4 hkl2;rw [he];rw [if_neg Za,if_neg Za,if_neg Za,if_neg Za,if_neg Za,if_neg Za,if_pos e,g0 Za,g1 Za] at h0 ⊢
  split at h0
  ·rename_i h1;rw [if_pos h1];exact ⟨rfl,Zc h1⟩
  ·exact absurd h0 Zi
 ·rw [he];rw [if_neg Za,if_neg Za,if_neg Za,if_neg Za,if_neg Za,if_pos e] at h0 ⊢;generalize (q.kids.map fun k=>(typQ s k).1).getD 0 default=A at h0 ⊢;unfold kL at h0 ⊢
  split at h0
  ·exact absurd h0 Zi
  ·rename_i h1;rw [if_neg h1]
   split at h0
   ·rename_i h2;exact absurd h0 h2
   ·rename_i h2;rw [if_neg h2]
    split at h0
    ·rename_i h3;exact absurd h0 h3
    ·rename_i h3;rw [if_neg h3];have a1:(wh A q.exprs).2=0:=Zc h2;have a2:(vG (x3 A) q.aggs).2=0:=Zc h3;have b1:(wh A q.exprs).1.length=q.exprs.length:=listM_ok a1;rw [Yb,b1,listM_ok a2]
theorem RO.rw {w:Nat} {rows:List Row} (h:RO w rows):RW w rows:=⟨h.wid,h.val⟩
theorem RW.sub {w:Nat} {a b:List Row} (h:RW w a) (hs: ∀r∈b,r∈a):RW w b:=⟨fun r hr=>h.wid r (hs r hr),fun r hr=>h.val r (hs r hr)⟩
theorem okV_nulls (n:Nat): ∀v∈zX n,okV v:=fun v hv=>by rw [Uv hv];exact xh
theorem jn_ok {q:Qr} {wa wb:Nat} {a b:List Row} (hk:1≤q.kind∧q.kind≤6) (ha:RW wa a) (hb:RW wb b):RW (if q.kind=5∨q.kind=6 then wa else wa+wb) (jnM q wa wb a b):=by
 have key: ∀r∈jnM q wa wb a b,r.length=(if q.kind=5\/q.kind=6 then wa else wa+wb)/\ ∀v∈r,okV v:=fun x hx=>by
  unfold jnM at hx;rcases Yr.1 hx with hx | hx
  ·obtain ⟨r,hr,hx⟩:=List.mem_flatMap.1 hx;have h1:=ha.wid r hr;have h2:=ha.val r hr;unfold wL tailJ at hx;rcases Yr.1 hx with hx | hx
   ·split at hx
    ·obtain ⟨t,ht,rfl⟩:=Yv.1 hx;have ht:=(Uj.1 ht).1;rw [if_neg Za];exact ⟨by rw [Yb,h1,hb.wid t ht],fun v hv=>(Yr.1 hv).elim (h2 v) (hb.val t ht v)⟩
    ·cases hx
   ·split at hx
    ·rename_i hc;simp only [YK] at hx;subst hx;rw [if_neg Za];exact ⟨by rw [Yb,h1];simp [zX],fun v hv=>(Yr.1 hv).elim (h2 v) (okV_nulls _ v)⟩
    ·split at hx
     ·rename_i hc;simp only [YK] at hx;subst hx;rw [if_pos (hc.elim (fun h=>Or.inl h.2) fun h=>Or.inr h.2)];exact ⟨h1,h2⟩
     ·cases hx
  ·unfold joinR at hx
   split at hx
   ·obtain ⟨t,ht,rfl⟩:=Yv.1 hx;have ht:=(Uj.1 ht).1;rw [if_neg Za];exact ⟨by rw [Yb,hb.wid t ht];simp [zX],fun v hv=>(Yr.1 hv).elim (okV_nulls _ v) (hb.val t ht v)⟩
   ·cases hx
 exact ⟨fun r h=>(key r h).1,fun r h=>(key r h).2⟩
theorem comb_ok {w:Nat} {t:Grp->Nat} {a b:List Row} (ha:RW w a) (hb:RW w b):RW w (wg t a b):=
 ⟨fun r hr=>(combM_mem hr).elim (ha.wid r) (hb.wid r),fun r hr=>(combM_mem hr).elim (ha.val r) (hb.val r)⟩
theorem NG{p:Prop}(h:p:=by
 rw [a1];have r1:=(h1 (by rw [hkl,if_pos (by omega)];omega)).rw;rw [<-a2] at r1;exact comb_ok r0.rw r1):p:=h
theorem out_ok {gr:GF} (hg:GrOk gr) {s:Sch} {i:Inst} {q:Qr} {k0 k1:List Row} (ht:Typed s q) (hi:OkI s i) (hx:OkXQ1 q)
 (h0:0<q.kids.length->RO (typQ s (q.kids.getD 0 default)).1.length k0) (h1:1<q.kids.length->RO (typQ s (q.kids.getD 1 default)).1.length k1):
 RW (typQ s q).1.length (outM gr s i q (typQ s (q.kids.getD 0 default)).1.length (typQ s (q.kids.getD 1 default)).1.length k0 k1):=by
 have hop:=ht.op;have hkl:=ht.kids;unfold outM
 split
 ·rename_i e;obtain ⟨a1,a2⟩:=ht.scan e;have:=xU (fun t:Tbl=>t.name.toList==q.table.toList) s;have hr:=hi.tab (byT s q.table).toNat (by unfold byT at a1 ⊢;omega);rw [a2];exact hr.rw
 split
 ·rename_i e;obtain ⟨a1,a2,_⟩:=ht.vals e;rw [a1];exact ⟨a2,hx.row⟩
 rw [if_neg Za] at hkl;have hk0:0<q.kids.length:=by rw [hkl];split<;>omega
 have r0:=h0 hk0
 split
 ·rename_i e;rw [ht.same (.inl e)];exact r0.rw.sub fun r hr=>(Uj.1 hr).1
 split
 ·rename_i e;rw [ht.proj e];refine ⟨fun r hr=>?_,fun r hr=>?_⟩
  ·obtain ⟨x,hx2,rfl⟩:=Yv.1 hr;exact (okV_key hx (r0.val x hx2)).1
  ·obtain ⟨x,hx2,rfl⟩:=Yv.1 hr;exact (okV_key hx (r0.val x hx2)).2
 split
 ·rename_i e;obtain ⟨a1,a2,a3⟩:=ht.join e;rw [a3];exact jn_ok a1 r0.rw (h1 (by rw [hkl,if_pos (by omega)];omega)).rw
 split
 ·rename_i e;obtain ⟨a1,a2⟩:=ht.sets (.inl e);exact NG
 split
 ·rename_i e;obtain ⟨a1,a2⟩:=ht.sets (.inr (.inl e));exact NG
 split
 ·rename_i e;obtain ⟨a1,a2⟩:=ht.sets (.inr (.inr e));exact NG
 split
 ·rename_i e;rw [ht.same (.inr e)];exact r0.rw.sub fun r hr=>((wC _).2 r).1 hr
 split
 ·rename_i e;rw [ht.group e];exact hg q k0 hx r0.len r0.val
 ·omega
theorem ev_rows {gr:GF} {s:Sch} {i:Inst} {q:Qr} {ks:List (List Row)} {rows:List Row} (h:evOp gr s i q ks=some rows):
 rows=outM gr s i q (typQ s (q.kids.getD 0 default)).1.length (typQ s (q.kids.getD 1 default)).1.length (ks.getD 0 []) (ks.getD 1 [])/\rows.length<=1000:=by
 unfold evOp at h
 split at h
 ·cases h
 ·split at h
  ·cases h
  ·rename_i h2;simp only [Option.some.injEq] at h;subst h;exact ⟨rfl,Za⟩
theorem allO_some {α:Type}: ∀{l:List (Option α)} {ks:List α},allO l=some ks->l=ks.map some
 | [],ks,h=>by simp [allO] at h;subst h;rfl
 | none::l,ks,h=>by simp [allO] at h
 | some x::l,ks,h=>by
   simp only [allO,YR] at h;obtain ⟨ys,h1,rfl⟩:=h;rw [allO_some h1];rfl
theorem go {gr:GF} (hg:GrOk gr) {s:Sch} {i:Inst} (hi:OkI s i): ∀q:Qr,OkXQ q->(typQ s q).2=0-> ∀rows,evQ gr s i q=some rows->RO (typQ s q).1.length rows:=
 ku (p:=fun q=>OkXQ q->(typQ s q).2=0-> ∀rows,evQ gr s i q=some rows->RO (typQ s q).1.length rows) fun q ih hx ht rows he=>by
 have hty:=xH ht;rw [gp] at he;cases hall:allO (q.kids.map (evQ gr s i)) with
 | none=>rw [hall] at he;cases he
 | some ks=>
   rw [hall] at he;have hm:=allO_some hall;obtain ⟨e1,e2⟩:=ev_rows (show evOp gr s i q ks=some rows from he);have hkl:q.kids.length=ks.length:=by have:=congrArg List.length hm;simpa using this
   have hget: ∀n,n<q.kids.length->evQ gr s i (q.kids.getD n default)=some (ks.getD n []):=fun n hn=>by
    have h1:(q.kids.map (evQ gr s i)).getD n none=(ks.map some).getD n none:=ZA hm;simp only [Yf,List.getElem?_map,List.getElem?_eq_getElem hn,List.getElem?_eq_getElem (show n<ks.length from Za),Ub,Option.getD_some] at h1 ⊢;exact h1
   have hk: ∀n,n<q.kids.length->RO (typQ s (q.kids.getD n default)).1.length (ks.getD n []):=fun n hn=>
    ih _ (zk hn) (hx.kid (zk hn)) (hty.kid _ (zk hn)) _ (hget n hn)
   have:=out_ok hg hty hi hx.one (hk 0) (hk 1);rw [<-e1] at this;exact ⟨e2,this.wid,this.val⟩
theorem okV_valid {v:Val} (h:zO v=true):okV v:=by
 have ht: ∀b:ByteArray,(b.toList==[])=true->b.size<=9223372036854775807:=fun b h=>by
  have:b.toList=[]:=Zc h;rw [YM] at this;have h2:b.data.size=0:=by rw [<-Uf,this];rfl
  show b.data.size<=_;omega
 unfold zO at h
 split at h
 ·simp only [Yy] at h;have:v.num=0:=by simpa using h.1
  exact ⟨by rw [this];exact ⟨by omega,by omega⟩,ht _ h.2⟩
 ·split at h
  ·simp only [Yy,Yg] at h;exact ⟨⟨Za,Za⟩,ht _ h.2⟩
  ·split at h
   ·simp only [Yy,Ul] at h;have:v.num=0\/v.num=1:=by simpa using h.1
    exact ⟨⟨Za,Za⟩,ht _ h.2⟩
   ·split at h
    ·simp only [Yy,textM,Yg] at h;have:v.num=0:=by simpa using h.1
     exact ⟨by rw [this];exact ⟨by omega,by omega⟩,Za⟩
    ·cases h
theorem ferrN_zero {f:Nat->Int} {N:Nat} (h:uy f N=0): ∀n,n<N->f n=0:=fun n hn=>wR h n (Zc hn)
theorem fits_ok {s:Sch} {i:Inst} (h:we s i=0):OkI s i:=by
 unfold we at h
 split at h
 ·rename_i h1;exact absurd h h1
 split at h
 ·exact absurd h Zi
 rename_i h1 h2;have hl:i.length=s.length:=Za;refine ⟨hl,fun n hn=>?_⟩;have ht:=ferrN_zero h n hn;unfold jt tabF at ht
 split at ht
 ·exact absurd ht Zi
 rename_i h3;have hrow:=wR ht;have key: ∀r∈i.getD n default,r.length=(s.getD n default).columns.length/\ ∀v∈r,okV v:=fun r hr=>by
  have h4:=hrow r hr;unfold xq at h4
  split at h4
  ·exact absurd h4 Zi
  rename_i h5
  split at h4
  ·rename_i h6;refine ⟨Za,fun v hv=>?_⟩;obtain ⟨j,hj,rfl⟩:=Uq hv;have h7:=Ua.1 h6 j (Zc hj);have e1:r.getD j default=r[j]:=by rw [Yf,List.getElem?_eq_getElem hj];rfl
   rw [e1] at h7;unfold badV at h7;simp only [Bool.not_or,Yy,Bool.not_not] at h7;exact okV_valid h7.1
  ·exact absurd h4 Zi
 exact ⟨Za,fun r hr=>(key r hr).1,fun r hr=>(key r hr).2⟩
theorem qQ {s:Sch} {q:Qr} (h:(wJ s q).2=0):wJ s q=typQ s q:=by
 unfold wJ at h ⊢
 split at h
 ·exact absurd h Zi
 rename_i h1;rw [if_neg h1]
 split at h
 ·exact absurd h Zi
 ·rename_i h2;rw [if_neg h2]
def xW (gr:GF) (s:Sch) (i:Inst) (q:Qr):List Row×Int:=
 if we s i≠0 then ([],we s i) else if (wJ s q).2≠0 then ([],(wJ s q).2) else ansM (evQ gr s i q)
theorem evalQ_PR (s:Sch) (i:Inst) (q:Qr):xW grP s i q=xW grR s i q:=by unfold xW;rw [ans_PR]
def mEval (x:List Row×Int):A:= .tup [.d (.sl 1 (zd rRow x.1)),num x.2]
end
section
attribute [local simp, local push_cast] Ta aRow rRow yx yA yM z7 zQ aAgg vQ vecT aRes vRes yj rTab
def aEv (s:Sch) (i:Inst):A:= .agg [.d (.sl 6 (zd rT s)),.d (.sl 1 (zd rTab i))]
def vEv (s:Sch) (i:Inst):Ob:= .var [.d (.sl 6 (zd rT s)),.d (.sl 1 (zd rTab i))]
def rRes (x:List Row×Nat):List D:=[.sl 1 (zd rRow x.1),.lit (.int .i64 x.2)]
def qRes (o:Option (List Row)) (w:Nat):A:=match o with
 | some rows=> .tup [aRes rows w,num 0]
 | none=> .tup [aRes [] 0,num 8]
attribute [local simp, local push_cast] aEv vEv rRes qRes
def kidR (s:Sch) (i:Inst) (q:Qr) (n:Nat):List (List Row×Nat):=(q.kids.take n).map fun k=>((evQ grP s i k).getD [],(typQ s k).1.length)
theorem allO_at {α β:Type} [Inhabited α] (f:α->Option β): ∀(l:List α) (n:Nat),n<l.length->f (l.getD n default)=none->allO (l.map f)=none
 | x::l,0,h,hf=>by simp only [List.getD_cons_zero] at hf;rw [Y0,hf];rfl
 | x::l,n+1,h,hf=>by
   simp only [List.getD_cons_succ] at hf;have ih:=allO_at f l n (Zc h) hf;rw [Y0];cases hx:f x with
   | none=>rfl
   | some y=>simp only [allO,ih];rfl
theorem allO_get {α β:Type} (f:α->Option β) (d:β): ∀l:List α,(∀x∈l,f x≠none)->allO (l.map f)=some (l.map fun x=>(f x).getD d)
 | [],_=>rfl
 | x::l,h=>by
   have ih:=allO_get f d l fun y hy=>h y (Zu hy);cases hx:f x with
   | none=>exact absurd hx (h x Zd)
   | some y=>simp only [Y0,hx,allO,ih];rfl
theorem Nl{p:Prop}(h:p:=by
 refine zi hI (n+1) g' Zl ?_;rw [hfs];exact Ya (Ze hwk) Zb Zb):p:=h
theorem N1{p:Prop}(h:p:=by
 refine Zf ?_;refine ⟨Za,Za,ze Zg,?_⟩;exact Ya Zb (by simp [vRes,hw0,hO,ends]) Zb):p:=h
theorem Jf{p:Prop}(h:p:=by
 obtain rfl:n=k0.length:=Zp g;rw [Yk,<-hO] at hG;subst hG;refine (Weak.frzCellL 11 0 1 rfl rfl rfl X6 rfl).trans ?_;exact Ya Zb (by simp [vRes,hw0,ends]) Zb):p:=h
theorem Jg{p:Prop}(h:p:=by
 rw [<-hr];refine zo [[1,0],[0]] rfl Zd Zj ?_ Zk Zb Zb;rfl):p:=h
theorem Jv{p:Prop}(h:p:=by
 exact zp hI n rfl h' (fun i h2=>if h3:i=n then by rw [h3,hv];exact fun h=>by cases h else hinv i Za) (Z0 hw hl2) (Z0 hw hl2) (Z0 hw hl2) (Z0 hw hl2)):p:=h
theorem K7{p:Prop}(h:p:=by
 rw [<-Int.natCast_mul];exact zt Za Za):p:=h
theorem K9{p:Prop}(h:p:=by
 obtain ⟨j,hj,rfl⟩:=Uq hk;have:=hinv j hj;rwa [Yf,List.getElem?_eq_getElem hj] at this):p:=h
theorem GC{p:Prop}(h:p:=by
 have hok: ¬okC q r=true:=by intro h;rw [show okC q r=false from c1] at h;cases h
 rw [if_neg hok,Yw] at hfs;exact Nl):p:=h
theorem c_query (s:Sch) (hs:SmallS s) (i:Inst) (hi:OkI s i): ∀q:Qr,OkQ q→OkXQ q→(typQ s q).2=0→ACall Tryz.prog 35 [aEv s i,aQ q] [] (qRes (evQ grP s i q) (typQ s q).1.length) []:=
 ku (p:=fun q=>OkQ q->OkXQ q->(typQ s q).2=0->ACall Tryz.prog 35 [aEv s i,aQ q] [] (qRes (evQ grP s i q) (typQ s q).1.length) []) fun q ih ho hx ht=>by
 have hq:=ho.one;have hkl:=hq.kids;have hsl:=hs.len;have hty:=xH ht;rw [zW];refine enterX ttok Tryz.func35 Tryz.ntmps35 Tryz.results35 ?_;generalize hr:qRes (evQ grP s i q) (typQ s q).1.length=R;refine zN mixed ttok ?_;simp -implicitDefEqProofs only [argT,aEv,↓zb,push_cast,simprocAttr,tt];refine zN mixed ttok ?_;refine Zf ?_;refine zN mixed ttok ?_;refine Zf ?_;refine zq mixed ttok 21 [2,3,4,5,19,20] [2,3,4] Zv Zw q.kids.length (fun n=> ∀j,j<n->evQ grP s i (q.kids.getD j default)≠none) (fun n=>[(6,.vec 500 n)]) (fun n=>[(500,.vec 85 2 (zd rRes (kidR s i q n)) 0)]) (fun j h=>absurd h (Yu _)) ?_ ?_
 ·exact (Weak.nilL 6 500 85 2 rfl rfl).trans (Weak.keepL (by simp [cst,ends]) (by simp [cst,kidR,zd,ends]) (by simp [cst,ends]))
 intro I hI n hn hinv;have hl2:(kidR s i q n).length=n:=by rw [kidR,Y2,Yh];omega
 refine Zx ?_;refine za (fun h=>?_) fun h=>?_
 ·have h':n<q.kids.length:=Zq h;have hw:=zh h' Za;have hst:=wp (fun k=>((evQ grP s i k).getD [],(typQ s k).1.length)) q.kids n h';have hm:=zk h';have hc:=ih _ hm (ho.kid hm) (hx.kid hm) (hty.kid _ hm);rw [zW] at hc;have hbad:=allO_at (evQ grP s i) q.kids n h';refine ⟨Zs,?_⟩;cases hv:evQ grP s i (q.kids.getD n default) with
  | none=>
    rw [hv] at hc;have hE:evQ grP s i q=none:=by rw [gp,hbad hv];rfl
    rw [hE] at hr;simp only [qRes,aEv] at hc hr;refine zg [[6,1],[0,0,0,0,0,0,0,0,0,6,6,7,1,1,15]] [] (hc) ?_;refine Zf ?_;exact Jg
  | some rows=>
    rw [hv] at hc;simp only [qRes,aEv] at hc;refine zg [[6,1],[0,0,0,0,0,0,0,0,0,6,6,7,1,1,15]] [] (hc) ?_;refine Zf ?_;have hk2:kidR s i q (n+1)=kidR s i q n++[(rows,(typQ s (q.kids.getD n default)).1.length)]:=by rw [kidR,hst,hv];rfl
    refine ⟨⟨hl2.symm,Z2 hl2⟩,?_⟩;have hrows:zd rRes (kidR s i q n)++[[D.sl 1 (zd rRow rows),D.lit (.int .i64 ((typQ s (q.kids.getD n default)).1.length:Nat))]]=zd rRes (kidR s i q (n+1)):=by rw [hk2];exact zf rRes _ [(rows,_)]
    rw [hrows];exact Jv
 obtain rfl:n=q.kids.length:=Zp h;clear hI;have hsome: ∀k∈q.kids,evQ grP s i k≠none:=fun k hk=>by
  exact K9
 have hE:evQ grP s i q=evOp grP s i q ((kidR s i q q.kids.length).map Prod.fst):=by
  rw [gp,allO_get (evQ grP s i) [] q.kids hsome,kidR,Yk,Ux];rfl
 have hk: ∀j,j<q.kids.length->((kidR s i q q.kids.length).getD j default).2=(typQ s (q.kids.getD j default)).1.length/\RO (typQ s (q.kids.getD j default)).1.length ((kidR s i q q.kids.length).getD j default).1:=fun j hj=>by
  have e1:(kidR s i q q.kids.length).getD j default=((evQ grP s i (q.kids.getD j default)).getD [],(typQ s (q.kids.getD j default)).1.length):=by
   rw [kidR,Yk,vk _ _ _ hj]
  rw [e1];have hm:=zk hj;refine ⟨rfl,?_⟩;cases hv:evQ grP s i (q.kids.getD j default) with
  | none=>exact absurd hv (hinv j hj)
  | some rows=>exact go grP_ok hi _ (hx.kid hm) (hty.kid _ hm) _ hv
 have hg: ∀j,((kidR s i q q.kids.length).map Prod.fst).getD j []=((kidR s i q q.kids.length).getD j default).1:=fun j=>by
  simp only [Yf,List.getElem?_map];cases (kidR s i q q.kids.length)[j]? <;>rfl
 rw [hE] at hr;unfold evOp at hr;rw [hg 0,hg 1] at hr;clear hE hg hsome hinv;generalize kidR s i q q.kids.length=ks at hr hk hl2 ⊢;rw [<-hl2];have hkids:=hty.kids;rw [<-hl2] at hkids hk;obtain ⟨O,hO⟩: ∃O,O=outM grP s i q (typQ s (q.kids.getD 0 default)).1.length (typQ s (q.kids.getD 1 default)).1.length (ks.getD 0 default).1 (ks.getD 1 default).1:=⟨_,rfl⟩
 rw [<-hO] at hr;unfold outM at hO;refine zN mixed ttok ?_;refine Zf ?_;have e2: ∀n:Int,(q.op==n)=true->q.op=n:=fun n h=>Zc h;have n2: ∀n:Int,(q.op==n)=false-> ¬q.op=n:=fun n h=>Zc h;have hw24: ∀j,j<ks.length->(typQ s (q.kids.getD j default)).1.length<=1000:=fun j hj=>jG hs _ (ho.kid (zk Za));by_cases hbig:q.op=5/\50000<(ks.getD 0 default).1.length * (ks.getD 1 default).1.length
 ·rw [if_pos hbig] at hr;have o5':=hbig.1;have hkids2:ks.length=2:=W4 hkids;obtain ⟨b1,b2⟩:=hk 0 Za;obtain ⟨c1,c2⟩:=hk 1 Za;have b3:=b2.len;have c3:=c2.len;have hbig:=hbig.2;have hmul:(ks.getD 0 default).1.length * (ks.getD 1 default).1.length<=1000 * 1000:=U3 b3 c3;have hwm:IntKind.i64.wrap (((ks.getD 0 default).1.length:Int) * ((ks.getD 1 default).1.length:Int))=(((ks.getD 0 default).1.length * (ks.getD 1 default).1.length:Nat):Int):=K7;refine uz mixed ttok ?_;refine Zy o5' ?_;refine ⟨Za,Za,Za,Za,ze Zg,?_⟩;rw [hwm];refine za (fun _=>?_) (fun g=>absurd (Yc g) Za);exact Jg
 rw [if_neg hbig] at hr;refine vP mixed ttok (⟨[(4,.ptr 4 0),(5,num (0:Nat)),(11,.ptr 11 0)],[(4,.var [.snil,num (0:Nat)]),(11,vRes O (typQ s q).1.length)]⟩:SL) ?_ ?_
 ·refine Zf ?_;have hqr:zd yM q.rows=zd rRow q.rows:=rfl;refine za (fun o1=>?_) fun o1=>?_
  ·have o1':=e2 _ o1;obtain ⟨a1,a2⟩:=hty.scan o1';rw [if_pos o1'] at hO;refine zg [[6],[0]] [] (c_find s q.table Za) ?_;have hlt:=xU (fun t:Tbl=>t.name.toList==q.table.toList) s;have hbd:byT s q.table=fidx (fun t:Tbl=>t.name.toList==q.table.toList) s:=rfl;rw [<-hbd] at hlt;have hil:=hi.len;have hb2:(if 0>byT s q.table then (0:Int) else byT s q.table)=byT s q.table:=if_neg Za;generalize byT s q.table=b at hO a1 a2 hlt hb2 ⊢;refine XT hb2 ?_;refine ⟨Za,Za,ze Zg,?_⟩;exact Ya Zb (by simp [vRes,hO,a2,ends]) Zb
  have o1':=n2 _ o1;rw [if_neg o1'] at hO;refine za (fun o2=>?_) fun o2=>?_
  ·have o2':=e2 _ o2;obtain ⟨a1,a2,a3⟩:=hty.vals o2';rw [if_pos o2'] at hO;exact Ya Zb (by simp [vRes,hO,a1,hqr,ends]) Zb
  have o2':=n2 _ o2;rw [if_neg o2'] at hO;rw [if_neg Za] at hkids;refine za (fun o3=>?_) fun o3=>?_
  ·have o3':=e2 _ o3;rw [if_pos o3'] at hO;rw [if_neg Za] at hkids;obtain ⟨b1,b2⟩:=hk 0 Za;have hw0:(typQ s q).1.length=(ks.getD 0 default).2:=by rw [hty.same (.inl o3'),b1]
   generalize ks.getD 0 default=K0 at *;obtain ⟨k0,w0⟩:=K0;simp only at hO b2 hw0 ⊢;have hk0l:=b2.len;refine ⟨Za,Za,Za,Za,?_⟩;refine zx mixed ttok (fun n:Nat=>(⟨[(87,num n),(86,num k0.length),(85,aTab k0),(3,.ptr 3 0),(4,.ptr 4 0),(5,num (0:Nat)),(11,.ptr 11 0)],[(3,vQ q),(4,.var [.snil,num (0:Nat)]),(11,.var [.vec 700 ((k0.take n).filter (okC q)).length,num w0]),(700,vecT ((k0.take n).filter (okC q)))]⟩:SL)) (fun n=>k0.length-n) (fun n=>n<=k0.length) 0 (Yj _) ?_ ?_
   ·exact (Us 11 0 700 53 1 rfl rfl rfl).trans (Ya Zb Zb Zb)
   intro I hI n hn;have hfs:=j8 (okC q) k0 n;obtain ⟨G,hG⟩: ∃G,G=(k0.take n).filter (okC q):=⟨_,rfl⟩
   have hGl:G.length<=n:=by rw [hG];exact Y3 (YX _ _) (by rw [Yh];omega)
   rw [<-hG] at hfs ⊢;have hce: ∀row,ACall Tryz.prog 61 [aE q.cond,aRow row] [] (aV (zG row q.cond)) []:=fun row=>c_eval row _ hq.cond;simp only [yt] at hce;refine Zf ?_;refine za (fun g=>?_) fun g=>?_
   ·have g':n<k0.length:=Zq g;have hwk:=zh g' Za;have hfs:=hfs g';obtain ⟨r,hrr⟩: ∃r,r=k0.getD n default:=⟨_,rfl⟩
    rw [<-hrr] at hfs ⊢;refine ⟨Za,?_⟩;refine zg [[0,0,0,0,0,6],[3]] [] (hce r) ?_;refine Z5 ?_;refine zg [[0,0,0]] [] (j4 (zG r q.cond)) ?_;refine Zf ?_;refine za (fun c1=>?_) fun c1=>?_
    ·have hok:okC q r=true:=c1;rw [if_pos hok] at hfs;have hrows:zd rRow G++[[D.sl 3 (zd rV r)]]=zd rRow (G++[r]):=zf rRow G [r];have hlen1:G.length+1=(G++[r]).length:=Xc;rw [hrows,hlen1];refine ⟨Za,?_⟩;exact Nl
    ·exact GC
   exact Jf
  have o3':=n2 _ o3;rw [if_neg o3'] at hO;refine za (fun o4=>?_) fun o4=>?_
  ·have o4':=e2 _ o4;rw [if_pos o4'] at hO;rw [if_neg Za] at hkids;obtain ⟨b1,b2⟩:=hk 0 Za;have hw0:(typQ s q).1.length=q.exprs.length:=hty.proj o4';generalize ks.getD 0 default=K0 at *;obtain ⟨k0,w0⟩:=K0;simp only at hO b2 ⊢;have hk0l:=b2.len;have hel:=hq.exprs;refine ⟨Za,Za,?_⟩;refine zx mixed ttok (fun n:Nat=>(⟨[(115,num n),(114,num k0.length),(113,aTab k0),(3,.ptr 3 0),(4,.ptr 4 0),(5,num (0:Nat)),(11,.ptr 11 0)],[(3,vQ q),(4,.var [.snil,num (0:Nat)]),(11,.var [.vec 700 ((k0.take n).map (keyR q)).length,num q.exprs.length]),(700,vecT ((k0.take n).map (keyR q)))]⟩:SL)) (fun n=>k0.length-n) (fun n=>n<=k0.length) 0 (Yj _) ?_ ?_
   ·exact (Us 11 0 700 53 1 rfl rfl rfl).trans (Ya Zb Zb Zb)
   intro I hI n hn;have hfs:=fun h=>wp (keyR q) k0 n h;obtain ⟨G,hG⟩: ∃G,G=(k0.take n).map (keyR q):=⟨_,rfl⟩
   have hGl:G.length<=n:=by rw [hG,Y2,Yh];omega
   rw [<-hG] at hfs ⊢;refine Zf ?_;refine za (fun g=>?_) fun g=>?_
   ·have g':n<k0.length:=Zq g;have hwk:=zh g' Za;have hfs:=hfs g';obtain ⟨r,hrr⟩: ∃r,r=k0.getD n default:=⟨_,rfl⟩
    rw [<-hrr] at hfs ⊢;refine ⟨Za,?_⟩;refine zg [[6],[3]] [] (c_mvals q.exprs r hel hq.ex) ?_;refine Zf ?_;have hrows:zd rRow G++[[D.sl 3 (zd rV (q.exprs.map (zG r)))]]=zd rRow (G++[keyR q r]):=zf rRow G [keyR q r];have hlen1:G.length+1=(G++[keyR q r]).length:=Xc;rw [hrows,hlen1];refine ⟨Za,ze Zg,?_⟩;exact Nl
   exact Jf
  have o4':=n2 _ o4;rw [if_neg o4'] at hO;refine za (fun o5=>?_) fun o5=>?_
  ·have o5':=e2 _ o5;rw [if_pos o5'] at hO;rw [if_pos Za] at hkids;obtain ⟨b1,b2⟩:=hk 0 Za;obtain ⟨c1,c2⟩:=hk 1 Za;have d1:=hw24 0 Za;have d2:=hw24 1 Za;have b3:=b2.len;have c3:=c2.len;obtain ⟨j1,j2,j3⟩:=hty.join o5';have hmul:(ks.getD 0 default).1.length * (ks.getD 1 default).1.length<=1000 * 1000:=U3 b3 c3;have hwm:IntKind.i64.wrap (((ks.getD 0 default).1.length:Int) * ((ks.getD 1 default).1.length:Int))=(((ks.getD 0 default).1.length * (ks.getD 1 default).1.length:Nat):Int):=K7;have hc:=c_joinP q hq (ks.getD 0 default).1 (ks.getD 1 default).1 (ks.getD 0 default).2 (ks.getD 1 default).2 b3 c3 (fun r h=>Z2 (b2.wid r h)) (fun r h=>Z2 (c2.wid r h)) Za Za j1;rw [zW] at hc;simp only [aRes] at hc;refine ⟨Za,Za,Za,Za,?_⟩;rw [hwm];refine ⟨ze Zg,?_⟩;refine za (fun g=>absurd (Yd g) (by have:=fun h=>hbig ⟨o5',h⟩;omega)) (fun _=>?_);refine ⟨Za,Za,Za,Za,?_⟩;refine zg [[0,0,0,0,0,0,0,0,0,6,6,7,1,1,15],[1,0],[1,0]] [] (hc) ?_;refine Zf ?_;refine ⟨ze Zg,?_⟩;have hw0:widK q (ks.getD 0 default).2 (ks.getD 1 default).2=(typQ s q).1.length:=by
    unfold widK;rw [j3,b1,c1];by_cases h5:q.kind≥5
    ·rw [if_pos h5,if_pos Za]
    ·rw [if_neg h5,if_neg Za]
   rw [<-b1,<-c1] at hO;rw [<-hO,hw0];exact Ya Zb (by simp [vRes,ends]) Zb
  have o5':=n2 _ o5;rw [if_neg o5'] at hO;refine za (fun o6=>?_) fun o6=>?_
  ·have o6':=e2 _ o6;rw [if_pos o6'] at hO;rw [if_pos Za] at hkids;obtain ⟨b1,b2⟩:=hk 0 Za;obtain ⟨c1,c2⟩:=hk 1 Za;have d1:=hw24 0 Za;have d2:=hw24 1 Za;have b3:=b2.len;have c3:=c2.len;have hw0:(typQ s q).1.length=(ks.getD 0 default).2:=by rw [(hty.sets (by omega)).1,b1]
   refine ⟨Za,Za,Za,Za,?_⟩;refine zg [[1],[1],[0]] [] (c_bunion (ks.getD 0 default).1 (ks.getD 1 default).1 q.all Za Za (fun r h=>Z2 (b2.wid r h)) (fun r h=>Z2 (c2.wid r h))) ?_;exact N1
  have o6':=n2 _ o6;rw [if_neg o6'] at hO;refine za (fun o7=>?_) fun o7=>?_
  ·have o7':=e2 _ o7;rw [if_pos o7'] at hO;rw [if_pos Za] at hkids;obtain ⟨b1,b2⟩:=hk 0 Za;obtain ⟨c1,c2⟩:=hk 1 Za;have d1:=hw24 0 Za;have d2:=hw24 1 Za;have b3:=b2.len;have c3:=c2.len;have hw0:(typQ s q).1.length=(ks.getD 0 default).2:=by rw [(hty.sets (by omega)).1,b1]
   refine ⟨Za,Za,Za,Za,?_⟩;refine zg [[1],[1],[0]] [] (c_bexcept (ks.getD 0 default).1 (ks.getD 1 default).1 q.all Za Za (fun r h=>Z2 (b2.wid r h)) (fun r h=>Z2 (c2.wid r h))) ?_;exact N1
  have o7':=n2 _ o7;rw [if_neg o7'] at hO;refine za (fun o8=>?_) fun o8=>?_
  ·have o8':=e2 _ o8;rw [if_pos o8'] at hO;rw [if_pos Za] at hkids;obtain ⟨b1,b2⟩:=hk 0 Za;obtain ⟨c1,c2⟩:=hk 1 Za;have d1:=hw24 0 Za;have d2:=hw24 1 Za;have b3:=b2.len;have c3:=c2.len;have hw0:(typQ s q).1.length=(ks.getD 0 default).2:=by rw [(hty.sets (by omega)).1,b1]
   refine ⟨Za,Za,Za,Za,?_⟩;refine zg [[1],[1],[0]] [] (c_binter (ks.getD 0 default).1 (ks.getD 1 default).1 q.all Za Za (fun r h=>Z2 (b2.wid r h)) (fun r h=>Z2 (c2.wid r h))) ?_;exact N1
  have o8':=n2 _ o8;rw [if_neg o8'] at hO;refine za (fun o9=>?_) fun o9=>?_
  ·have o9':=e2 _ o9;rw [if_pos o9'] at hO;rw [if_neg Za] at hkids;obtain ⟨b1,b2⟩:=hk 0 Za;have d1:=hw24 0 Za;have b3:=b2.len;have hw0:(typQ s q).1.length=(ks.getD 0 default).2:=by rw [hty.same (.inr o9'),b1]
   refine ⟨Za,Za,?_⟩;refine zg [[1]] [] (c_bdistinct (ks.getD 0 default).1 Za (fun r h=>Z2 (b2.wid r h))) ?_;exact N1
  have o9':=n2 _ o9;rw [if_neg o9'] at hO;refine za (fun oa=>?_) fun oa=>?_
  ·have oa':=e2 _ oa;rw [if_pos oa'] at hO;rw [if_neg Za] at hkids;obtain ⟨b1,b2⟩:=hk 0 Za;have b3:=b2.len;have hw0:(typQ s q).1.length=q.exprs.length+q.aggs.length:=hty.group oa';have hel:=hq.exprs;have hal:=hq.aggs;have hwm:IntKind.i64.wrap ((q.exprs.length:Int)+(q.aggs.length:Int))=((q.exprs.length+q.aggs.length:Nat):Int):=Z9;have hc:=c_groupsP q hq (ks.getD 0 default).1 b3 (fun a ha=>okV_vals _ _ (hx.one.ag a ha) b2.val);rw [zW] at hc;refine ⟨Za,Za,?_⟩;refine zg [[0,0,0,0,0,0,0,0,0,6,6,7,1,1,15],[1]] [] (hc) ?_;refine Zy hwm ?_;refine ⟨ze Zg,?_⟩;exact Ya Zb (by simp [vRes,hw0,hO,ends]) Zb
  have oa':=n2 _ oa;have:=hty.op;omega
 refine uz mixed ttok ?_;simp -implicitDefEqProofs only [vRes,↓zb,push_cast,simprocAttr,tt];refine za (fun big=>?_) fun big=>?_
 ·have big':1000<O.length:=Zq big;rw [if_pos big'] at hr;exact Jg
 ·have big': ¬1000<O.length:=Zp big;rw [if_neg big'] at hr;exact Jg
end
section
attribute [local simp, local push_cast] Ta aRow rRow yx yA yM z7 zQ aAgg vQ vecT aRes vRes aEv vEv rRes qRes yj rTab mEval
theorem Hd{p:Prop}(h:p:=by
 have h2':(wJ s q).2≠0:=Zc h2;rw [if_pos h2'] at hr;rw [<-hr];exact Mg):p:=h
theorem Hh{p:Prop}(h:p:=by
 have h1':we s i≠0:=Zc h1;rw [if_pos h1'] at hr;rw [<-hr];exact Mg):p:=h
theorem c_meval (s:Sch) (hs:SmallS s) (i:Inst) (hi:SmallI i) (q:Qr) (ho:OkQ q) (hx:OkXQ q):
 ACall Tryz.prog 12 [aS s,z8 i,aQ q] [] (mEval (xW grP s i q)) []:=by
 have hc1:=c_fits s i hs hi;have hc2:=c_Type s hs q ho;have hc3:=c_query s hs i;have hok:= @fits_ok s i;simp only [z8] at hc1;rw [zW] at hc2 ⊢;refine zn mixed ttok Tryz.func12 Tryz.ntmps12 Tryz.results12 ?_;generalize hr:mEval (xW grP s i q)=R;unfold xW at hr;refine Zn ?_;refine zg [[6],[1]] [] (hc1) ?_;refine Zf ?_;refine za (fun h1=>?_) fun h1=>?_
 ·exact Hh
 have h1':we s i=0:=Zc h1;rw [if_neg (fun h=>h h1')] at hr;refine zg [[6],[0,0,0,0,0,0,0,0,0,6,6,7,1,1,15]] [] (hc2) ?_;refine Xf ?_;refine za (fun h2=>?_) fun h2=>?_
 ·exact Hd
 have h2':(wJ s q).2=0:=Zc h2;rw [if_neg (fun h=>h h2')] at hr;rw [qQ h2'] at h2';have hI:=hok h1';have hc3:=hc3 hI q ho hx h2';have hev:=go grP_ok hI q hx h2';have hw:=jG hs q ho;rw [zW] at hc3;cases hv:evQ grP s i q with
 | none=>
   rw [hv] at hc3 hr;simp only [qRes,aEv] at hc3;refine zg [[6,1],[0,0,0,0,0,0,0,0,0,6,6,7,1,1,15]] [] (hc3) ?_;exact GU
 | some rows=>
   rw [hv] at hc3 hr;have hR:=hev rows hv;have hl:=hR.len;simp only [qRes,aEv] at hc3;refine zg [[6,1],[0,0,0,0,0,0,0,0,0,6,6,7,1,1,15]] [] (hc3) ?_;refine Zf ?_;refine zg [[1]] [] (c_bcanon rows Za (fun r h=>Z2 (hR.wid r h))) ?_;exact GU
end
end Go.Proofs.YtnmibokjpedkiaaGreatDoor
