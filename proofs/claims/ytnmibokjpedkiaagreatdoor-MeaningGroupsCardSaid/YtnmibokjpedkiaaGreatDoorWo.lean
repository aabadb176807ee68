/- Groups of a query have one row for each key, and their counts add up: a proof over an abstract machine of our own (part Wo) -/
import Derived.Test.YtnmibokjpedkiaaGreatDoorWn
import Derived.Test.YtnmibokjpedkiaaGreatDoorRows
import Derived.MakeChecks
import Derived.LaidLaws
import Derived.LaidMore
import Derived.Shelf.Vars
set_option maxRecDepth 100000
set_option maxHeartbeats 4000000
set_option linter.all false
namespace Go.Proofs.YtnmibokjpedkiaaGreatDoor
section
open Go.Am
attribute [local simp, local push_cast] num boo str ints aV aTab zx aS aT aC aRow rRow rTab vT zY yg yQ wW wu rE zP mEval
theorem c_schema0 {xs:List Int} (hx:ua xs):
 ACall Tryz.prog 9 [.ptr 1000 0] [(1000,.var [.d (.sl 1 (zd rI xs)),.d (.lit (.int .i64 0))])] (aS (xw xs 0).1) [(1000,yg xs (xw xs 0).2)]:=
 c_mschema (p:=0) hx (by omega)
theorem ok1_of {q:Qr} (hc:q.cond=zE) (h1: ∀e∈q.exprs,Ok12 e) (h2:q.exprs.length<=1) (h3: ∀a∈q.aggs,a=⟨1,zE⟩) (h4:q.aggs.length<=1) (h5:q.types=[]) (h6:q.rows=[]) (h7:q.kids.length<=1):OkQ1 q:=
 ⟨by rw [hc];exact ok_nil rfl,by omega,h1,by omega,fun a ha=>by rw [h3 a ha];exact ok_nil rfl,by rw [h5];exact Nat.zero_le _,by rw [h6];exact Nat.zero_le _,(fun r hr=>by rw [h6] at hr;cases hr),by omega⟩
theorem okx_zE:OkX zE:=⟨_,⟨by decide,by decide⟩,Nat.zero_le _,fun k hk=>by cases hk⟩
theorem okx1_of {q:Qr} (hc:q.cond=zE) (h1: ∀e∈q.exprs,OkX e) (h3: ∀a∈q.aggs,a=⟨1,zE⟩) (h6:q.rows=[]):OkXQ1 q:=
 ⟨by rw [hc];exact okx_zE,h1,fun a ha=>by rw [h3 a ha];exact okx_zE,fun r hr=>by rw [h6] at hr;cases hr⟩
theorem ok_scan (b:ByteArray):OkQ (x5 b)/\OkXQ (x5 b):=
 ⟨⟨_,ok1_of rfl (fun e h=>by cases h) (Nat.zero_le 1) (fun a h=>by cases h) (Nat.zero_le 1) rfl rfl (Nat.zero_le 1),fun k h=>by cases h⟩,⟨_,okx1_of rfl (fun e h=>by cases h) (fun a h=>by cases h) rfl,fun k h=>by cases h⟩⟩
theorem x8 {α:Type} {x y:α} (h:x∈[y]):x=y:=by simpa using h
theorem ok_grp {key:Ex} (h1:Ok12 key) (h2:OkX key) (b:ByteArray):OkQ (grpQ key b)/\OkXQ (grpQ key b):=
 ⟨⟨_,ok1_of rfl (fun e h=>by rw [x8 h];exact h1) (Nat.le_refl 1) (fun a h=>x8 h) (Nat.le_refl 1) rfl rfl (Nat.le_refl 1),fun k h=>by rw [x8 h];exact (ok_scan b).1⟩,⟨_,okx1_of rfl (fun e h=>by rw [x8 h];exact h2) (fun a h=>x8 h) rfl,fun k h=>by rw [x8 h];exact (ok_scan b).2⟩⟩
theorem ok_proj {key:Ex} (h1:Ok12 key) (h2:OkX key) (b:ByteArray):OkQ (vF key b)/\OkXQ (vF key b):=
 ⟨⟨_,ok1_of rfl (fun e h=>by rw [x8 h];exact h1) (Nat.le_refl 1) (fun a h=>by cases h) (Nat.zero_le 1) rfl rfl (Nat.le_refl 1),fun k h=>by rw [x8 h];exact (ok_scan b).1⟩,⟨_,okx1_of rfl (fun e h=>by rw [x8 h];exact h2) (fun a h=>by cases h) rfl,fun k h=>by rw [x8 h];exact (ok_scan b).2⟩⟩
theorem ok_dis {key:Ex} (h1:Ok12 key) (h2:OkX key) (b:ByteArray):OkQ (disQ key b)/\OkXQ (disQ key b):=
 ⟨⟨_,ok1_of rfl (fun e h=>by cases h) (Nat.zero_le 1) (fun a h=>by cases h) (Nat.zero_le 1) rfl rfl (Nat.le_refl 1),fun k h=>by rw [x8 h];exact (ok_proj h1 h2 b).1⟩,⟨_,okx1_of rfl (fun e h=>by cases h) (fun a h=>by cases h) rfl,fun k h=>by rw [x8 h];exact (ok_proj h1 h2 b).2⟩⟩
theorem aQ_grp (key:Ex) (b:ByteArray):aQ (grpQ key b)= .agg [num 10,str ByteArray.empty,num 0,boo false,num 0,num 0,num 0,str ByteArray.empty,num 0,.d (.sl 6 []),.d (.sl 6 [[.lit (.int .i64 key.op),.lit (.int .i64 key.type),.lit (.int .i64 key.num),.lit (.string key.text),.lit (.int .i64 key.col),.sl 6 (zd rE key.kids)]]),
 .d (.sl 7 [[.lit (.int .i64 1),.lit (.int .i64 0),.lit (.int .i64 0),.lit (.int .i64 0),.lit (.string ByteArray.empty),.lit (.int .i64 0),.sl 6 []]]),.d (.sl 1 []),.d (.sl 1 []),.d (.sl 15 [rQ (x5 b)])]:=by
 rw [x4]
 simp [grpQ,zE,zd,yC,yQ,Qr.op,Qr.table,Qr.kind,Qr.all,Qr.cond,Qr.exprs,Qr.aggs,Qr.types,Qr.rows,Qr.kids,Ex.op,Ex.type,Ex.num,Ex.text,Ex.col,Ex.kids]
theorem aQ_dis (key:Ex) (b:ByteArray):aQ (disQ key b)= .agg [num 9,str ByteArray.empty,num 0,boo false,num 0,num 0,num 0,str ByteArray.empty,num 0,.d (.sl 6 []),.d (.sl 6 []),.d (.sl 7 []),.d (.sl 1 []),.d (.sl 1 []),.d (.sl 15 [rQ (vF key b)])]:=by
 rw [x4]
 simp [disQ,zE,zd,yC,yQ,Qr.op,Qr.table,Qr.kind,Qr.all,Qr.cond,Qr.exprs,Qr.aggs,Qr.types,Qr.rows,Qr.kids,Ex.op,Ex.type,Ex.num,Ex.text,Ex.col,Ex.kids]
theorem rQ_scan (b:ByteArray):rQ (x5 b)=[.lit (.int .i64 1),.lit (.string b),.lit (.int .i64 0),.lit (.bool false),.lit (.int .i64 0),.lit (.int .i64 0),.lit (.int .i64 0),.lit (.string ByteArray.empty),.lit (.int .i64 0),.sl 6 [],.sl 6 [],.sl 7 [],.sl 1 [],.sl 1 [],.sl 15 []]:=by
 rw [wW]
 simp [x5,zE,zd,yC,yQ,Qr.op,Qr.table,Qr.kind,Qr.all,Qr.cond,Qr.exprs,Qr.aggs,Qr.types,Qr.rows,Qr.kids,Ex.op,Ex.type,Ex.num,Ex.text,Ex.col,Ex.kids]
theorem rQ_proj (key:Ex) (b:ByteArray):rQ (vF key b)=[.lit (.int .i64 4),.lit (.string ByteArray.empty),.lit (.int .i64 0),.lit (.bool false),.lit (.int .i64 0),.lit (.int .i64 0),.lit (.int .i64 0),.lit (.string ByteArray.empty),.lit (.int .i64 0),.sl 6 [],.sl 6 [[.lit (.int .i64 key.op),.lit (.int .i64 key.type),.lit (.int .i64 key.num),.lit (.string key.text),.lit (.int .i64 key.col),.sl 6 (zd rE key.kids)]],.sl 7 [],.sl 1 [],.sl 1 [],.sl 15 [rQ (x5 b)]]:=by
 rw [wW]
 simp [vF,zE,zd,yC,yQ,Qr.op,Qr.table,Qr.kind,Qr.all,Qr.cond,Qr.exprs,Qr.aggs,Qr.types,Qr.rows,Qr.kids,Ex.op,Ex.type,Ex.num,Ex.text,Ex.col,Ex.kids]
theorem g_scan (b:ByteArray):OkG (x5 b):=⟨_,.inl rfl,fun k h=>by cases h⟩
theorem g_grp (key:Ex) (b:ByteArray):OkG (grpQ key b):=⟨_,.inr (.inr (.inr rfl)),fun k h=>by rw [x8 h];exact g_scan b⟩
theorem g_dis (key:Ex) (b:ByteArray):OkG (disQ key b):=⟨_,.inr (.inr (.inl rfl)),fun k h=>by rw [x8 h];exact ⟨_,.inr (.inl rfl),fun k h=>by rw [x8 h];exact g_scan b⟩⟩
theorem eval_both {s:Sch} {i:Inst} {n:Nat} {k:Int} {key:Ex} (hn:n<s.length) (hm:Made (zL (s.getD n default)) 3 k key):
 (xD s i≠0->jV grP s i (grpQ key (s.getD n default).name)=([],xD s i)/\jV grP s i (disQ key (s.getD n default).name)=([],xD s i))/\
 (xD s i=0->byT s (s.getD n default).name=n/\(i.getD n default).length<=1000/\jV grP s i (grpQ key (s.getD n default).name)=(u4 key (i.getD n default),0)/\jV grP s i (disQ key (s.getD n default).name)=(kys key (i.getD n default),0)):=by
 refine ⟨fun h=>?_,fun h=>?_⟩
 ·unfold jV
  exact ⟨if_pos h,if_pos h⟩
 ·have hv:xm s=0:=by
   unfold xD at h
   split at h
   ·rename_i h1;exact absurd h h1
   ·rename_i h1;simpa using h1
  have hb:=valid_byT hv hn
  have hl:=((fits_ok h).tab n hn).len
  have hty:=made_typeM (by omega) hm
  have hsz:=hm.size
  rw [show (4:Nat) ^ 3=64 from rfl] at hsz
  have hds:=depth_scan (s.getD n default).name
  have h1:uK s (grpQ key (s.getD n default).name)=([k,1],0):=by
   unfold uK
   rw [if_neg (by rw [size_grp _ hsz.1 (by omega)];omega),if_neg (by rw [depth_one (q:=grpQ key (s.getD n default).name) rfl hds (by omega) (by omega)];omega),typ_grp hb hty]
  have h2:uK s (disQ key (s.getD n default).name)=([k],0):=by
   unfold uK
   rw [if_neg (by rw [size_dis _ hsz.1 (by omega)];omega),if_neg (by rw [depth_one (q:=disQ key (s.getD n default).name) rfl (depth_one (q:=vF key (s.getD n default).name) rfl hds (by omega) (by omega)) (by omega) (by omega)];omega),typ_dis hb hty]
  refine ⟨hb,hl,?_,?_⟩
  ·unfold jV
   rw [if_neg (fun e=>e h),h1,if_neg (fun e=>e rfl),ev_grp hb hl,ansM,srt_grps]
  ·unfold jV
   rw [if_neg (fun e=>e h),h2,if_neg (fun e=>e rfl),ev_dis hb hl,ansM,srt_kys]
theorem c_lawG (l:List Int) (hx:ua l):ACall Tryz.prog 8 [ints l] [] (boo true) []:=by
 refine zl mixed ttok Tryz.func8 Tryz.ntmps8 Tryz.results8 ?_
 generalize hr:boo true=R
 simp -implicitDefEqProofs only [argT,↓zb,push_cast,simprocAttr,tte]
 refine ze [[]] [(1000,20)] (c_schema0 hx) ?_
 have hq:=schemaM_q l
 obtain ⟨hS,hl1⟩:=schemaM_ok l 0
 have hT:=schemaM_typed l 0
 generalize (xw l 0).1=s at hS hl1 hT ⊢
 generalize (xw l 0).2=q at hq ⊢
 simp -implicitDefEqProofs only [↓zb,push_cast,simprocAttr,tte]
 refine ze [[],[6],[]] [(1000,20)] (c_minst (most:=8) (p:=q) hx (by omega) (by omega) hS hT (by omega)) ?_
 have hsl:=hS.len
 have hI:=instM_small l (most:=8) (by omega) (by omega) hS q
 have hq2:(qV l 8 s q).2<=300000000:=by
  have:=instTo_q l (most:=8) (by omega) (by omega) (fun T h=>(hS.tab T h).cols) q s.length (Nat.le_refl _)
  unfold qV
  omega
 generalize (qV l 8 s q).2=q2 at hq2 ⊢
 generalize (qV l 8 s q).1=i at hI ⊢
 simp -implicitDefEqProofs only [↓zb,push_cast,simprocAttr,tte]
 refine ze [[],[]] [(1000,20)] (zX (n:=(s.length:Int)) (p:=q2) hx (by omega) (by omega) (by omega)) ?_
 have hd:=zw l q2 (n:=(s.length:Int)) (by omega)
 simp -implicitDefEqProofs only [↓zb,push_cast,simprocAttr,tte]
 generalize drawn l q2 s.length=nn at hd ⊢
 obtain ⟨n,rfl⟩: ∃n:Nat,nn=n:=⟨nn.toNat,by omega⟩
 have hn:n<s.length:=by omega
 have hxm:=zk hn
 obtain ⟨hx1,hx2⟩:=hT _ hxm
 have hxc:=(hS.tab _ hxm).cols
 refine ⟨by omega,zf (by kernel_rfl),?_⟩
 have hct:=vO (s.getD n default) (by omega)
 simp only [aT] at hct
 refine ze [[0,3,1,1,2,6]] [] (hct) ?_
 simp -implicitDefEqProofs only [↓zb,push_cast,simprocAttr,tte]
 refine ze [[],[]] [(1000,20)] (zX (n:=3) (p:=q2+1) hx (by omega) (by omega) (by omega)) ?_
 have hd3:=zw l (q2+1) (n:=3) (by omega)
 simp -implicitDefEqProofs only [↓zb,push_cast,simprocAttr,tte]
 generalize drawn l (q2+1) 3=k3 at hd3 ⊢
 have hk:Kn (1+k3):=by omega
 have hw3:IntKind.i64.wrap (1+k3)=1+k3:=zm (by omega) (by omega)
 rw [hw3]
 generalize 1+k3=k at hk ⊢
 have hkey:ACall Tryz.prog 19 [.ptr 1000 0,ints (zL (s.getD n default)),num k,num 3] [(1000,yg l (q2+2))] (aE (xe l (zL (s.getD n default)) 3 k (q2+2)).1) [(1000,yg l (xe l (zL (s.getD n default)) 3 k (q2+2)).2)]:=
  gj hx (by unfold zL;rw [List.length_map];exact hxc) 2 (by omega) k (q2+2) hk (by have:wE (2+1)=110:=rfl;omega)
 have hmade:=made_expr l (zL (s.getD n default)) 2 (by omega) k hk (q2+2)
 generalize (xe l (zL (s.getD n default)) 3 k (q2+2)).2=q3 at hkey
 generalize hke:(xe l (zL (s.getD n default)) 3 k (q2+2)).1=key at hkey
 rw [show (2:Nat)+1=3 from rfl,hke] at hmade
 simp only [wP] at hkey
 refine ze [[],[1],[],[]] [(1000,20)] (hkey) ?_
 simp -implicitDefEqProofs only [↓zb,push_cast,simprocAttr,tte]
 have hG:=c_meval s hS i hI (grpQ key (s.getD n default).name) (g_grp _ _) (ok_grp hmade.ok12 hmade.okx _).1 (ok_grp hmade.ok12 hmade.okx _).2
 have hD:=c_meval s hS i hI (disQ key (s.getD n default).name) (g_dis _ _) (ok_dis hmade.ok12 hmade.okx _).1 (ok_dis hmade.ok12 hmade.okx _).2
 have hF:=c_rfits s i hS hI
 rw [aQ_grp,rQ_scan] at hG
 rw [aQ_dis,rQ_proj,rQ_scan] at hD
 simp only [zx] at hG hD hF
 obtain ⟨hbad,hgood⟩:=eval_both (i:=i) hn hmade
 generalize jV grP s i (grpQ key (s.getD n default).name)=A at hG hbad hgood
 generalize jV grP s i (disQ key (s.getD n default).name)=B at hD hbad hgood
 refine ze [[6],[1],[0,0,0,0,0,0,0,0,0,6,6,7,1,1,15]] [] (hG) ?_
 simp -implicitDefEqProofs only [mEval,↓zb,push_cast,simprocAttr,tte]
 refine ze [[6],[1],[0,0,0,0,0,0,0,0,0,6,6,7,1,1,15]] [] (hD) ?_
 simp -implicitDefEqProofs only [mEval,↓zb,push_cast,simprocAttr,tte]
 refine ze [[6],[1]] [] (hF) ?_
 simp -implicitDefEqProofs only [↓zb,push_cast,simprocAttr,tte]
 refine za (fun f=>?_) fun f=>?_
 ·have f':xD s i≠0:=by simpa using f
  obtain ⟨e1,e2⟩:=hbad f'
  subst e1 e2
  refine za (fun _=>?_) (fun h=>absurd h (by simp))
  exact zi trivial (by rw [<-hr];simp) (by simp [ends])
 have f':xD s i=0:=by simpa using f
 obtain ⟨hb,hl,e1,e2⟩:=hgood f'
 subst e1 e2
 clear hbad hgood hG hD hF
 have hil:=(fits_ok f').len
 generalize hR:i.getD n default=Rw at hl ⊢
 have hlen:(u4 key Rw).length=(kys key Rw).length:=by unfold u4;rw [List.length_map]
 have hkl:=kys_len key Rw
 simp -implicitDefEqProofs only [hlen,↓zb,push_cast,simprocAttr,tte]
 refine z7 mixed ttok (fun j:Nat=>(⟨[(15,num j),(14,num (ke key Rw j)),(9,aTab (u4 key Rw)),(11,aTab (kys key Rw)),(4,.ptr 4 0),(5,.ptr 5 0),(6,.ptr 6 0)],[(4,.var [.d (.sl 6 (zd rT s))]),(5,.var [.d (.sl 1 (zd rTab i))]),(6,vT (s.getD n default))]⟩:SL)) (fun j=>(kys key Rw).length-j) (fun j=>j<=(kys key Rw).length) 0 (Nat.zero_le _) ?_ ?_
 ·exact Weak.keepL (by simp [ke,ends]) (by simp [vT,ends]) (by simp [ends])
 intro I hI2 j hj
 have hs1:= @sumTo_succ key Rw j
 have hs2:=sumTo_le key Rw j
 have hs3:=sumTo_le key Rw (j+1)
 have hall:=sumTo_all key Rw
 have hga:j<(kys key Rw).length->(u4 key Rw).getD j default=(kys key Rw).getD j default++[⟨1,cntG key Rw ((kys key Rw).getD j default),ByteArray.empty⟩]:=fun h=>by unfold u4;exact u5 _ _ _ h
 have hpos:=fun h:j<(kys key Rw).length=>cnt_pos (key:=key) (R:=Rw) (zk h)
 have hone:=fun h:j<(kys key Rw).length=>kys_one (key:=key) (R:=Rw) (zk h)
 simp -implicitDefEqProofs only [hlen,↓zb,push_cast,simprocAttr,tte]
 refine za (fun h=>?_) fun h=>?_
 ·have h':j<(kys key Rw).length:=by have:=of_decide_eq_true h;omega
  have hw:=zh h' (by omega)
  have hs1:=hs1 h'
  have hga:=hga h'
  have hpos:=hpos h'
  obtain ⟨v,hv⟩:=hone h'
  rw [hv] at hs1 hga hpos
  have hga:(u4 key Rw).getD j default=[v,⟨1,cntG key Rw [v],ByteArray.empty⟩]:=hga
  generalize cntG key Rw [v]=c at hs1 hga hpos
  have hla:List.length ((u4 key Rw).getD j default)=2:=by rw [hga];rfl
  have hlb:List.length ((kys key Rw).getD j default)=1:=by rw [hv];rfl
  have g0:List.getD ((u4 key Rw).getD j default) 0 default=v:=by rw [hga];rfl
  have g1:List.getD ((u4 key Rw).getD j default) 1 default=⟨1,c,ByteArray.empty⟩:=by rw [hga];rfl
  have k0:List.getD ((kys key Rw).getD j default) 0 default=v:=by rw [hv];rfl
  have hsame:wF v v=true:=by simp [wF]
  refine ⟨by omega,?_⟩
  refine za (fun q=>absurd q (by rw [hla];decide)) (fun _=>?_)
  refine ⟨by omega,?_⟩
  refine za (fun q=>absurd q (by rw [hlb];decide)) (fun _=>?_)
  refine ⟨by omega,by omega,by omega,by omega,?_⟩
  rw [g0,k0]
  refine ze [[0,0,0],[0,0,0]] [] (c_rsame v v) ?_
  simp -implicitDefEqProofs only [hsame,↓zb,push_cast,simprocAttr,tte]
  have g2:(⟨1,(c:Int),ByteArray.empty⟩:Val).num=(c:Int):=rfl
  have hwc:IntKind.i64.wrap ((ke key Rw j:Int)+(c:Int))=(ke key Rw (j+1):Int):=by rw [zm (by omega) (by omega)];omega
  rw [g1,g2,hwc]
  refine ⟨by omega,by omega,zf (by kernel_rfl),?_⟩
  refine za (fun q=>absurd (of_decide_eq_true q) (by omega)) (fun _=>?_)
  refine ⟨by omega,by omega,?_⟩
  exact zq hI2 (j+1) h' (by show (kys key Rw).length-(j+1)<(kys key Rw).length-j;omega) (Weak.keepL (by simp [hw,ends]) (by simp [vT,ends]) (by simp [ends]))
 obtain rfl:j=(kys key Rw).length:=by have:=of_decide_eq_false h;omega
 refine ze [[6],[0]] [] (c_rfind s (s.getD n default).name (by omega)) ?_
 rw [hb]
 have hn1:(if 0>(n:Int) then (0:Int) else n)=n:=if_neg (by omega)
 simp -implicitDefEqProofs only [zY,hn1,↓zb,push_cast,simprocAttr,tte]
 refine ⟨by omega,?_⟩
 exact zi trivial (by rw [<-hr,hall,hR];simp) (by simp [ends])
end
section
open Go.Am
theorem ui64:Tryz.prog.underlying 3=some (.int .i64):=by kernel_rfl
theorem uint64:Tryz.prog.underlying 2=some (.int .i64):=by kernel_rfl
theorem ustr:Tryz.prog.underlying 9=some .string:=by kernel_rfl
theorem uboo:Tryz.prog.underlying 4=some .bool:=by kernel_rfl
theorem sVal:kf Tryz.prog 71 [3,2,9]=true:=by kernel_rfl
section
variable {H:Type} {enc:TypeId×Value->H} {w:World} {base:Nat} {spare:Nat->Bool} {held:Bool} {fuel:Nat} {cs:List Value} {x:DataW H×List MemPlace}
end
end
section
open Go.Am
theorem uOps:Tryz.prog.underlying 218=some (.array 29 147):=by kernel_rfl
theorem sOp:kf Tryz.prog 147 [9,3,3,3]=true:=by kernel_rfl
theorem c4o:Tryz.prog.cellsOf 147=4:=by kernel_rfl
theorem gOps : Tryz.prog.globalNamed "querylab/expression.operations" = some 1 := by kernel_rfl
theorem tOps:(Tryz.prog.globals[1]?).map (·.type)=some 218:=by kernel_rfl
def dOp {H:Type} (o:OpD):DataW H:= .agg [.lit (.string o.word.data.toList),.lit (.int .i64 o.kids),.lit (.int .i64 o.types),.lit (.int .i64 o.own)]
theorem laid_eq:(Rows.laid_querylab_expression_operations:DataW Unit)= .agg (opTab.map dOp):=by rfl
theorem crep_ops {R:Rd}: ∀(l:List OpD) (cs:List Value),cs.length=l.length * 4->(∀i (hi:i<l.length),crep R (rOp l[i]) ((cs.drop (i * 4)).take 4))->crep R (l.map rOp).flatten cs
 | [],cs,hl,_=>by
   have:cs=[]:=List.eq_nil_of_length_eq_zero (by simpa using hl)
   rw [this];trivial
 | o::l,cs,hl,h=>by
   have h0:=h 0 (by simp)
   match cs,hl with
   | a::b::c::d::cs,hl=>
     simp at h0
     refine ⟨h0.1,h0.2.1,h0.2.2.1,h0.2.2.2.1,crep_ops l cs (by simp at hl;omega) fun i hi=>?_⟩
     have:=h (i+1) (by simpa using hi)
     rw [show (i+1) * 4=i * 4+1+1+1+1 by omega] at this
     simpa only [List.drop_succ_cons,List.getElem_cons_succ] using this
   | [],hl=>simp at hl
   | [_],hl=>simp at hl;omega
   | [_,_],hl=>simp at hl;omega
   | [_,_,_],hl=>simp at hl;omega
theorem qj {H:Type} {enc:TypeId×Value->H} {P:Program} {w:World} {base:Nat} {spare:Nat->Bool} {held:Bool} {t:TypeId} {fuel:Nat} {cs:List Value} {x:DataW H×List MemPlace} (tys:List TypeId)
 (hs:kf P t tys=true) (h:DataW.trod enc P w base spare held fuel t cs=some x): ∃(n:Nat) (xs:List (DataW H×List MemPlace)),x.1= .agg (xs.map (·.1))/\xs.length=tys.length/\cs.length=tys.length/\ ∀(i:Nat) (u:TypeId),tys[i]? =some u-> ∃c,cs[i]? =some c/\DataW.trod enc P w base spare held n u [c]=xs[i]? :=by
 unfold kf at hs
 split at hs
 ·rename_i fs hu
  simp only [Bool.and_eq_true,beq_iff_eq] at hs
  obtain ⟨⟨h1,h2⟩,h3⟩:=hs
  obtain ⟨xs,n,hn,hx,hl,hxl,hf⟩:=DataW.trod_struct hu h
  rw [h2] at hl
  refine ⟨n,xs,by rw [hx],by rw [hxl,<-h1];simp,by rw [hl,<-h1];simp,fun i u hi=>?_⟩
  rw [<-h1,List.getElem?_map,Option.map_eq_some_iff] at hi
  obtain ⟨f,hf1,rfl⟩:=hi
  have hf2:fs[i]? =some f:=by simpa using hf1
  have hlt:i<fs.size:=(Array.getElem?_eq_some_iff.1 hf2).1
  have g1:=List.all_eq_true.1 h3 i (by simpa using hlt)
  rw [hf2] at g1
  simp only [Bool.and_eq_true,beq_iff_eq] at g1
  have g2:=hf i f hf2
  rw [g1.1,g1.2,List.drop_eq_getElem_cons (by omega),List.take_succ_cons,List.take_zero] at g2
  exact ⟨cs[i],List.getElem?_eq_getElem (by omega),g2⟩
 ·cases hs
theorem crep_4 {R:Rd} {a b c d:D} {c0 c1 c2 c3:Value} {cs:List Value} (hl:cs.length=4) (e0:cs[0]? =some c0) (e1:cs[1]? =some c1) (e2:cs[2]? =some c2) (e3:cs[3]? =some c3) (r0:crep R [a] [c0]) (r1:crep R [b] [c1]) (r2:crep R [c] [c2]) (r3:crep R [d] [c3]):crep R [a,b,c,d] cs:=by
 match cs,hl with
 | [x,y,z,u],_=>simp at e0 e1 e2 e3;subst e0;subst e1;subst e2;subst e3;exact ⟨r0.1,r1.1,r2.1,r3.1,trivial⟩
theorem op_of {R:Rd} {w:World} {base:Nat} {spare:Nat->Bool} {held:Bool} {fuel:Nat} {cs:List Value} {p:List MemPlace} {o:OpD} (h:DataW.trod (fun _=>()) Tryz.prog w base spare held fuel 147 cs=some (dOp o,p)):crep R (rOp o) cs:=by
 obtain ⟨n,xs,hx,hxl,hl,hf⟩:=qj _ sOp h
 obtain ⟨c0,e0,h0⟩:=hf 0 _ rfl
 obtain ⟨c1,e1,h1⟩:=hf 1 _ rfl
 obtain ⟨c2,e2,h2⟩:=hf 2 _ rfl
 obtain ⟨c3,e3,h3⟩:=hf 3 _ rfl
 match xs,hxl with
 | [y0,y1,y2,y3],_=>
   simp only [dOp,List.map_cons,List.map_nil,DataW.agg.injEq,List.cons.injEq,and_true] at hx
   obtain ⟨q0,q1,q2,q3⟩:=hx
   obtain ⟨s,g0,k0,_⟩:=DataW.trod_string ustr (show _=some y0 from h0)
   obtain ⟨m1,g1,k1,_⟩:=DataW.trod_int ui64 (show _=some y1 from h1)
   obtain ⟨m2,g2,k2,_⟩:=DataW.trod_int ui64 (show _=some y2 from h2)
   obtain ⟨m3,g3,k3,_⟩:=DataW.trod_int ui64 (show _=some y3 from h3)
   subst k0;subst k1;subst k2;subst k3
   simp only [DataW.lit.injEq,Lit.string.injEq,Lit.int.injEq,true_and] at q0 q1 q2 q3
   have hs:s=o.word:=by
    apply ByteArray.ext
    exact Array.toList_inj.1 q0.symm
   simp only [List.cons.injEq,and_true] at g0 g1 g2 g3
   subst g0;subst g1;subst g2;subst g3;subst hs
   rw [rOp,q1,q2,q3]
   exact crep_4 hl e0 e1 e2 e3 ⟨⟨by simp [D.rep,Go.Am.one],rfl⟩,trivial⟩ ⟨⟨by simp [D.rep,Go.Am.one],rfl⟩,trivial⟩ ⟨⟨by simp [D.rep,Go.Am.one],rfl⟩,trivial⟩ ⟨⟨by simp [D.rep,Go.Am.one],rfl⟩,trivial⟩
theorem gNull : Tryz.prog.globalNamed "querylab/value.null" = some 2 := by kernel_rfl
theorem tNull:(Tryz.prog.globals[2]?).map (·.type)=some 71:=by kernel_rfl
def nullRow:List D:=[.lit (.int .i64 0),.lit (.int .i64 0),.lit (.string ⟨#[]⟩)]
theorem null_of {R:Rd} {w:World} {base:Nat} {spare:Nat->Bool} {held:Bool} {fuel:Nat} {cs:List Value} {p:List MemPlace} (h:DataW.trod (fun _=>()) Tryz.prog w base spare held fuel 71 cs=some (Rows.laid_querylab_value_null,p)):crep R nullRow cs:=by
 obtain ⟨n,xs,hx,hxl,hl,hf⟩:=qj _ sVal h
 obtain ⟨c0,e0,h0⟩:=hf 0 _ rfl
 obtain ⟨c1,e1,h1⟩:=hf 1 _ rfl
 obtain ⟨c2,e2,h2⟩:=hf 2 _ rfl
 match xs,hxl with
 | [y0,y1,y2],_=>
   simp only [Rows.laid_querylab_value_null,List.map_cons,List.map_nil,DataW.agg.injEq,List.cons.injEq,and_true] at hx
   obtain ⟨q0,q1,q2⟩:=hx
   obtain ⟨m0,g0,k0,_⟩:=DataW.trod_int ui64 (show _=some y0 from h0)
   obtain ⟨m1,g1,k1,_⟩:=DataW.trod_int uint64 (show _=some y1 from h1)
   obtain ⟨s,g2,k2,_⟩:=DataW.trod_string ustr (show _=some y2 from h2)
   subst k0;subst k1;subst k2
   simp only [DataW.lit.injEq,Lit.string.injEq,Lit.int.injEq,true_and] at q0 q1 q2
   have hs:s=⟨#[]⟩:=by
    apply ByteArray.ext
    exact Array.toList_inj.1 q2.symm
   simp only [List.cons.injEq,and_true] at g0 g1 g2
   subst g0;subst g1;subst g2;subst hs;subst q0;subst q1
   exact crep_3 hl e0 e1 e2 ⟨⟨by simp [D.rep,Go.Am.one],rfl⟩,trivial⟩ ⟨⟨by simp [D.rep,Go.Am.one],rfl⟩,trivial⟩ ⟨⟨by simp [D.rep,Go.Am.one],rfl⟩,trivial⟩
theorem crep_len {R:Rd}: ∀{row:List D} {cs:List Value},crep R row cs->row.length=cs.length
 | [],[],_=>rfl
 | _::_,_::_,h=>by simp only [List.length_cons];rw [crep_len h.2]
theorem ops_of {W:World} {cs:Array Value} {base:Nat} {spare:Nat->Bool} {held:Bool} {fuel:Nat} {p:List MemPlace} (hd0:DataW.trod (fun _=>()) Tryz.prog W base spare held fuel 218 cs.toList=some (Rows.laid_querylab_expression_operations,p)) {R:Rd}:
 crep R opRow cs.toList/\cs.toList.length=116:=by
 rw [laid_eq] at hd0
 obtain ⟨xs,m,hm,hx,hl,hn,hel⟩:=DataW.trod_array uOps hd0
 rw [c4o] at hel
 have hxs:xs.map (·.1)=opTab.map dOp:=by
  simp only [Prod.mk.injEq,DataW.agg.injEq] at hx
  exact hx.1.symm
 have hcl:cs.toList.length=opTab.length * 4:=by rw [hl];kernel_rfl
 refine ⟨crep_ops opTab cs.toList hcl fun i hi=>?_,hcl⟩
 have hi2:i<29:=hi
 have h1:=hel i hi2
 rw [List.getElem?_eq_getElem (by omega)] at h1
 have h2:(xs[i]'(by omega)).1=dOp opTab[i]:=by
  have:=congrArg (fun l=>l[i]?) hxs
  simp only [List.getElem?_map,List.getElem?_eq_getElem (show i<xs.length by omega),List.getElem?_eq_getElem hi,Option.map_some,Option.some.injEq] at this
  exact this
 obtain ⟨pp,hpp⟩: ∃pp,xs[i]'(by omega)=(dOp opTab[i],pp):=⟨(xs[i]'(by omega)).2,by rw [<-h2]⟩
 rw [hpp] at h1
 exact op_of h1
theorem uFms:Tryz.prog.underlying 191=some (.array 11 133):=by kernel_rfl
theorem sFm:kf Tryz.prog 133 [9,3,9]=true:=by kernel_rfl
theorem c3f:Tryz.prog.cellsOf 133=3:=by kernel_rfl
theorem gFms : Tryz.prog.globalNamed "querylab/algebra.forms" = some 0 := by kernel_rfl
theorem tFms:(Tryz.prog.globals[0]?).map (·.type)=some 191:=by kernel_rfl
def dFm {H:Type} (o:FmD):DataW H:= .agg [.lit (.string o.word.data.toList),.lit (.int .i64 o.kids),.lit (.string o.uses.data.toList)]
theorem laid_fm:(Rows.laid_querylab_algebra_forms:DataW Unit)= .agg (fmTab.map dFm):=by rfl
theorem crep_fms {R:Rd}: ∀(l:List FmD) (cs:List Value),cs.length=l.length * 3->(∀i (hi:i<l.length),crep R (rFm l[i]) ((cs.drop (i * 3)).take 3))->crep R (l.map rFm).flatten cs
 | [],cs,hl,_=>by
   have:cs=[]:=List.eq_nil_of_length_eq_zero (by simpa using hl)
   rw [this];trivial
 | o::l,cs,hl,h=>by
   have h0:=h 0 (by simp)
   match cs,hl with
   | a::b::c::cs,hl=>
     simp at h0
     refine ⟨h0.1,h0.2.1,h0.2.2.1,crep_fms l cs (by simp at hl;omega) fun i hi=>?_⟩
     have:=h (i+1) (by simpa using hi)
     rw [show (i+1) * 3=i * 3+1+1+1 by omega] at this
     simpa only [List.drop_succ_cons,List.getElem_cons_succ] using this
   | [],hl=>simp at hl
   | [_],hl=>simp at hl;omega
   | [_,_],hl=>simp at hl;omega
theorem fm_of {R:Rd} {w:World} {base:Nat} {spare:Nat->Bool} {held:Bool} {fuel:Nat} {cs:List Value} {p:List MemPlace} {o:FmD} (h:DataW.trod (fun _=>()) Tryz.prog w base spare held fuel 133 cs=some (dFm o,p)):crep R (rFm o) cs:=by
 obtain ⟨n,xs,hx,hxl,hl,hf⟩:=qj _ sFm h
 obtain ⟨c0,e0,h0⟩:=hf 0 _ rfl
 obtain ⟨c1,e1,h1⟩:=hf 1 _ rfl
 obtain ⟨c2,e2,h2⟩:=hf 2 _ rfl
 match xs,hxl with
 | [y0,y1,y2],_=>
   simp only [dFm,List.map_cons,List.map_nil,DataW.agg.injEq,List.cons.injEq,and_true] at hx
   obtain ⟨q0,q1,q2⟩:=hx
   obtain ⟨s0,g0,k0,_⟩:=DataW.trod_string ustr (show _=some y0 from h0)
   obtain ⟨m1,g1,k1,_⟩:=DataW.trod_int ui64 (show _=some y1 from h1)
   obtain ⟨s2,g2,k2,_⟩:=DataW.trod_string ustr (show _=some y2 from h2)
   subst k0;subst k1;subst k2
   simp only [DataW.lit.injEq,Lit.string.injEq,Lit.int.injEq,true_and] at q0 q1 q2
   have hs0:s0=o.word:=by
    apply ByteArray.ext
    exact Array.toList_inj.1 q0.symm
   have hs2:s2=o.uses:=by
    apply ByteArray.ext
    exact Array.toList_inj.1 q2.symm
   simp only [List.cons.injEq,and_true] at g0 g1 g2
   subst g0;subst g1;subst g2;subst hs0;subst hs2
   rw [rFm,q1]
   exact crep_3 hl e0 e1 e2 ⟨⟨by simp [D.rep,Go.Am.one],rfl⟩,trivial⟩ ⟨⟨by simp [D.rep,Go.Am.one],rfl⟩,trivial⟩ ⟨⟨by simp [D.rep,Go.Am.one],rfl⟩,trivial⟩
theorem fms_of {W:World} {cs:Array Value} {base:Nat} {spare:Nat->Bool} {held:Bool} {fuel:Nat} {p:List MemPlace} (hd0:DataW.trod (fun _=>()) Tryz.prog W base spare held fuel 191 cs.toList=some (Rows.laid_querylab_algebra_forms,p)) {R:Rd}:
 crep R fmRow cs.toList/\cs.toList.length=33:=by
 rw [laid_fm] at hd0
 obtain ⟨xs,m,hm,hx,hl,hn,hel⟩:=DataW.trod_array uFms hd0
 rw [c3f] at hel
 have hxs:xs.map (·.1)=fmTab.map dFm:=by
  simp only [Prod.mk.injEq,DataW.agg.injEq] at hx
  exact hx.1.symm
 have hcl:cs.toList.length=fmTab.length * 3:=by rw [hl];kernel_rfl
 refine ⟨crep_fms fmTab cs.toList hcl fun i hi=>?_,hcl⟩
 have hi2:i<11:=hi
 have h1:=hel i hi2
 rw [List.getElem?_eq_getElem (by omega)] at h1
 have h2:(xs[i]'(by omega)).1=dFm fmTab[i]:=by
  have:=congrArg (fun l=>l[i]?) hxs
  simp only [List.getElem?_map,List.getElem?_eq_getElem (show i<xs.length by omega),List.getElem?_eq_getElem hi,Option.map_some,Option.some.injEq] at this
  exact this
 obtain ⟨pp,hpp⟩: ∃pp,xs[i]'(by omega)=(dFm fmTab[i],pp):=⟨(xs[i]'(by omega)).2,by rw [<-h2]⟩
 rw [hpp] at h1
 exact fm_of h1
theorem sized_of {W:World} {n:String} {g:Nat} {cs:Array Value} (hg:Tryz.prog.globalNamed n=some g) (h:W.var? Tryz.prog n=some cs):Sized W g cs.size:=by
 simp only [World.var?,hg,Option.bind_some] at h
 split at h
 ·rename_i cs' el fl hc
  cases h
  exact ⟨_,_,_,hc,rfl⟩
 ·cases h
def laidL : List (String × DataW Unit) := [("querylab/value.null", Rows.laid_querylab_value_null), ("querylab/expression.operations", Rows.laid_querylab_expression_operations), ("querylab/algebra.forms", Rows.laid_querylab_algebra_forms)]
theorem tabs_of {W:World} (h:laidMetH Tryz.prog laidL W): ∀g row,Tab.tab g=some row->Go.Am.rowAt (E0 W).R ((E0 W).R g) 0 row/\Sized W g row.length:=by
 rw [MakeChecks.laidMetH_plain _ _ _ (by kernel_rfl)] at h
 obtain ⟨ps,⟨g0,t0,cs0,f0,p0,q0,hg0,ht0,hv0,hd0,⟨g1,t1,cs1,f1,p1,q1,hg1,ht1,hv1,hd1,⟨g2,t2,cs2,f2,p2,q2,hg2,ht2,hv2,hd2,_⟩,_⟩,_⟩,_⟩:=h
 obtain rfl:=Option.some.inj (gNull.symm.trans hg0)
 obtain rfl:=Option.some.inj (tNull.symm.trans ht0)
 obtain rfl:=Option.some.inj (gOps.symm.trans hg1)
 obtain rfl:=Option.some.inj (tOps.symm.trans ht1)
 obtain rfl:=Option.some.inj (gFms.symm.trans hg2)
 obtain rfl:=Option.some.inj (tFms.symm.trans ht2)
 have key: ∀{g:Nat} {n:String} {cs:Array Value} {row:List D},Tryz.prog.globalNamed n=some g->W.var? Tryz.prog n=some cs->crep (E0 W).R row cs.toList->cs.toList.length=row.length->Go.Am.rowAt (E0 W).R ((E0 W).R g) 0 row/\Sized W g row.length:=by
  intro g n cs row hg hv hc hl
  refine ⟨crep_rowAt 0 hc fun j u hj=>E0_cell ?_,?_⟩
  ·rw [Nat.zero_add,World.var?_cell hg hv j]
   simpa using hj
  ·have:=sized_of hg hv
   rwa [show cs.size=row.length by simpa using hl] at this
 intro g row hrow
 match g,hrow with
 | 1,h=>cases h;exact key hg1 hv1 (ops_of hd1).1 ((ops_of (R:=(E0 W).R) hd1).2.trans (by kernel_rfl))
 | 2,h=>cases h;exact key hg0 hv0 (null_of hd0) (crep_len (null_of (R:=(E0 W).R) hd0)).symm
 | 0,h=>cases h;exact key hg2 hv2 (fms_of hd2).1 ((fms_of (R:=(E0 W).R) hd2).2.trans (by kernel_rfl))
end
end Go.Proofs.YtnmibokjpedkiaaGreatDoor
