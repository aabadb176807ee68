/- Joins of two tables: a proof over an abstract machine of our own (part Wo) -/
import Derived.Test.YtnmibokjpedkiaaGreatDoorWn
import Derived.Test.YtnmibokjpedkiaaGreatDoorWp
import Derived.Test.YtnmibokjpedkiaaGreatDoorRows
import Derived.MakeChecks
import Derived.LaidLaws
import Derived.LaidMore
import Derived.Shelf.Vars
set_option maxRecDepth 100000
set_option maxHeartbeats 4000000
set_option linter.all false
namespace Go.Proofs.YtnmibokjpedkiaaGreatDoor
section
open Go.Am
attribute [local simp, local push_cast] num boo str ints aV aTab zv aS aT aC aRow rRow vecT rG
theorem c_padded (l:List Row) (n:Nat) (hl:l.length<=1000) (hr1: ∀r∈l,r.length<=1000) (hn:n<=1000):ACall Tryz.prog 24 [aTab l,num n] [] (aTab (l.map (· ++zF n))) []:=by
 refine zn mixed ttok Tryz.func24 Tryz.ntmps24 Tryz.results24 ?_
 generalize hr:aTab (l.map (· ++zF n))=R
 simp -implicitDefEqProofs only [argT,↓zb,push_cast,simprocAttr,tte]
 refine zI mixed ttok (fun i:Nat=>(⟨[(6,num i),(0,aTab l),(1,num n),(5,.vec 700 ((l.take i).map (· ++zF n)).length)],[(700,vecT ((l.take i).map (· ++zF n)))]⟩:SL)) (fun i=>l.length-i) (fun i=>i<=l.length) 0 (Nat.zero_le _) ?_ ?_
 ·exact (Weak.nilL 5 700 53 1 rfl rfl).trans (Weak.keepL (by simp [ends]) (by simp [ends]) (by simp [ends]))
 intro I hI i hi
 have hs:=fun h=>ki (fun r:Row=>r++zF n) l i h
 obtain ⟨G,hG⟩: ∃G,G=(l.take i).map (· ++zF n):=⟨_,rfl⟩
 have hGl:G.length<=i:=by rw [hG,List.length_map,List.length_take];omega
 rw [<-hG] at hs ⊢
 have hnl:=uq n
 simp -implicitDefEqProofs only [↓zb,push_cast,simprocAttr,tte]
 refine za (fun h=>?_) fun h=>?_
 ·have h':i<l.length:=by have:=of_decide_eq_true h;omega
  have hw:=zj h' (by omega)
  have hs:=hs h'
  have hr2:=hr1 _ (zk h')
  obtain ⟨r,hrr⟩: ∃r,r=l.getD i default:=⟨_,rfl⟩
  rw [<-hrr] at hs hr2 ⊢
  have hrep:(List.replicate n [D.lit (.int .i64 0),D.lit (.int .i64 0),D.lit (.string ByteArray.empty)]).length=n:=List.length_replicate
  have hrl:(zd rV r).length=r.length:=zc _ _
  have hrows:zd rRow G++[[D.sl 3 (zd rV r++zd rV (zF n))]]=zd rRow (G++[r++zF n]):=by rw [zh rV];exact zh rRow G [r++zF n]
  have hlen1:G.length+1=(G++[r++zF n]).length:=by rw [List.length_append];rfl
  refine ⟨by omega,by omega,⟨⟨by omega,by omega⟩,by rw [hrep];omega⟩,by rw [List.length_append,hrl],by omega,?_⟩
  refine zm hI (i+1) h' (by show l.length-(i+1)<l.length-i;omega) ?_
  rw [xO,hrows,hlen1,hs]
  exact Weak.keepL (by simp [hw,ends]) (by simp [ends]) (by simp [ends])
 obtain rfl:i=l.length:=by have:=of_decide_eq_false h;omega
 rw [List.take_length] at hG
 subst hG
 refine zu [1] rfl (by simp) (by simp [zc]<;>omega) ?_ (by first | rfl | simp [ends] | (subst_vars;simp [ends])) (by simp [ends]) (by simp [ends])
 exact hr
theorem c_equalT (l:List Row) (hl:l.length<=1000000) (hr1: ∀r∈l,r.length<=1000):ACall Tryz.prog 14 [aTab l,aTab l] [] (boo true) []:=by
 refine zn mixed ttok Tryz.func14 Tryz.ntmps14 Tryz.results14 ?_
 generalize hr:boo true=R
 simp -implicitDefEqProofs only [argT,↓zb,push_cast,simprocAttr,tte]
 refine zI mixed ttok (fun i:Nat=>(⟨[(5,num i),(0,aTab l),(1,aTab l)],[]⟩:SL)) (fun i=>l.length-i) (fun i=>i<=l.length) 0 (Nat.zero_le _) ?_ ?_
 ·exact Weak.keepL (by simp [ends]) (by simp [ends]) (by simp [ends])
 intro I hI i hi
 simp -implicitDefEqProofs only [↓zb,push_cast,simprocAttr,tte]
 refine za (fun h=>?_) fun h=>?_
 ·have h':i<l.length:=by have:=of_decide_eq_true h;omega
  have hw:=zj h' (by omega)
  have hr2:=hr1 _ (zk h')
  refine ⟨by omega,by omega,?_⟩
  refine ze [[3],[3]] [] (ju (l.getD i default) (l.getD i default) (by omega)) ?_
  rw [yI]
  simp -implicitDefEqProofs only [↓zb,push_cast,simprocAttr,tte]
  refine ⟨zf (by kernel_rfl),?_⟩
  exact zm hI (i+1) h' (by show l.length-(i+1)<l.length-i;omega) (Weak.keepL (by simp [hw,ends]) (by simp [ends]) (by simp [ends]))
 exact zi trivial hr (by simp [ends])
theorem c_containsT (a b:List Row) (hl:a.length<=100000) (hm:b.length<=100000) (ha: ∀r∈a,r.length<=1000) (hb: ∀r∈b,r.length<=1000) (h: ∀k,cntB k b<=cntB k a):ACall Tryz.prog 26 [aTab a,aTab b] [] (boo true) []:=by
 refine zn mixed ttok Tryz.func26 Tryz.ntmps26 Tryz.results26 ?_
 generalize hr:boo true=R
 simp -implicitDefEqProofs only [argT,↓zb,push_cast,simprocAttr,tte]
 refine ze [[1],[1]] [] (c_groups a b hl hm ha hb) ?_
 have hg: ∀g∈grpM (srt a) (srt b),g.n<=g.m:=fun g hg=>by
  obtain ⟨h1,h2⟩:=(grp_all _ _ _ (Nat.le_refl _) (yR ordR a) (yR ordR b)).1 g hg
  rw [h1,h2,vz (zA a),vz (zA b)]
  exact h _
 have hgl:=kp _ (srt a) (srt b) (Nat.le_refl _)
 have e1:(srt a).length=a.length:=(zA a).length_eq
 have e2:(srt b).length=b.length:=(zA b).length_eq
 rw [e1,e2] at hgl
 generalize grpM (srt a) (srt b)=Gs at hg hgl ⊢
 simp -implicitDefEqProofs only [↓zb,push_cast,simprocAttr,tte]
 refine zI mixed ttok (fun i:Nat=>(⟨[(6,num i),(5,.d (.sl 3 (zd rG Gs)))],[]⟩:SL)) (fun i=>Gs.length-i) (fun i=>i<=Gs.length) 0 (Nat.zero_le _) ?_ ?_
 ·exact Weak.keepL (by simp [ends]) (by simp [ends]) (by simp [ends])
 intro I hI i hi
 simp -implicitDefEqProofs only [↓zb,push_cast,simprocAttr,tte]
 refine za (fun h=>?_) fun h=>?_
 ·have h':i<Gs.length:=by have:=of_decide_eq_true h;omega
  have hw:=zj h' (by omega)
  have hgi:=hg _ (zk h')
  refine ⟨by omega,by omega,zf (by kernel_rfl),?_⟩
  refine za (fun q=>absurd (of_decide_eq_true q) (by omega)) (fun _=>?_)
  exact zm hI (i+1) h' (by show Gs.length-(i+1)<Gs.length-i;omega) (Weak.keepL (by simp [hw,ends]) (by simp [ends]) (by simp [ends]))
 exact zi trivial hr (by simp [ends])
end
section
open Go.Am
attribute [local simp, local push_cast] num boo str ints aV aTab zv aS aT aC
theorem okV_def:okV (default:Val):=⟨⟨by decide,by decide⟩,Nat.zero_le _⟩
theorem okV_ints: ∀n∈intsL,i64 n:=by
 have: ∀n∈intsL, -9223372036854775808<=n/\n<=9223372036854775807:=by decide
 exact fun n h=>this n h
theorem okV_texts {b:ByteArray} (h:b∈textsL):b.size<=9223372036854775807:=by
 simp only [textsL,List.mem_cons,List.not_mem_nil,or_false] at h
 rcases h with rfl | rfl | rfl | rfl | rfl | rfl | rfl<;>decide
theorem okV_made (k:Int): ∀v∈y8 k,okV v:=fun v hv=>by
 unfold y8 at hv
 rcases List.mem_cons.1 hv with rfl | hv
 ·exact okV_def
 split at hv
 ·obtain ⟨n,hn,rfl⟩:=List.mem_map.1 hv
  exact ⟨okV_ints n hn,Nat.zero_le _⟩
 split at hv
 ·simp only [List.mem_cons,List.not_mem_nil,or_false] at hv
  rcases hv with rfl | rfl<;>exact ⟨⟨by decide,by decide⟩,Nat.zero_le _⟩
 split at hv
 ·obtain ⟨n,hn,rfl⟩:=List.mem_map.1 hv
  exact ⟨qi,okV_texts hn⟩
 ·cases hv
theorem okV_at {l:List Val} (h: ∀v∈l,okV v) (n:Nat):okV (l.getD n default):=by
 by_cases hn:n<l.length
 ·exact h _ (zk hn)
 ·rw [List.getD_eq_getElem?_getD,List.getElem?_eq_none (by omega)];exact okV_def
theorem okx_const {v:Val} (h:okV v) (k:Int):OkX (kD v k):=by
 unfold kD
 repeat' split
 ·exact ⟨_,h.1,Nat.zero_le _,fun k hk=>by cases hk⟩
 ·exact ⟨_,h.1,Nat.zero_le _,fun k hk=>by cases hk⟩
 ·exact ⟨_,qi,h.2,fun k hk=>by cases hk⟩
 ·exact ⟨_,qi,Nat.zero_le _,fun k hk=>by cases hk⟩
theorem pickE_okx (xs types:List Int) (k:Int) (p:Nat):OkX (wn xs types k p).1:=by
 unfold wn
 split
 ·exact ⟨_,qi,Nat.zero_le _,fun k hk=>by cases hk⟩
 ·refine okx_const ?_ _
  unfold qm
  rw [if_pos rfl]
  exact okV_at (okV_made k) _
theorem bin_okx {op:Int} {l:List Ex} (hk: ∀k∈l,OkX k):OkX (bin op l):=⟨_,qi,Nat.zero_le _,hk⟩
theorem moreM_okx {f:Int->Nat->Ex×Nat} (hf: ∀k q,OkX (f k q).1) (x:Int) (p:Nat): ∀m,∀e∈(yy f x p m).1,OkX e
 | 0=>by simp [yy]
 | m+1=>by
   intro e he
   simp only [yy,List.mem_append,List.mem_singleton] at he
   rcases he with he | rfl
   ·exact moreM_okx hf x p m e he
   ·exact hf _ _
theorem stepM_okx {xs types:List Int} {f:Int->Nat->Ex×Nat} (hf: ∀k q,OkX (f k q).1) (k:Int) (p:Nat):OkX (yf xs types f k p).1:=by
 have h1: ∀op x q,OkX (mkE op (oneM f x q)).1:=fun op x q=>bin_okx (by simp [oneM,hf])
 have h2: ∀op x q,OkX (mkE op (twoM f x q)).1:=fun op x q=>bin_okx (by simp [twoM,hf])
 have h3: ∀op x q,OkX (mkE op (yc f x q)).1:=fun op x q=>bin_okx (by simp [yc,hf])
 have h4: ∀op x q,OkX (mkE op (inE xs f x q)).1:=fun op x q=>by
  refine bin_okx ?_
  intro e he
  simp only [inE,List.mem_append] at he
  rcases he with he | he
  ·simp [twoM] at he;rcases he with rfl | rfl<;>exact hf _ _
  ·exact moreM_okx hf _ _ _ e he
 unfold yf kI
 repeat' split
 all_goals first | exact pickE_okx _ _ _ _ | exact h1 _ _ _ | exact h2 _ _ _ | exact h3 _ _ _ | exact h4 _ _ _
theorem exprM_okx (xs types:List Int): ∀(d:Nat) (k:Int) (p:Nat),OkX (xn xs types d k p).1
 | 0,k,p=>pickE_okx ..
 | 1,k,p=>pickE_okx ..
 | d+2,k,p=>stepM_okx (exprM_okx xs types (d+1)) k p
end
section
open Go.Am
attribute [local simp, local push_cast] num boo str ints aV aTab zv aS aT aC
inductive OkJ:Qr->Prop
 | mk (q:Qr) (h:q.op=1\/q.op=5) (hk: ∀k∈q.kids,OkJ k):OkJ q
theorem OkJ.one {q:Qr} (h:OkJ q):q.op=1\/q.op=5:=by cases h;assumption
theorem OkJ.kid {q k:Qr} (h:OkJ q) (hk:k∈q.kids):OkJ k:=by cases h with | mk _ _ h2=>exact h2 k hk
end
section
open Go.Am
attribute [local simp, local push_cast] num boo str ints aV aTab zv aS aT aC yu x4 xf zM zL aAgg aFm zR
theorem c_typQJ (s:Sch) (hs:SmallS s): ∀q:Qr,OkJ q->OkQ q->ACall Tryz.prog 58 [aS s,aQ q] [] (zM (typQ s q)) []:=
 kg (p:=fun q=>OkJ q->OkQ q->ACall Tryz.prog 58 [aS s,aQ q] [] (zM (typQ s q)) []) fun q ih hg ho=>by
 have hop2:=hg.one
 have hq:=ho.one
 have hkl:=hq.kids
 have hsl:=hs.len
 rw [yD]
 refine zn mixed ttok Tryz.func58 Tryz.ntmps58 Tryz.results58 ?_
 generalize hr:zM (typQ s q)=R
 simp -implicitDefEqProofs only [argT,↓zb,push_cast,simprocAttr,tte]
 refine zo mixed ttok 20 [2,3,18,19] [2,3] (by simp only [zC,ends,push_cast,simprocAttr];rfl) (by simp only [zH,zp,ends,push_cast,simprocAttr];rfl) q.kids.length (fun n=> ∀i,i<n->(typQ s (q.kids.getD i default)).2=0) (fun n=>[(6,.vec 500 n)]) (fun n=>[(500,.vec 22 1 (zd rIs (kidT s q n)) 0)]) (fun i h=>absurd h (Nat.not_lt_zero _)) ?_ ?_
 ·exact (Weak.nilL 6 500 22 1 rfl rfl).trans (Weak.keepL (by simp [cst,ends]) (by simp [cst,kidT,zd,ends]) (by simp [cst,ends]))
 intro I hI n hn hi
 have hl2:(kidT s q n).length=n:=by rw [kidT,List.length_map,List.length_take];omega
 simp -implicitDefEqProofs only [cst,↓zb,push_cast,simprocAttr,tte]
 refine za (fun h=>?_) fun h=>?_
 ·have h':n<q.kids.length:=by have:=of_decide_eq_true h;omega
  have hw:=zj h' (by omega)
  have hst:=ki (fun k=>(typQ s k).1) q.kids n h'
  have hc:=ih _ (zk h') (hg.kid (zk h')) (ho.kid (zk h'))
  rw [yD] at hc
  refine ⟨(by first | omega | trivial | (refine ⟨?_,?_⟩<;>first | omega | trivial | (refine ⟨?_,?_⟩<;>first | omega | trivial | (refine ⟨?_,?_⟩<;>first | omega | trivial | rfl)))),?_⟩
  refine ze [[6],[0,0,0,0,0,0,0,0,0,6,6,7,1,1,15]] [] (hc) ?_
  simp -implicitDefEqProofs only [zM,↓zb,push_cast,simprocAttr,tte]
  refine za (fun g=>?_) fun g=>?_
  ·have g':(typQ s (q.kids.getD n default)).2≠0:=by simpa using g
   have hf:ferr Prod.snd (q.kids.map (typQ s))=(typQ s (q.kids.getD n default)).2:=by rw [wp];exact xK _ _ n h' hi g'
   have hE:typQ s q=([],(typQ s (q.kids.getD n default)).2):=by rw [jx s q,qc,hf,if_neg g']
   rw [<-hr,hE,zM]
   refine zx [[1],[0]] rfl (by simp) (by simp [zc]<;>omega) ?_ (by first | rfl | simp [ends] | (subst_vars;simp [ends])) (by simp [ends]) (by simp [ends])
   rfl
  ·have g':(typQ s (q.kids.getD n default)).2=0:=by simpa using g
   have hk2:kidT s q (n+1)=kidT s q n++[(typQ s (q.kids.getD n default)).1]:=hst
   refine ⟨⟨hl2.symm,by rw [hl2];omega⟩,?_⟩
   exact zq hI n rfl h' (fun i h2=>if h3:i=n then by rw [h3];exact g' else hi i (by omega)) (by simp [hw,hk2,hl2,zh,ends]) (by simp [hw,hk2,hl2,zh,ends]) (by simp [hw,hk2,hl2,zh,ends]) (by simp [hw,hk2,hl2,zh,ends])
 obtain rfl:n=q.kids.length:=by have:=of_decide_eq_false h;omega
 clear hI
 have hf:ferr Prod.snd (q.kids.map (typQ s))=0:=by rw [wp];exact yT _ _ hi
 have hT:kidT s q q.kids.length=(q.kids.map (typQ s)).map Prod.fst:=by rw [kidT,List.take_length,List.map_map];rfl
 have hM:typQ s q=ownQ s q (kidT s q q.kids.length):=by rw [jx s q,qc,if_pos hf,hT]
 have hks: ∀l∈kidT s q q.kids.length,l.length<=1000:=fun l hl=>by
  simp only [kidT,List.take_length,List.mem_map] at hl
  obtain ⟨k,hk,rfl⟩:=hl
  exact ux hs k (ho.kid hk)
 rw [hM] at hr
 clear hM hT hf hi
 generalize kidT s q q.kids.length=ks at hr hks hl2 ⊢
 have hg: ∀i,(ks.getD i default).length<=1000:=fun i=>by
  by_cases h:i<ks.length
  ·exact hks _ (zk h)
  ·rw [List.getD_eq_getElem?_getD,List.getElem?_eq_none (by omega)];exact Nat.zero_le _
 rw [<-hl2]
 refine ze [[0]] [] (c_form q.op) ?_
 simp -implicitDefEqProofs only [aFm,↓zb,push_cast,simprocAttr,tte]
 unfold ownQ at hr
 refine za (fun k1=>?_) fun k1=>?_
 ·have k1':isFm q.op=false:=by simpa using k1
  rw [<-hr,if_pos (.inl k1'),zM]
  refine zx [[1],[0]] rfl (by simp) (by simp [zc]<;>omega) ?_ (by first | rfl | simp [ends] | (subst_vars;simp [ends])) (by simp [ends]) (by simp [ends])
  rfl
 have k1':isFm q.op=true:=by simpa using k1
 have hcl:=c_qclean q (yQ q.op) hq (formM_uses q.op)
 rw [yD] at hcl
 simp only [aFm] at hcl
 refine ze [[0,0,0,0,0,0,0,0,0,6,6,7,1,1,15],[0,0,0]] [] (hcl) ?_
 simp -implicitDefEqProofs only [↓zb,push_cast,simprocAttr,tte]
 refine za (fun k2=>?_) fun k2=>?_
 ·have k2':xH q (yQ q.op)=false:=by simpa using k2
  rw [<-hr,if_pos (.inr k2'),zM]
  refine zx [[1],[0]] rfl (by simp) (by simp [zc]<;>omega) ?_ (by first | rfl | simp [ends] | (subst_vars;simp [ends])) (by simp [ends]) (by simp [ends])
  rfl
 have k2': ¬(isFm q.op=false\/xH q (yQ q.op)=false):=by
  have:xH q (yQ q.op)=true:=by simpa using k2
  rw [k1',this];simp
 rw [if_neg k2'] at hr
 refine za (fun k3=>?_) fun k3=>?_
 ·have k3':(ks.length:Int)≠(yQ q.op).kids:=by simpa using k3
  rw [<-hr,if_pos k3',zM]
  refine zx [[1],[0]] rfl (by simp) (by simp [zc]<;>omega) ?_ (by first | rfl | simp [ends] | (subst_vars;simp [ends])) (by simp [ends]) (by simp [ends])
  rfl
 have k3': ¬(ks.length:Int)≠(yQ q.op).kids:=by simpa using k3
 rw [if_neg k3'] at hr
 have k3'':(ks.length:Int)=(yQ q.op).kids:=by simpa using k3
 refine za (fun o1=>?_) fun o1=>?_
 ·have o1':q.op=1:=by simpa using o1
  have hkn:(yQ q.op).kids=0:=by rw [o1'];rfl
  rw [if_pos o1'] at hr
  refine ze [[6],[0]] [] (c_find s q.table (by omega)) ?_
  have hlt:=xZ (fun t:Tbl=>t.name.toList==q.table.toList) s
  have hbd:byT s q.table=fidx (fun t:Tbl=>t.name.toList==q.table.toList) s:=rfl
  rw [<-hbd] at hlt
  generalize byT s q.table=b at hr hlt ⊢
  by_cases hb:b≥0
  ·have hb2:(if 0>b then (0:Int) else b)=b:=if_neg (by omega)
   have hb3:decide (b≥0)=true:=decide_eq_true hb
   rw [if_pos hb] at hr
   simp -implicitDefEqProofs only [zR,hb2,hb3,↓zb,push_cast,simprocAttr,tte]
   refine ⟨⟨hb,by omega⟩,?_⟩
   have hm:=zk (l:=s) (n:=b.toNat) (by omega)
   have hct:=c_types (s.getD b.toNat default) (by have:=(hs.tab _ hm).cols;omega)
   simp only [aT] at hct
   refine ze [[0,3,1,1,2,6]] [] (hct) ?_
   simp -implicitDefEqProofs only [↓zb,push_cast,simprocAttr,tte]
   rw [<-hr,zM]
   refine zx [[1],[0]] rfl (by simp) (by simp [zc]<;>omega) ?_ (by first | rfl | simp [ends] | (subst_vars;simp [ends])) (by simp [ends]) (by simp [ends])
   rfl
  ·have hb3:decide (b≥0)=false:=decide_eq_false hb
   rw [if_neg hb] at hr
   simp -implicitDefEqProofs only [zR,hb3,↓zb,push_cast,simprocAttr,tte]
   rw [<-hr,zM]
   refine zx [[1],[0]] rfl (by simp) (by simp [zc]<;>omega) ?_ (by first | rfl | simp [ends] | (subst_vars;simp [ends])) (by simp [ends]) (by simp [ends])
   rfl
 have o1': ¬q.op=1:=by simpa using o1
 rw [if_neg o1'] at hr
 refine za (fun h=>by have h:q.op=2:=(by simpa using h);exfalso;omega) (fun o2=>?_)
 have o2': ¬q.op=2:=by simpa using o2
 rw [if_neg o2'] at hr
 refine za (fun h=>by have h:q.op=3:=(by simpa using h);exfalso;omega) (fun o3=>?_)
 have o3': ¬q.op=3:=by simpa using o3
 rw [if_neg o3'] at hr
 refine za (fun h=>by have h:q.op=4:=(by simpa using h);exfalso;omega) (fun o4=>?_)
 have o4': ¬q.op=4:=by simpa using o4
 rw [if_neg o4'] at hr
 refine za (fun o5=>?_) fun o5=>?_
 ·have o5':q.op=5:=by simpa using o5
  have hkn:(yQ q.op).kids=2:=by rw [o5'];rfl
  rw [if_pos o5'] at hr
  have hk1:ks.length=2:=by omega
  refine ⟨by omega,by omega,by omega,by omega,?_⟩
  have hj:=c_join (ks.getD 0 default) (ks.getD 1 default) q (hg 0) (hg 1) hq
  rw [yD] at hj
  refine ze [[1],[1],[0,0,0,0,0,0,0,0,0,6,6,7,1,1,15]] [] (hj) ?_
  simp -implicitDefEqProofs only [zM,↓zb,push_cast,simprocAttr,tte]
  refine ⟨zf (by kernel_rfl),?_⟩
  rw [<-hr,zM]
  refine zx [[1],[0]] rfl (by simp) (by simp [zc]<;>omega) ?_ (by first | rfl | simp [ends] | (subst_vars;simp [ends])) (by simp [ends]) (by simp [ends])
  rfl
 have o5': ¬q.op=5:=by simpa using o5
 exfalso;omega
theorem c_TypeJ (s:Sch) (hs:SmallS s) (q:Qr) (hg:OkJ q) (ho:OkQ q):ACall Tryz.prog 34 [aS s,aQ q] [] (zM (we s q)) []:=by
 have h1:=c_qsize q ho
 have h2:=c_qdepth q ho
 have h3:=c_typQJ s hs q hg ho
 rw [yD] at h1 h2 h3 ⊢
 refine zn mixed ttok Tryz.func34 Tryz.ntmps34 Tryz.results34 ?_
 generalize hr:zM (we s q)=R
 unfold we at hr
 simp -implicitDefEqProofs only [argT,↓zb,push_cast,simprocAttr,tte]
 refine ze [[0,0,0,0,0,0,0,0,0,6,6,7,1,1,15]] [] (h1) ?_
 simp -implicitDefEqProofs only [↓zb,push_cast,simprocAttr,tte]
 refine za (fun k1=>?_) fun k1=>?_
 ·rw [←hr,if_pos (of_decide_eq_true k1),zM]
  refine zx [[1],[0]] rfl (by simp) (by simp [zc]<;>omega) ?_ (by first | rfl | simp [ends] | (subst_vars;simp [ends])) (by simp [ends]) (by simp [ends])
  rfl
 rw [if_neg (of_decide_eq_false k1)] at hr
 refine ze [[0,0,0,0,0,0,0,0,0,6,6,7,1,1,15]] [] (h2) ?_
 simp -implicitDefEqProofs only [↓zb,push_cast,simprocAttr,tte]
 refine za (fun k2=>?_) fun k2=>?_
 ·rw [←hr,if_pos (of_decide_eq_true k2),zM]
  refine zx [[1],[0]] rfl (by simp) (by simp [zc]<;>omega) ?_ (by first | rfl | simp [ends] | (subst_vars;simp [ends])) (by simp [ends]) (by simp [ends])
  rfl
 rw [if_neg (of_decide_eq_false k2)] at hr
 refine ze [[6],[0,0,0,0,0,0,0,0,0,6,6,7,1,1,15]] [] (h3) ?_
 simp -implicitDefEqProofs only [zM,↓zb,push_cast,simprocAttr,tte]
 rw [<-hr,zM]
 refine zx [[1],[0]] rfl (by simp) (by simp [zc]<;>omega) ?_ (by first | rfl | simp [ends] | (subst_vars;simp [ends])) (by simp [ends]) (by simp [ends])
 rfl
end
section
open Go.Am
attribute [local simp, local push_cast] num boo str ints aV aTab zv aS aT aC yu x4 xf zL aAgg
theorem c_typed4J (s:Sch) (hs:SmallS s): ∀q:Qr,OkJ q→OkQ q→ACall Tryz.prog 71 [aS s,aQ q] [] (zM (typQ s q)) []:=
 kg (p:=fun q=>OkJ q->OkQ q->ACall Tryz.prog 71 [aS s,aQ q] [] (zM (typQ s q)) []) fun q ih hg ho=>by
 have hop2:=hg.one
 have hq:=ho.one
 have hkl:=hq.kids
 have hsl:=hs.len
 rw [yD]
 refine zn mixed ttok Tryz.func71 Tryz.ntmps71 Tryz.results71 ?_
 generalize hr:zM (typQ s q)=R
 simp -implicitDefEqProofs only [argT,↓zb,push_cast,simprocAttr,tte]
 refine zo mixed ttok 7 [2,3] [2,3] (by simp only [zC,ends,push_cast,simprocAttr];rfl) (by simp only [zH,zp,ends,push_cast,simprocAttr];rfl) q.kids.length (fun n=> ∀i,i<n->(typQ s (q.kids.getD i default)).2=0) (fun n=>[(6,.vec 500 n)]) (fun n=>[(500,.vec 22 1 (zd rIs (kidT s q n)) 0)]) (fun i h=>absurd h (Nat.not_lt_zero _)) ?_ ?_
 ·exact (Weak.nilL 6 500 22 1 rfl rfl).trans (Weak.keepL (by simp [cst,ends]) (by simp [cst,kidT,zd,ends]) (by simp [cst,ends]))
 intro I hI n hn hi
 have hl2:(kidT s q n).length=n:=by rw [kidT,List.length_map,List.length_take];omega
 simp -implicitDefEqProofs only [cst,↓zb,push_cast,simprocAttr,tte]
 refine za (fun h=>?_) fun h=>?_
 ·have h':n<q.kids.length:=by have:=of_decide_eq_true h;omega
  have hw:=zj h' (by omega)
  have hst:=ki (fun k=>(typQ s k).1) q.kids n h'
  have hc:=ih _ (zk h') (hg.kid (zk h')) (ho.kid (zk h'))
  rw [yD] at hc
  refine ⟨(by first | omega | trivial | (refine ⟨?_,?_⟩<;>first | omega | trivial | (refine ⟨?_,?_⟩<;>first | omega | trivial | (refine ⟨?_,?_⟩<;>first | omega | trivial | rfl)))),?_⟩
  refine ze [[6],[0,0,0,0,0,0,0,0,0,6,6,7,1,1,15]] [] (hc) ?_
  simp -implicitDefEqProofs only [zM,↓zb,push_cast,simprocAttr,tte]
  refine ⟨zf (by kernel_rfl),?_⟩
  refine za (fun g=>?_) fun g=>?_
  ·have g':(typQ s (q.kids.getD n default)).2≠0:=by simpa using g
   have hf:ferr Prod.snd (q.kids.map (typQ s))=(typQ s (q.kids.getD n default)).2:=by rw [wp];exact xK _ _ n h' hi g'
   have hE:typQ s q=([],(typQ s (q.kids.getD n default)).2):=by rw [jx s q,qc,hf,if_neg g']
   rw [<-hr,hE,zM]
   refine zx [[1],[0]] rfl (by simp) (by simp [zc]<;>omega) ?_ (by first | rfl | simp [ends] | (subst_vars;simp [ends])) (by simp [ends]) (by simp [ends])
   rfl
  ·have g':(typQ s (q.kids.getD n default)).2=0:=by simpa using g
   have hk2:kidT s q (n+1)=kidT s q n++[(typQ s (q.kids.getD n default)).1]:=hst
   refine ⟨⟨hl2.symm,by rw [hl2];omega⟩,?_⟩
   exact zq hI n rfl h' (fun i h2=>if h3:i=n then by rw [h3];exact g' else hi i (by omega)) (by simp [hw,hk2,hl2,zh,ends]) (by simp [hw,hk2,hl2,zh,ends]) (by simp [hw,hk2,hl2,zh,ends]) (by simp [hw,hk2,hl2,zh,ends])
 obtain rfl:n=q.kids.length:=by have:=of_decide_eq_false h;omega
 clear hI
 have hf:ferr Prod.snd (q.kids.map (typQ s))=0:=by rw [wp];exact yT _ _ hi
 have hT:kidT s q q.kids.length=(q.kids.map (typQ s)).map Prod.fst:=by rw [kidT,List.take_length,List.map_map];rfl
 have hM:typQ s q=ownQ s q (kidT s q q.kids.length):=by rw [jx s q,qc,if_pos hf,hT]
 have hks: ∀l∈kidT s q q.kids.length,l.length<=1000:=fun l hl=>by
  simp only [kidT,List.take_length,List.mem_map] at hl
  obtain ⟨k,hk,rfl⟩:=hl
  exact ux hs k (ho.kid hk)
 rw [hM] at hr
 clear hM hT hf hi
 generalize kidT s q q.kids.length=ks at hr hks hl2 ⊢
 have hg: ∀i,(ks.getD i default).length<=1000:=fun i=>by
  by_cases h:i<ks.length
  ·exact hks _ (zk h)
  ·rw [List.getD_eq_getElem?_getD,List.getElem?_eq_none (by omega)];exact Nat.zero_le _
 rw [<-hl2]
 have hcp:=c_plain4 q (Nat.le_trans hq.cond.kids (by omega))
 rw [yD,plain_eq] at hcp
 refine ze [[0,0,0,0,0,0,0,0,0,6,6,7,1,1,15]] [] (hcp) ?_
 simp -implicitDefEqProofs only [↓zb,push_cast,simprocAttr,tte]
 unfold ownQ at hr
 refine za (fun k1=>?_) fun k1=>?_
 ·have k1':isFm q.op=false∨xH q (yQ q.op)=false:=by
   cases h1:isFm q.op with
   | false=>exact .inl rfl
   | true=>
     cases h2:xH q (yQ q.op) with
     | false=>exact .inr rfl
     | true=>rw [h1,h2] at k1;cases k1
  rw [<-hr,if_pos k1',zM]
  refine zx [[1],[0]] rfl (by simp) (by simp [zc]<;>omega) ?_ (by first | rfl | simp [ends] | (subst_vars;simp [ends])) (by simp [ends]) (by simp [ends])
  rfl
 have k0:(isFm q.op&&xH q (yQ q.op))=true:=by
  cases h:(isFm q.op&&xH q (yQ q.op)) with
  | true=>rfl
  | false=>rw [h] at k1;cases k1
 have k1':isFm q.op=true:=by
  cases h1:isFm q.op with
  | true=>rfl
  | false=>rw [h1] at k0;cases k0
 have k2:xH q (yQ q.op)=true:=by
  cases h1:xH q (yQ q.op) with
  | true=>rfl
  | false=>rw [h1,Bool.and_false] at k0;cases k0
 rw [if_neg (by rw [k1',k2];simp)] at hr
 refine ze [[0]] [] (c_kids4 q.op) ?_
 rw [kids_eq k1']
 simp -implicitDefEqProofs only [↓zb,push_cast,simprocAttr,tte]
 refine za (fun k3=>?_) fun k3=>?_
 ·have k3':(ks.length:Int)≠(yQ q.op).kids:=by simpa using k3
  rw [<-hr,if_pos k3',zM]
  refine zx [[1],[0]] rfl (by simp) (by simp [zc]<;>omega) ?_ (by first | rfl | simp [ends] | (subst_vars;simp [ends])) (by simp [ends]) (by simp [ends])
  rfl
 have k3': ¬(ks.length:Int)≠(yQ q.op).kids:=by simpa using k3
 rw [if_neg k3'] at hr
 have k3'':(ks.length:Int)=(yQ q.op).kids:=by simpa using k3
 refine za (fun o1=>?_) fun o1=>?_
 ·have o1':q.op=1:=by simpa using o1
  have hkn:(yQ q.op).kids=0:=by rw [o1'];rfl
  rw [if_pos o1'] at hr
  refine ze [[6],[0]] [] (gx s q.table (by omega)) ?_
  have hlt:=xZ (fun t:Tbl=>t.name.toList==q.table.toList) s
  have hbd:byT s q.table=fidx (fun t:Tbl=>t.name.toList==q.table.toList) s:=rfl
  rw [<-hbd] at hlt
  generalize byT s q.table=b at hr hlt ⊢
  by_cases hb:b≥0
  ·have hb2:(if 0>b then (0:Int) else b)=b:=if_neg (by omega)
   have hb3:decide (b≥0)=true:=decide_eq_true hb
   rw [if_pos hb] at hr
   simp -implicitDefEqProofs only [zR,hb2,hb3,↓zb,push_cast,simprocAttr,tte]
   refine ⟨⟨hb,by omega⟩,?_⟩
   have hm:=zk (l:=s) (n:=b.toNat) (by omega)
   have hct:=wu (s.getD b.toNat default) (by have:=(hs.tab _ hm).cols;omega)
   simp only [aT] at hct
   refine ze [[0,3,1,1,2,6]] [] (hct) ?_
   simp -implicitDefEqProofs only [↓zb,push_cast,simprocAttr,tte]
   rw [<-hr,zM]
   refine zx [[1],[0]] rfl (by simp) (by simp [zc]<;>omega) ?_ (by first | rfl | simp [ends] | (subst_vars;simp [ends])) (by simp [ends]) (by simp [ends])
   rfl
  ·have hb3:decide (b≥0)=false:=decide_eq_false hb
   rw [if_neg hb] at hr
   simp -implicitDefEqProofs only [zR,hb3,↓zb,push_cast,simprocAttr,tte]
   rw [<-hr,zM]
   refine zx [[1],[0]] rfl (by simp) (by simp [zc]<;>omega) ?_ (by first | rfl | simp [ends] | (subst_vars;simp [ends])) (by simp [ends]) (by simp [ends])
   rfl
 have o1': ¬q.op=1:=by simpa using o1
 rw [if_neg o1'] at hr
 refine za (fun h=>by have h:q.op=2:=(by simpa using h);exfalso;omega) (fun o2=>?_)
 have o2': ¬q.op=2:=by simpa using o2
 rw [if_neg o2'] at hr
 refine za (fun h=>by have h:q.op=3:=(by simpa using h);exfalso;omega) (fun o3=>?_)
 have o3': ¬q.op=3:=by simpa using o3
 rw [if_neg o3'] at hr
 refine za (fun h=>by have h:q.op=4:=(by simpa using h);exfalso;omega) (fun o4=>?_)
 have o4': ¬q.op=4:=by simpa using o4
 rw [if_neg o4'] at hr
 refine za (fun o5=>?_) fun o5=>?_
 ·have o5':q.op=5:=by simpa using o5
  have hkn:(yQ q.op).kids=2:=by rw [o5'];rfl
  rw [if_pos o5'] at hr
  have hk1:ks.length=2:=by omega
  refine ⟨by omega,by omega,by omega,by omega,?_⟩
  have hj:=c_join4 (ks.getD 0 default) (ks.getD 1 default) q (hg 0) (hg 1) hq
  rw [yD] at hj
  refine ze [[1],[1],[0,0,0,0,0,0,0,0,0,6,6,7,1,1,15]] [] (hj) ?_
  simp -implicitDefEqProofs only [zM,↓zb,push_cast,simprocAttr,tte]
  refine ⟨zf (by kernel_rfl),?_⟩
  rw [<-hr,zM]
  refine zx [[1],[0]] rfl (by simp) (by simp [zc]<;>omega) ?_ (by first | rfl | simp [ends] | (subst_vars;simp [ends])) (by simp [ends]) (by simp [ends])
  rfl
 have o5': ¬q.op=5:=by simpa using o5
 exfalso;omega
theorem c_Type4J (s:Sch) (hs:SmallS s) (q:Qr) (hg:OkJ q) (ho:OkQ q):ACall Tryz.prog 37 [aS s,aQ q] [] (zM (we s q)) []:=by
 have h1:=c_rqsize q ho
 have h2:=c_rqdepth q ho
 have h3:=c_typed4J s hs q hg ho
 rw [yD] at h1 h2 h3 ⊢
 refine zn mixed ttok Tryz.func37 Tryz.ntmps37 Tryz.results37 ?_
 generalize hr:zM (we s q)=R
 unfold we at hr
 simp -implicitDefEqProofs only [argT,↓zb,push_cast,simprocAttr,tte]
 refine ze [[0,0,0,0,0,0,0,0,0,6,6,7,1,1,15]] [] (h1) ?_
 simp -implicitDefEqProofs only [↓zb,push_cast,simprocAttr,tte]
 refine za (fun k1=>?_) fun k1=>?_
 ·rw [←hr,if_pos (of_decide_eq_true k1),zM]
  refine zx [[1],[0]] rfl (by simp) (by simp [zc]<;>omega) ?_ (by first | rfl | simp [ends] | (subst_vars;simp [ends])) (by simp [ends]) (by simp [ends])
  rfl
 rw [if_neg (of_decide_eq_false k1)] at hr
 refine ze [[0,0,0,0,0,0,0,0,0,6,6,7,1,1,15]] [] (h2) ?_
 simp -implicitDefEqProofs only [↓zb,push_cast,simprocAttr,tte]
 refine za (fun k2=>?_) fun k2=>?_
 ·rw [←hr,if_pos (of_decide_eq_true k2),zM]
  refine zx [[1],[0]] rfl (by simp) (by simp [zc]<;>omega) ?_ (by first | rfl | simp [ends] | (subst_vars;simp [ends])) (by simp [ends]) (by simp [ends])
  rfl
 rw [if_neg (of_decide_eq_false k2)] at hr
 unfold zM at h3 hr
 refine ze [[6],[0,0,0,0,0,0,0,0,0,6,6,7,1,1,15]] [] (h3) ?_
 simp -implicitDefEqProofs only [↓zb,push_cast,simprocAttr,tte]
 rw [<-hr]
 refine zx [[1],[0]] rfl (by simp) (by simp [zc]<;>omega) ?_ (by first | rfl | simp [ends] | (subst_vars;simp [ends])) (by simp [ends]) (by simp [ends])
 rfl
theorem c_widthJ (s:Sch) (hs:SmallS s) (q:Qr) (hg:OkJ q) (ho:OkQ q) (R:A) (hr:num ((we s q).1.length:Nat)=R):ACall Tryz.prog 75 [aS s,aQ q] [] R []:=by
 have hc:=c_Type4J s hs q hg ho
 rw [yD] at hc ⊢
 refine zn mixed ttok Tryz.func75 Tryz.ntmps75 Tryz.results75 ?_
 simp -implicitDefEqProofs only [argT,↓zb,push_cast,simprocAttr,tte]
 refine ze [[6],[0,0,0,0,0,0,0,0,0,6,6,7,1,1,15]] [] (hc) ?_
 simp -implicitDefEqProofs only [zM,↓zb,push_cast,simprocAttr,tte]
 exact zi trivial hr (by simp [ends])
end
section
open Go.Am
attribute [local simp, local push_cast] num boo str ints aV aTab zv aS aT aC aRow rRow yu x4 xf zM zL aAgg vQ vecT aRes vRes aEv vEv rRes qRes zR rTab kj
theorem c_queryJ (s:Sch) (hs:SmallS s) (i:Inst) (hi:OkI s i): ∀q:Qr,OkJ q→OkQ q→OkXQ q→(typQ s q).2=0→ACall Tryz.prog 35 [aEv s i,aQ q] [] (qRes (evQ grP s i q) (typQ s q).1.length) []:=
 kg (p:=fun q=>OkJ q->OkQ q->OkXQ q->(typQ s q).2=0->ACall Tryz.prog 35 [aEv s i,aQ q] [] (qRes (evQ grP s i q) (typQ s q).1.length) []) fun q ih hg ho hx ht=>by
 have hq:=ho.one
 have hop2:=hg.one
 have hkl:=hq.kids
 have hsl:=hs.len
 have hty:=typed_of ht
 rw [yD]
 refine enterX ttok Tryz.func35 Tryz.ntmps35 Tryz.results35 ?_
 generalize hr:qRes (evQ grP s i q) (typQ s q).1.length=R
 refine yo mixed ttok ?_
 simp -implicitDefEqProofs only [argT,aEv,↓zb,push_cast,simprocAttr,tte]
 refine yo mixed ttok ?_
 simp -implicitDefEqProofs only [↓zb,push_cast,simprocAttr,tte]
 refine yo mixed ttok ?_
 simp -implicitDefEqProofs only [↓zb,push_cast,simprocAttr,tte]
 refine zo mixed ttok 21 [2,3,4,5,19,20] [2,3,4] (by simp only [zC,ends,push_cast,simprocAttr];rfl) (by simp only [zH,zp,ends,push_cast,simprocAttr];rfl) q.kids.length (fun n=> ∀j,j<n->evQ grP s i (q.kids.getD j default)≠none) (fun n=>[(6,.vec 500 n)]) (fun n=>[(500,.vec 85 2 (zd rRes (kidR s i q n)) 0)]) (fun j h=>absurd h (Nat.not_lt_zero _)) ?_ ?_
 ·exact (Weak.nilL 6 500 85 2 rfl rfl).trans (Weak.keepL (by simp [cst,ends]) (by simp [cst,kidR,zd,ends]) (by simp [cst,ends]))
 intro I hI n hn hinv
 have hl2:(kidR s i q n).length=n:=by rw [kidR,List.length_map,List.length_take];omega
 simp -implicitDefEqProofs only [cst,↓zb,push_cast,simprocAttr,tte]
 refine za (fun h=>?_) fun h=>?_
 ·have h':n<q.kids.length:=by have:=of_decide_eq_true h;omega
  have hw:=zj h' (by omega)
  have hst:=ki (fun k=>((evQ grP s i k).getD [],(typQ s k).1.length)) q.kids n h'
  have hm:=zk h'
  have hc:=ih _ hm (hg.kid hm) (ho.kid hm) (hx.kid hm) (hty.kid _ hm)
  rw [yD] at hc
  have hbad:=allO_at (evQ grP s i) q.kids n h'
  refine ⟨(by first | omega | trivial | (refine ⟨?_,?_⟩<;>first | omega | trivial | (refine ⟨?_,?_⟩<;>first | omega | trivial | (refine ⟨?_,?_⟩<;>first | omega | trivial | rfl)))),?_⟩
  cases hv:evQ grP s i (q.kids.getD n default) with
  | none=>
    rw [hv] at hc
    have hE:evQ grP s i q=none:=by rw [jJ,hbad hv];rfl
    rw [hE] at hr
    simp only [qRes,aEv] at hc hr
    refine ze [[6,1],[0,0,0,0,0,0,0,0,0,6,6,7,1,1,15]] [] (hc) ?_
    simp -implicitDefEqProofs only [↓zb,push_cast,simprocAttr,tte]
    rw [<-hr]
    refine zx [[1,0],[0]] rfl (by simp) (by simp [zc]<;>omega) ?_ (by first | rfl | simp [ends] | (subst_vars;simp [ends])) (by simp [ends]) (by simp [ends])
    rfl
  | some rows=>
    rw [hv] at hc
    simp only [qRes,aEv] at hc
    refine ze [[6,1],[0,0,0,0,0,0,0,0,0,6,6,7,1,1,15]] [] (hc) ?_
    simp -implicitDefEqProofs only [↓zb,push_cast,simprocAttr,tte]
    have hk2:kidR s i q (n+1)=kidR s i q n++[(rows,(typQ s (q.kids.getD n default)).1.length)]:=by rw [kidR,hst,hv];rfl
    refine ⟨⟨hl2.symm,by rw [hl2];omega⟩,?_⟩
    have hrows:zd rRes (kidR s i q n)++[[D.sl 1 (zd rRow rows),D.lit (.int .i64 ((typQ s (q.kids.getD n default)).1.length:Nat))]]=zd rRes (kidR s i q (n+1)):=by rw [hk2];exact zh rRes _ [(rows,_)]
    rw [hrows]
    exact zq hI n rfl h' (fun i h2=>if h3:i=n then by rw [h3,hv];exact fun h=>by cases h else hinv i (by omega)) (by simp [hw,hl2,ends]) (by simp [hw,hl2,ends]) (by simp [hw,hl2,ends]) (by simp [hw,hl2,ends])
 obtain rfl:n=q.kids.length:=by have:=of_decide_eq_false h;omega
 clear hI
 have hsome: ∀k∈q.kids,evQ grP s i k≠none:=fun k hk=>by
  obtain ⟨j,hj,rfl⟩:=List.getElem_of_mem hk
  have:=hinv j hj
  rwa [List.getD_eq_getElem?_getD,List.getElem?_eq_getElem hj] at this
 have hE:evQ grP s i q=evOp grP s i q ((kidR s i q q.kids.length).map Prod.fst):=by
  rw [jJ,allO_get (evQ grP s i) [] q.kids hsome,kidR,List.take_length,List.map_map];rfl
 have hk: ∀j,j<q.kids.length->((kidR s i q q.kids.length).getD j default).2=(typQ s (q.kids.getD j default)).1.length/\RO (typQ s (q.kids.getD j default)).1.length ((kidR s i q q.kids.length).getD j default).1:=fun j hj=>by
  have e1:(kidR s i q q.kids.length).getD j default=((evQ grP s i (q.kids.getD j default)).getD [],(typQ s (q.kids.getD j default)).1.length):=by
   rw [kidR,List.take_length,uA _ _ _ hj]
  rw [e1]
  have hm:=zk hj
  refine ⟨rfl,?_⟩
  cases hv:evQ grP s i (q.kids.getD j default) with
  | none=>exact absurd hv (hinv j hj)
  | some rows=>exact evQ_ok grP_ok hi _ (hx.kid hm) (hty.kid _ hm) _ hv
 have hg: ∀j,((kidR s i q q.kids.length).map Prod.fst).getD j []=((kidR s i q q.kids.length).getD j default).1:=fun j=>by
  simp only [List.getD_eq_getElem?_getD,List.getElem?_map]
  cases (kidR s i q q.kids.length)[j]? <;>rfl
 rw [hE] at hr
 unfold evOp at hr
 rw [hg 0,hg 1] at hr
 clear hE hg hsome hinv
 generalize kidR s i q q.kids.length=ks at hr hk hl2 ⊢
 rw [<-hl2]
 have hkids:=hty.kids
 rw [<-hl2] at hkids hk
 obtain ⟨O,hO⟩: ∃O,O=outM grP s i q (typQ s (q.kids.getD 0 default)).1.length (typQ s (q.kids.getD 1 default)).1.length (ks.getD 0 default).1 (ks.getD 1 default).1:=⟨_,rfl⟩
 rw [<-hO] at hr
 unfold outM at hO
 refine yo mixed ttok ?_
 simp -implicitDefEqProofs only [↓zb,push_cast,simprocAttr,tte]
 have e2: ∀n:Int,(q.op==n)=true->q.op=n:=fun n h=>by simpa using h
 have n2: ∀n:Int,(q.op==n)=false-> ¬q.op=n:=fun n h=>by simpa using h
 have hw24: ∀j,j<ks.length->(typQ s (q.kids.getD j default)).1.length<=1000:=fun j hj=>ux hs _ (ho.kid (zk (by omega)))
 by_cases hbig:q.op=5/\50000<(ks.getD 0 default).1.length * (ks.getD 1 default).1.length
 ·rw [if_pos hbig] at hr
  have o5':=hbig.1
  have hkids2:ks.length=2:=by rw [hkids,if_neg (by omega),if_pos (by omega)]
  obtain ⟨b1,b2⟩:=hk 0 (by omega)
  obtain ⟨c1,c2⟩:=hk 1 (by omega)
  have b3:=b2.len
  have c3:=c2.len
  have hbig:=hbig.2
  have hmul:(ks.getD 0 default).1.length * (ks.getD 1 default).1.length<=1000 * 1000:=Nat.mul_le_mul b3 c3
  have hwm:IntKind.i64.wrap (((ks.getD 0 default).1.length:Int) * ((ks.getD 1 default).1.length:Int))=(((ks.getD 0 default).1.length * (ks.getD 1 default).1.length:Nat):Int):=by
   rw [<-Int.natCast_mul];exact zw (by omega) (by omega)
  refine jO mixed ttok ?_
  simp -implicitDefEqProofs only [o5',↓zb,push_cast,simprocAttr,tte]
  refine ⟨by omega,by omega,by omega,by omega,zf (by kernel_rfl),?_⟩
  rw [hwm]
  refine za (fun _=>?_) (fun g=>absurd (of_decide_eq_false g) (by omega))
  rw [<-hr]
  refine zx [[1,0],[0]] rfl (by simp) (by simp [zc]<;>omega) ?_ (by first | rfl | simp [ends] | (subst_vars;simp [ends])) (by simp [ends]) (by simp [ends])
  rfl
 rw [if_neg hbig] at hr
 refine kE mixed ttok (⟨[(4,.ptr 4 0),(5,num (0:Nat)),(11,.ptr 11 0)],[(4,.var [.snil,num (0:Nat)]),(11,vRes O (typQ s q).1.length)]⟩:SL) ?_ ?_
 ·simp -implicitDefEqProofs only [↓zb,push_cast,simprocAttr,tte]
  have hqr:zd xf q.rows=zd rRow q.rows:=rfl
  refine za (fun o1=>?_) fun o1=>?_
  ·have o1':=e2 _ o1
   obtain ⟨a1,a2⟩:=hty.scan o1'
   rw [if_pos o1'] at hO
   refine ze [[6],[0]] [] (c_find s q.table (by omega)) ?_
   have hlt:=xZ (fun t:Tbl=>t.name.toList==q.table.toList) s
   have hbd:byT s q.table=fidx (fun t:Tbl=>t.name.toList==q.table.toList) s:=rfl
   rw [<-hbd] at hlt
   have hil:=hi.len
   have hb2:(if 0>byT s q.table then (0:Int) else byT s q.table)=byT s q.table:=if_neg (by omega)
   generalize byT s q.table=b at hO a1 a2 hlt hb2 ⊢
   simp -implicitDefEqProofs only [zR,hb2,↓zb,push_cast,simprocAttr,tte]
   refine ⟨by omega,by omega,zf (by kernel_rfl),?_⟩
   exact Weak.keepL (by simp [ends]) (by simp [vRes,hO,a2,ends]) (by simp [ends])
  have o1':=n2 _ o1
  rw [if_neg o1'] at hO
  refine za (fun h=>absurd (e2 _ h) (by omega)) (fun o2=>?_)
  have o2':=n2 _ o2
  rw [if_neg o2'] at hO
  rw [if_neg (by omega)] at hkids
  refine za (fun h=>absurd (e2 _ h) (by omega)) (fun o3=>?_)
  have o3':=n2 _ o3
  rw [if_neg o3'] at hO
  refine za (fun h=>absurd (e2 _ h) (by omega)) (fun o4=>?_)
  have o4':=n2 _ o4
  rw [if_neg o4'] at hO
  refine za (fun o5=>?_) fun o5=>?_
  ·have o5':=e2 _ o5
   rw [if_pos o5'] at hO
   rw [if_pos (by omega)] at hkids
   obtain ⟨b1,b2⟩:=hk 0 (by omega)
   obtain ⟨c1,c2⟩:=hk 1 (by omega)
   have d1:=hw24 0 (by omega)
   have d2:=hw24 1 (by omega)
   have b3:=b2.len
   have c3:=c2.len
   obtain ⟨j1,j2,j3⟩:=hty.join o5'
   have hmul:(ks.getD 0 default).1.length * (ks.getD 1 default).1.length<=1000 * 1000:=Nat.mul_le_mul b3 c3
   have hwm:IntKind.i64.wrap (((ks.getD 0 default).1.length:Int) * ((ks.getD 1 default).1.length:Int))=(((ks.getD 0 default).1.length * (ks.getD 1 default).1.length:Nat):Int):=by
    rw [<-Int.natCast_mul];exact zw (by omega) (by omega)
   have hc:=c_joinP q hq (ks.getD 0 default).1 (ks.getD 1 default).1 (ks.getD 0 default).2 (ks.getD 1 default).2 b3 c3 (fun r h=>by rw [b2.wid r h];omega) (fun r h=>by rw [c2.wid r h];omega) (by omega) (by omega) j1
   rw [yD] at hc
   simp only [aRes] at hc
   refine ⟨by omega,by omega,by omega,by omega,?_⟩
   rw [hwm]
   refine ⟨zf (by kernel_rfl),?_⟩
   refine za (fun g=>absurd (of_decide_eq_true g) (by have:=fun h=>hbig ⟨o5',h⟩;omega)) (fun _=>?_)
   refine ⟨by omega,by omega,by omega,by omega,?_⟩
   refine ze [[0,0,0,0,0,0,0,0,0,6,6,7,1,1,15],[1,0],[1,0]] [] (hc) ?_
   simp -implicitDefEqProofs only [↓zb,push_cast,simprocAttr,tte]
   refine ⟨zf (by kernel_rfl),?_⟩
   have hw0:widK q (ks.getD 0 default).2 (ks.getD 1 default).2=(typQ s q).1.length:=by
    unfold widK
    rw [j3,b1,c1]
    by_cases h5:q.kind≥5
    ·rw [if_pos h5,if_pos (by omega)]
    ·rw [if_neg h5,if_neg (by omega)]
   rw [<-b1,<-c1] at hO
   rw [<-hO,hw0]
   exact Weak.keepL (by simp [ends]) (by simp [vRes,ends]) (by simp [ends])
  have o5':=n2 _ o5
  rw [if_neg o5'] at hO
  exact absurd hop2 (by omega)
 refine jO mixed ttok ?_
 simp -implicitDefEqProofs only [vRes,↓zb,push_cast,simprocAttr,tte]
 refine za (fun big=>?_) fun big=>?_
 ·have big':1000<O.length:=by have:=of_decide_eq_true big;omega
  rw [if_pos big'] at hr
  rw [<-hr]
  refine zx [[1,0],[0]] rfl (by simp) (by simp [zc]<;>omega) ?_ (by first | rfl | simp [ends] | (subst_vars;simp [ends])) (by simp [ends]) (by simp [ends])
  rfl
 ·have big': ¬1000<O.length:=by have:=of_decide_eq_false big;omega
  rw [if_neg big'] at hr
  rw [<-hr]
  refine zx [[1,0],[0]] rfl (by simp) (by simp [zc]<;>omega) ?_ (by first | rfl | simp [ends] | (subst_vars;simp [ends])) (by simp [ends]) (by simp [ends])
  rfl
theorem c_mevalJ (s:Sch) (hs:SmallS s) (i:Inst) (hi:SmallI i) (q:Qr) (hg:OkJ q) (ho:OkQ q) (hx:OkXQ q):
 ACall Tryz.prog 12 [aS s,zv i,aQ q] [] (kj (x7 grP s i q)) []:=by
 have hc1:=c_fits s i hs hi
 have hc2:=c_TypeJ s hs q hg ho
 have hc3:=c_queryJ s hs i
 have hok:= @jI s i
 simp only [zv] at hc1
 rw [yD] at hc2 ⊢
 refine zn mixed ttok Tryz.func12 Tryz.ntmps12 Tryz.results12 ?_
 generalize hr:kj (x7 grP s i q)=R
 unfold x7 at hr
 simp -implicitDefEqProofs only [argT,↓zb,push_cast,simprocAttr,tte]
 refine ze [[6],[1]] [] (hc1) ?_
 simp -implicitDefEqProofs only [↓zb,push_cast,simprocAttr,tte]
 refine za (fun h1=>?_) fun h1=>?_
 ·have h1':x6 s i≠0:=by simpa using h1
  rw [if_pos h1'] at hr
  rw [<-hr]
  refine zx [[1],[0]] rfl (by simp) (by simp [zc]<;>omega) ?_ (by first | rfl | simp [ends] | (subst_vars;simp [ends])) (by simp [ends]) (by simp [ends])
  rfl
 have h1':x6 s i=0:=by simpa using h1
 rw [if_neg (fun h=>h h1')] at hr
 refine ze [[6],[0,0,0,0,0,0,0,0,0,6,6,7,1,1,15]] [] (hc2) ?_
 simp -implicitDefEqProofs only [zM,↓zb,push_cast,simprocAttr,tte]
 refine za (fun h2=>?_) fun h2=>?_
 ·have h2':(we s q).2≠0:=by simpa using h2
  rw [if_pos h2'] at hr
  rw [<-hr]
  refine zx [[1],[0]] rfl (by simp) (by simp [zc]<;>omega) ?_ (by first | rfl | simp [ends] | (subst_vars;simp [ends])) (by simp [ends]) (by simp [ends])
  rfl
 have h2':(we s q).2=0:=by simpa using h2
 rw [if_neg (fun h=>h h2')] at hr
 rw [typeQ_ok h2'] at h2'
 have hI:=hok h1'
 have hc3:=hc3 hI q hg ho hx h2'
 have hev:=evQ_ok grP_ok hI q hx h2'
 have hw:=ux hs q ho
 rw [yD] at hc3
 cases hv:evQ grP s i q with
 | none=>
   rw [hv] at hc3 hr
   simp only [qRes,aEv] at hc3
   refine ze [[6,1],[0,0,0,0,0,0,0,0,0,6,6,7,1,1,15]] [] (hc3) ?_
   simp -implicitDefEqProofs only [↓zb,push_cast,simprocAttr,tte]
   rw [<-hr]
   refine zx [[1],[0]] rfl (by simp) (by simp [zc]<;>omega) ?_ (by first | rfl | simp [ends] | (subst_vars;simp [ends])) (by simp [ends]) (by simp [ends])
   rfl
 | some rows=>
   rw [hv] at hc3 hr
   have hR:=hev rows hv
   have hl:=hR.len
   simp only [qRes,aEv] at hc3
   refine ze [[6,1],[0,0,0,0,0,0,0,0,0,6,6,7,1,1,15]] [] (hc3) ?_
   simp -implicitDefEqProofs only [↓zb,push_cast,simprocAttr,tte]
   refine ze [[1]] [] (c_bcanon rows (by omega) (fun r h=>by rw [hR.wid r h];omega)) ?_
   simp -implicitDefEqProofs only [↓zb,push_cast,simprocAttr,tte]
   rw [<-hr]
   refine zx [[1],[0]] rfl (by simp) (by simp [zc]<;>omega) ?_ (by first | rfl | simp [ends] | (subst_vars;simp [ends])) (by simp [ends]) (by simp [ends])
   rfl
end
section
open Go.Am
attribute [local simp, local push_cast] num boo str ints aV aTab zv aS aT aC aRow rRow yu x4 xf zM zL aAgg vQ vecT rBo vecB zR rTab kj
theorem c_eval8J (s:Sch) (hs:SmallS s) (i:Inst) (hi:OkI s i): ∀q:Qr,OkJ q→R8 s q→OkQ q→OkXQ q→(typQ s q).2=0→ACall Tryz.prog 38 [aS s,zv i,aQ q] [] (.tup [aTab (evR s i q).1,boo (evR s i q).2]) []:=
 kg (p:=fun q=>OkJ q->R8 s q->OkQ q->OkXQ q->(typQ s q).2=0->ACall Tryz.prog 38 [aS s,zv i,aQ q] [] (.tup [aTab (evR s i q).1,boo (evR s i q).2]) []) fun q ih hg h8 ho hx ht=>by
 have hq:=ho.one
 have hop2:=hg.one
 have hkl:=hq.kids
 have hsl:=hs.len
 have hty:=typed_of ht
 rw [yD]
 refine enterX ttok Tryz.func38 Tryz.ntmps38 Tryz.results38 ?_
 generalize hr:A.tup [aTab (evR s i q).1,boo (evR s i q).2]=R
 refine yo mixed ttok ?_
 simp -implicitDefEqProofs only [argT,↓zb,push_cast,simprocAttr,tte]
 refine yo mixed ttok ?_
 simp -implicitDefEqProofs only [↓zb,push_cast,simprocAttr,tte]
 refine yo mixed ttok ?_
 simp -implicitDefEqProofs only [↓zb,push_cast,simprocAttr,tte]
 refine zo mixed ttok 9 [3,4,5,6,7] [3,4,5] (by simp only [zC,ends,push_cast,simprocAttr];rfl) (by simp only [zH,zp,ends,push_cast,simprocAttr];rfl) q.kids.length (fun n=> ∀j,j<n->evQ grR s i (q.kids.getD j default)≠none) (fun n=>[(8,.vec 500 n)]) (fun n=>[(500,.vec 38 1 (zd rTab (kid8 s i q n)) 0)]) (fun j h=>absurd h (Nat.not_lt_zero _)) ?_ ?_
 ·exact (Weak.nilL 8 500 38 1 rfl rfl).trans (Weak.keepL (by simp [cst,ends]) (by simp [cst,kid8,zd,ends]) (by simp [cst,ends]))
 intro I hI n hn hinv
 have hl2:(kid8 s i q n).length=n:=by rw [kid8,List.length_map,List.length_take];omega
 simp -implicitDefEqProofs only [cst,↓zb,push_cast,simprocAttr,tte]
 refine za (fun h=>?_) fun h=>?_
 ·have h':n<q.kids.length:=by have:=of_decide_eq_true h;omega
  have hw:=zj h' (by omega)
  have hst:=ki (fun k=>(evQ grR s i k).getD []) q.kids n h'
  have hm:=zk h'
  have hc:=ih _ hm (hg.kid hm) (h8.kid hm) (ho.kid hm) (hx.kid hm) (hty.kid _ hm)
  rw [yD] at hc
  simp only [zv] at hc
  have hbad:=allO_at (evQ grR s i) q.kids n h'
  have hsm:= @evR_some s i (q.kids.getD n default)
  have hno:= @evR_none s i (q.kids.getD n default)
  generalize evR s i (q.kids.getD n default)=E at hc hsm hno
  obtain ⟨rows,ok⟩:=E
  simp only at hc hsm hno
  refine ⟨(by first | omega | trivial | (refine ⟨?_,?_⟩<;>first | omega | trivial | (refine ⟨?_,?_⟩<;>first | omega | trivial | (refine ⟨?_,?_⟩<;>first | omega | trivial | rfl)))),?_⟩
  refine ze [[6],[1],[0,0,0,0,0,0,0,0,0,6,6,7,1,1,15]] [] (hc) ?_
  simp -implicitDefEqProofs only [↓zb,push_cast,simprocAttr,tte]
  cases ok with
  | false=>
    have hE:evR s i q=([],false):=by unfold evR;rw [hbad (hno rfl)]
    rw [hE] at hr
    refine ⟨zf (by kernel_rfl),?_⟩
    refine za (fun _=>?_) (fun g=>absurd g (by decide))
    rw [<-hr]
    refine zx [[1],[0]] rfl (by simp) (by simp [zc]<;>omega) ?_ (by first | rfl | simp [ends] | (subst_vars;simp [ends])) (by simp [ends]) (by simp [ends])
    rfl
  | true=>
    have hv:=hsm rfl
    have hk2:kid8 s i q (n+1)=kid8 s i q n++[rows]:=by rw [kid8,hst,hv];rfl
    have hrows:zd rTab (kid8 s i q n)++[[D.sl 1 (zd rRow rows)]]=zd rTab (kid8 s i q (n+1)):=by rw [hk2];exact zh rTab _ [rows]
    rw [hrows]
    refine ⟨zf (by kernel_rfl),?_⟩
    refine za (fun g=>absurd g (by decide)) (fun _=>?_)
    refine ⟨⟨hl2.symm,by rw [hl2];omega⟩,?_⟩
    exact zq hI n rfl h' (fun i h2=>if h3:i=n then by rw [h3,hv];exact fun h=>by cases h else hinv i (by omega)) (by simp [hw,hl2,ends]) (by simp [hw,hl2,ends]) (by simp [hw,hl2,ends]) (by simp [hw,hl2,ends])
 obtain rfl:n=q.kids.length:=by have:=of_decide_eq_false h;omega
 clear hI
 have hsome: ∀k∈q.kids,evQ grR s i k≠none:=fun k hk=>by
  obtain ⟨j,hj,rfl⟩:=List.getElem_of_mem hk
  have:=hinv j hj
  rwa [List.getD_eq_getElem?_getD,List.getElem?_eq_getElem hj] at this
 have hE:evR s i q=evOpR s i q (kid8 s i q q.kids.length):=by
  unfold evR
  rw [allO_get (evQ grR s i) [] q.kids hsome,kid8,List.take_length]
 have hk: ∀j,j<q.kids.length->RO (typQ s (q.kids.getD j default)).1.length ((kid8 s i q q.kids.length).getD j []):=fun j hj=>by
  have e1:(kid8 s i q q.kids.length).getD j []=(evQ grR s i (q.kids.getD j default)).getD []:=by
   rw [kid8,List.take_length]
   simp only [List.getD_eq_getElem?_getD,List.getElem?_map,List.getElem?_eq_getElem hj,Option.map_some,Option.getD_some]
  rw [e1]
  have hm:=zk hj
  cases hv:evQ grR s i (q.kids.getD j default) with
  | none=>exact absurd hv (hinv j hj)
  | some rows=>exact evQ_ok grR_ok hi _ (hx.kid hm) (hty.kid _ hm) _ hv
 rw [hE] at hr
 unfold evOpR at hr
 clear hE hsome hinv
 generalize kid8 s i q q.kids.length=ks at hr hk hl2 ⊢
 rw [<-hl2]
 have hkids:=hty.kids
 rw [<-hl2] at hkids hk
 obtain ⟨O,hO⟩: ∃O,O=outM grR s i q (typQ s (q.kids.getD 0 default)).1.length (typQ s (q.kids.getD 1 default)).1.length (ks.getD 0 []) (ks.getD 1 []):=⟨_,rfl⟩
 rw [<-hO] at hr
 unfold outM at hO
 refine yo mixed ttok ?_
 simp -implicitDefEqProofs only [↓zb,push_cast,simprocAttr,tte]
 have e2: ∀n:Int,(q.op==n)=true->q.op=n:=fun n h=>by simpa using h
 have n2: ∀n:Int,(q.op==n)=false-> ¬q.op=n:=fun n h=>by simpa using h
 have hw24: ∀j,j<ks.length->(typQ s (q.kids.getD j default)).1.length<=1000:=fun j hj=>ux hs _ (ho.kid (zk (by omega)))
 have hdef: ∀j,ks.getD j default=ks.getD j []:=fun _=>rfl
 by_cases hbig:q.op=5/\50000<(ks.getD 0 []).length * (ks.getD 1 []).length
 ·rw [if_pos hbig] at hr
  have o5':=hbig.1
  have hkids2:ks.length=2:=by rw [hkids,if_neg (by omega),if_pos (by omega)]
  have b2:=hk 0 (by omega)
  have c2:=hk 1 (by omega)
  have b3:=b2.len
  have c3:=c2.len
  have hbig:=hbig.2
  have hmul:(ks.getD 0 []).length * (ks.getD 1 []).length<=1000 * 1000:=Nat.mul_le_mul b3 c3
  have hwm:IntKind.i64.wrap (((ks.getD 0 []).length:Int) * ((ks.getD 1 []).length:Int))=(((ks.getD 0 []).length * (ks.getD 1 []).length:Nat):Int):=by
   rw [<-Int.natCast_mul];exact zw (by omega) (by omega)
  refine jO mixed ttok ?_
  simp -implicitDefEqProofs only [o5',hdef,↓zb,push_cast,simprocAttr,tte]
  refine ⟨by omega,by omega,by omega,by omega,zf (by kernel_rfl),?_⟩
  rw [hwm]
  refine za (fun _=>?_) (fun g=>absurd (of_decide_eq_false g) (by omega))
  rw [<-hr]
  refine zx [[1],[0]] rfl (by simp) (by simp [zc]<;>omega) ?_ (by first | rfl | simp [ends] | (subst_vars;simp [ends])) (by simp [ends]) (by simp [ends])
  rfl
 rw [if_neg hbig] at hr
 refine kE mixed ttok (⟨[(12,aTab O)],[]⟩:SL) ?_ ?_
 ·simp -implicitDefEqProofs only [hdef,↓zb,push_cast,simprocAttr,tte]
  have hqr:zd xf q.rows=zd rRow q.rows:=rfl
  refine za (fun o1=>?_) fun o1=>?_
  ·have o1':=e2 _ o1
   obtain ⟨a1,a2⟩:=hty.scan o1'
   rw [if_pos o1'] at hO
   refine ze [[6],[0]] [] (gx s q.table (by omega)) ?_
   have hlt:=xZ (fun t:Tbl=>t.name.toList==q.table.toList) s
   have hbd:byT s q.table=fidx (fun t:Tbl=>t.name.toList==q.table.toList) s:=rfl
   rw [<-hbd] at hlt
   have hil:=hi.len
   have hb2:(if 0>byT s q.table then (0:Int) else byT s q.table)=byT s q.table:=if_neg (by omega)
   generalize byT s q.table=b at hO a1 a2 hlt hb2 ⊢
   simp -implicitDefEqProofs only [zR,hb2,↓zb,push_cast,simprocAttr,tte]
   refine ⟨by omega,?_⟩
   exact Weak.keepL (by simp [hO,ends]) (by simp [ends]) (by simp [ends])
  have o1':=n2 _ o1
  rw [if_neg o1'] at hO
  refine za (fun h=>absurd (e2 _ h) (by omega)) (fun o2=>?_)
  have o2':=n2 _ o2
  rw [if_neg o2'] at hO
  rw [if_neg (by omega)] at hkids
  refine za (fun h=>absurd (e2 _ h) (by omega)) (fun o3=>?_)
  have o3':=n2 _ o3
  rw [if_neg o3'] at hO
  refine za (fun h=>absurd (e2 _ h) (by omega)) (fun o4=>?_)
  have o4':=n2 _ o4
  rw [if_neg o4'] at hO
  refine za (fun o5=>?_) fun o5=>?_
  ·have o5':=e2 _ o5
   rw [if_pos o5'] at hO
   rw [if_pos (by omega)] at hkids
   have b2:=hk 0 (by omega)
   have c2:=hk 1 (by omega)
   have d1:=hw24 0 (by omega)
   have d2:=hw24 1 (by omega)
   have b3:=b2.len
   have c3:=c2.len
   obtain ⟨j1,j2,j3⟩:=hty.join o5'
   have hmul:(ks.getD 0 []).length * (ks.getD 1 []).length<=1000 * 1000:=Nat.mul_le_mul b3 c3
   have hwm:IntKind.i64.wrap (((ks.getD 0 []).length:Int) * ((ks.getD 1 []).length:Int))=(((ks.getD 0 []).length * (ks.getD 1 []).length:Nat):Int):=by
    rw [<-Int.natCast_mul];exact zw (by omega) (by omega)
   have m0:=zk (l:=q.kids) (n:=0) (by omega)
   have m1:=zk (l:=q.kids) (n:=1) (by omega)
   have hw0:=c_widthJ s hs (q.kids.getD 0 default) (hg.kid m0) (ho.kid m0) (num ((typQ s (q.kids.getD 0 default)).1.length:Nat)) (by rw [h8.typ o5' _ m0])
   have hw1:=c_widthJ s hs (q.kids.getD 1 default) (hg.kid m1) (ho.kid m1) (num ((typQ s (q.kids.getD 1 default)).1.length:Nat)) (by rw [h8.typ o5' _ m1])
   rw [yD] at hw0 hw1
   have hc:=c_join8 q hq (ks.getD 0 []) (ks.getD 1 []) (typQ s (q.kids.getD 0 default)).1.length (typQ s (q.kids.getD 1 default)).1.length b3 c3 (fun r h=>by rw [b2.wid r h];omega) (fun r h=>by rw [c2.wid r h];omega) (by omega) (by omega) j1
   rw [yD] at hc
   refine ⟨by omega,by omega,by omega,by omega,zf (by kernel_rfl),?_⟩
   rw [hwm]
   refine za (fun g=>absurd (of_decide_eq_true g) (by have:=fun h=>hbig ⟨o5',h⟩;omega)) (fun _=>?_)
   refine ⟨by omega,by omega,by omega,by omega,by omega,?_⟩
   refine ze [[6],[0,0,0,0,0,0,0,0,0,6,6,7,1,1,15]] [] (hw0) ?_
   simp -implicitDefEqProofs only [↓zb,push_cast,simprocAttr,tte]
   refine ⟨by omega,?_⟩
   refine ze [[6],[0,0,0,0,0,0,0,0,0,6,6,7,1,1,15]] [] (hw1) ?_
   simp -implicitDefEqProofs only [↓zb,push_cast,simprocAttr,tte]
   refine ze [[0,0,0,0,0,0,0,0,0,6,6,7,1,1,15],[1],[1],[],[]] [] (hc) ?_
   simp -implicitDefEqProofs only [↓zb,push_cast,simprocAttr,tte]
   refine ⟨zf (by kernel_rfl),?_⟩
   exact Weak.keepL (by simp [hO,ends]) (by simp [ends]) (by simp [ends])
  have o5':=n2 _ o5
  rw [if_neg o5'] at hO
  exact absurd hop2 (by omega)
 refine jO mixed ttok ?_
 simp -implicitDefEqProofs only [↓zb,push_cast,simprocAttr,tte]
 rw [<-hr]
 have hle:decide ((O.length:Int)<=1000)=decide (O.length<=1000):=decide_eq_decide.2 (by omega)
 rw [<-hle]
 refine zx [[1],[0]] rfl (by simp) (by simp [zc]<;>omega) ?_ (by first | rfl | simp [ends] | (subst_vars;simp [ends])) (by simp [ends]) (by simp [ends])
 rfl
theorem c_reval8J (s:Sch) (hs:SmallS s) (i:Inst) (hi:SmallI i) (q:Qr) (hg:OkJ q) (h8:R8 s q) (ho:OkQ q) (hx:OkXQ q):
 ACall Tryz.prog 13 [aS s,zv i,aQ q] [] (kj (x7 grR s i q)) []:=by
 have hc1:=c_rfits s i hs hi
 have hc2:=c_Type4J s hs q hg ho
 have hc3:=c_eval8J s hs i
 have hok:= @jI s i
 simp only [zv] at hc1
 rw [yD] at hc2 ⊢
 refine zn mixed ttok Tryz.func13 Tryz.ntmps13 Tryz.results13 ?_
 generalize hr:kj (x7 grR s i q)=R
 unfold x7 at hr
 simp -implicitDefEqProofs only [argT,↓zb,push_cast,simprocAttr,tte]
 refine ze [[6],[1]] [] (hc1) ?_
 simp -implicitDefEqProofs only [↓zb,push_cast,simprocAttr,tte]
 refine za (fun h1=>?_) fun h1=>?_
 ·have h1':x6 s i≠0:=by simpa using h1
  rw [if_pos h1'] at hr
  rw [<-hr]
  refine zx [[1],[0]] rfl (by simp) (by simp [zc]<;>omega) ?_ (by first | rfl | simp [ends] | (subst_vars;simp [ends])) (by simp [ends]) (by simp [ends])
  rfl
 have h1':x6 s i=0:=by simpa using h1
 rw [if_neg (fun h=>h h1')] at hr
 refine ze [[6],[0,0,0,0,0,0,0,0,0,6,6,7,1,1,15]] [] (hc2) ?_
 simp -implicitDefEqProofs only [zM,↓zb,push_cast,simprocAttr,tte]
 refine za (fun h2=>?_) fun h2=>?_
 ·have h2':(we s q).2≠0:=by simpa using h2
  rw [if_pos h2'] at hr
  rw [<-hr]
  refine zx [[1],[0]] rfl (by simp) (by simp [zc]<;>omega) ?_ (by first | rfl | simp [ends] | (subst_vars;simp [ends])) (by simp [ends]) (by simp [ends])
  rfl
 have h2':(we s q).2=0:=by simpa using h2
 rw [if_neg (fun h=>h h2')] at hr
 rw [typeQ_ok h2'] at h2'
 have hI:=hok h1'
 have hc3:=hc3 hI q hg h8 ho hx h2'
 have hev:=evQ_ok grR_ok hI q hx h2'
 have hw:=ux hs q ho
 rw [yD] at hc3
 simp only [zv] at hc3
 have hsm:= @evR_some s i q
 have hno:= @evR_none s i q
 generalize evR s i q=E at hc3 hsm hno
 obtain ⟨rows,ok⟩:=E
 simp only at hc3 hsm hno
 refine ze [[6],[1],[0,0,0,0,0,0,0,0,0,6,6,7,1,1,15]] [] (hc3) ?_
 simp -implicitDefEqProofs only [↓zb,push_cast,simprocAttr,tte]
 cases ok with
 | false=>
   rw [hno rfl] at hr
   refine za (fun _=>?_) (fun g=>absurd g (by decide))
   rw [<-hr]
   refine zx [[1],[0]] rfl (by simp) (by simp [zc]<;>omega) ?_ (by first | rfl | simp [ends] | (subst_vars;simp [ends])) (by simp [ends]) (by simp [ends])
   rfl
 | true=>
   have hv:=hsm rfl
   rw [hv] at hr
   have hR:=hev rows hv
   have hl:=hR.len
   refine za (fun g=>absurd g (by decide)) (fun _=>?_)
   refine ze [[1]] [] (c_rcanon rows (by omega) (fun r h=>by rw [hR.wid r h];omega)) ?_
   simp -implicitDefEqProofs only [↓zb,push_cast,simprocAttr,tte]
   rw [<-hr]
   refine zx [[1],[0]] rfl (by simp) (by simp [zc]<;>omega) ?_ (by first | rfl | simp [ends] | (subst_vars;simp [ends])) (by simp [ends]) (by simp [ends])
   rfl
end
section
open Go.Am
attribute [local simp, local push_cast] num boo str ints aV aTab zv aS aT aC aRow rRow rTab vT zR yi yu x4 xf rE zM kj
theorem c_schema0j {xs:List Int} (hx:ub xs):
 ACall Tryz.prog 9 [.ptr 1000 0] [(1000,.var [.d (.sl 1 (zd rI xs)),.d (.lit (.int .i64 0))])] (aS (xl xs 0).1) [(1000,yi xs (xl xs 0).2)]:=
 c_mschema (p:=0) hx (by omega)
theorem okx_zEj:OkX zE:=⟨_,⟨by decide,by decide⟩,Nat.zero_le _,fun k hk=>by cases hk⟩
theorem ok_scanj (b:ByteArray):OkQ (xe b)/\OkXQ (xe b):=
 ⟨⟨_,⟨ok_nil rfl,Nat.zero_le _,(fun e h=>by cases h),Nat.zero_le _,(fun a h=>by cases h),Nat.zero_le _,Nat.zero_le _,(fun r h=>by cases h),Nat.zero_le _⟩,fun k h=>by cases h⟩,
  ⟨_,⟨okx_zEj,(fun e h=>by cases h),(fun a h=>by cases h),(fun r h=>by cases h)⟩,fun k h=>by cases h⟩⟩
theorem ga {α:Type} {x y z:α} (h:x∈[y,z]):x=y\/x=z:=by simpa using h
theorem kN {c:Ex} (h1:Ok12 c) (h2:OkX c) (k:Int) (x y:ByteArray):OkQ (jQ k c x y)/\OkXQ (jQ k c x y):=
 ⟨⟨_,⟨h1,Nat.zero_le _,(fun e h=>by cases h),Nat.zero_le _,(fun a h=>by cases h),Nat.zero_le _,Nat.zero_le _,(fun r h=>by cases h),by show (2:Nat)≤1000;omega⟩,fun k h=>by rcases ga h with rfl | rfl<;>exact (ok_scanj _).1⟩,
  ⟨_,⟨h2,(fun e h=>by cases h),(fun a h=>by cases h),(fun r h=>by cases h)⟩,fun k h=>by rcases ga h with rfl | rfl<;>exact (ok_scanj _).2⟩⟩
theorem r8_scan (s:Sch) (b:ByteArray):R8 s (xe b):=⟨_,(fun h=>absurd h (by show¬(1:Int)=10;decide)),(fun h=>absurd h (by show¬(1:Int)=5;decide)),fun k h=>by cases h⟩
theorem typ_scanQ (s:Sch) (b:ByteArray):we s (xe b)=typQ s (xe b):=by
 unfold we
 rw [size_scan,depth_scan,if_neg (by decide),if_neg (by decide)]
theorem r8_join (s:Sch) (c:Ex) (k:Int) (x y:ByteArray):R8 s (jQ k c x y):=
 ⟨_,(fun h=>absurd h (by show¬(5:Int)=10;decide)),(fun _ k h=>by rcases ga h with rfl | rfl<;>exact typ_scanQ _ _),fun k h=>by rcases ga h with rfl | rfl<;>exact r8_scan _ _⟩
theorem j_scan (b:ByteArray):OkJ (xe b):=⟨_,.inl rfl,fun k h=>by cases h⟩
theorem j_join (c:Ex) (k:Int) (x y:ByteArray):OkJ (jQ k c x y):=⟨_,.inr rfl,fun k h=>by rcases ga h with rfl | rfl<;>exact j_scan _⟩
theorem aQ_join (k:Int) (c:Ex) (x y:ByteArray):aQ (jQ k c x y)= .agg [num 5,str ByteArray.empty,num k,boo false,num c.op,num c.type,num c.num,str c.text,num c.col,.d (.sl 6 (zd rE c.kids)),.d (.sl 6 []),.d (.sl 7 []),.d (.sl 1 []),.d (.sl 1 []),.d (.sl 15 [rQ (xe x),rQ (xe y)])]:=by
 rw [yD]
 simp [jQ,zd,Qr.op,Qr.table,Qr.kind,Qr.all,Qr.cond,Qr.exprs,Qr.aggs,Qr.types,Qr.rows,Qr.kids]
theorem rQ_scanj (b:ByteArray):rQ (xe b)=[.lit (.int .i64 1),.lit (.string b),.lit (.int .i64 0),.lit (.bool false),.lit (.int .i64 0),.lit (.int .i64 0),.lit (.int .i64 0),.lit (.string ByteArray.empty),.lit (.int .i64 0),.sl 6 [],.sl 6 [],.sl 7 [],.sl 1 [],.sl 1 [],.sl 15 []]:=by
 rw [x4]
 simp [xe,zE,zd,yM,yu,Qr.op,Qr.table,Qr.kind,Qr.all,Qr.cond,Qr.exprs,Qr.aggs,Qr.types,Qr.rows,Qr.kids,Ex.op,Ex.type,Ex.num,Ex.text,Ex.col,Ex.kids]
theorem schemaM_cols (xs:List Int) (p:Nat): ∀T∈(xl xs p).1,T.columns.length≤6:=by
 have key: ∀n,∀t∈(yP xs p n).1,t.columns.length<=6:=by
  intro n
  induction n with
  | zero=>simp [yP]
  | succ n ih=>
    intro t ht
    simp only [yP,List.mem_append,List.mem_singleton] at ht
    rcases ht with ht | rfl
    ·exact ih t ht
    ·simp only [tblM,yY]
     have h3:=zz xs (yP xs p n).2 (n:=3) (by omega)
     have:=(forM_ok xs n 2 0 (vl xs ((yP xs p n).2+1) (1+drawn xs (yP xs p n).2 3).toNat) [] ((yP xs p n).2+1+2 * (1+drawn xs (yP xs p n).2 3).toNat) (by simp)).1
     rw [kR] at this
     omega
 exact key _
def kF (f:Nat->List Row) (k:Nat):List A:=(List.range 7).map fun j=>if 1<=j/\j<=k then A.d (.sl 1 (zd rRow (f j))) else .snil
theorem cellJ_0 (f:Nat->List Row):kF f 0=[.snil,.snil,.snil,.snil,.snil,.snil,.snil]:=rfl
theorem cellJ_6 (f:Nat->List Row):kF f 6=[.snil,.d (.sl 1 (zd rRow (f 1))),.d (.sl 1 (zd rRow (f 2))),.d (.sl 1 (zd rRow (f 3))),.d (.sl 1 (zd rRow (f 4))),.d (.sl 1 (zd rRow (f 5))),.d (.sl 1 (zd rRow (f 6)))]:=rfl
theorem cellJ_set (f:Nat->List Row) {k:Nat} (h:k<6):(kF f k).set (k+1) (.d (.sl 1 (zd rRow (f (k+1)))))=kF f (k+1):=by
 have:k=0\/k=1\/k=2\/k=3\/k=4\/k=5:=by omega
 rcases this with rfl | rfl | rfl | rfl | rfl | rfl<;>rfl
theorem cellJ_closed (f:Nat->List Row) (g:Nat->Bool) {k:Nat} (h:k<=6):closedL g (kF f k)=true:=by
 have:k=0\/k=1\/k=2\/k=3\/k=4\/k=5\/k=6:=by omega
 rcases this with rfl | rfl | rfl | rfl | rfl | rfl | rfl<;>rfl
theorem cellJ_len (f:Nat->List Row) (k:Nat):(kF f k).length=7:=by simp [kF]
theorem evalQ_ro {s:Sch} (hs:SmallS s) {i:Inst} {q:Qr} (ho:OkQ q) (hx:OkXQ q) (h:(x7 grP s i q).2=0):(x7 grP s i q).1.length<=1000/\ ∀r∈(x7 grP s i q).1,r.length<=1000:=by
 unfold x7 at h ⊢
 split at h
 ·rename_i hf;exact absurd h hf
 rename_i hf
 rw [if_neg hf]
 split at h
 ·rename_i ht;exact absurd h ht
 rename_i ht
 rw [if_neg ht]
 have ht':(we s q).2=0:=by simpa using ht
 rw [typeQ_ok ht'] at ht'
 have hev:=evQ_ok grP_ok (jI (by simpa using hf:x6 s i=0)) q hx ht'
 have hw:=ux hs q ho
 cases hv:evQ grP s i q with
 | none=>rw [hv] at h;exact absurd h (by decide)
 | some rows=>
   have hR:=hev rows hv
   show (srt rows).length<=1000/\ ∀r∈srt rows,r.length<=1000
   have hp:(srt rows).Perm rows:=zA rows
   exact ⟨by rw [hp.length_eq];exact hR.len,fun r hr=>by rw [hR.wid r (hp.mem_iff.1 hr)];exact hw⟩
theorem j6_mem {c:Ex} {x y:ByteArray} {wx wy:Nat} {R S:List Row} {r:Row} (h:r∈jnM (jQ 6 c x y) wx wy R S):r∈R:=by
 rw [j6] at h
 obtain ⟨t,ht,h⟩:=List.mem_flatMap.1 h
 unfold jj at h
 split at h
 ·rw [List.mem_singleton.1 h];exact ht
 ·cases h
theorem c_lawJ (l:List Int) (hx:ub l):ACall Tryz.prog 7 [ints l] [] (boo true) []:=by
 refine zn mixed ttok Tryz.func7 Tryz.ntmps7 Tryz.results7 ?_
 generalize hr:boo true=R
 simp -implicitDefEqProofs only [argT,↓zb,push_cast,simprocAttr,tte]
 refine ze [[]] [(1000,22)] (c_schema0j hx) ?_
 have hq:=schemaM_q l
 obtain ⟨hS,hl1⟩:=schemaM_ok l 0
 have hT:=schemaM_typed l 0
 have hC:=schemaM_cols l 0
 generalize (xl l 0).1=s at hS hl1 hT hC ⊢
 generalize (xl l 0).2=q at hq ⊢
 simp -implicitDefEqProofs only [↓zb,push_cast,simprocAttr,tte]
 refine ze [[],[6],[]] [(1000,22)] (c_minst (most:=5) (p:=q) hx (by omega) (by omega) hS hT (by omega)) ?_
 have hsl:=hS.len
 have hI:=instM_small l (most:=5) (by omega) (by omega) hS q
 have hq2:(gd l 5 s q).2<=300000000:=by
  have:=instTo_q l (most:=5) (by omega) (by omega) (fun T h=>(hS.tab T h).cols) q s.length (Nat.le_refl _)
  unfold gd
  omega
 generalize (gd l 5 s q).2=q2 at hq2 ⊢
 generalize (gd l 5 s q).1=i at hI ⊢
 simp -implicitDefEqProofs only [↓zb,push_cast,simprocAttr,tte]
 refine ze [[],[]] [(1000,22)] (zX (n:=(s.length:Int)) (p:=q2) hx (by omega) (by omega) (by omega)) ?_
 have hd:=zz l q2 (n:=(s.length:Int)) (by omega)
 simp -implicitDefEqProofs only [↓zb,push_cast,simprocAttr,tte]
 generalize drawn l q2 s.length=nn at hd ⊢
 obtain ⟨n,rfl⟩: ∃n:Nat,nn=n:=⟨nn.toNat,by omega⟩
 have hn:n<s.length:=by omega
 have hxm:=zk hn
 obtain ⟨hx1,hx2⟩:=hT _ hxm
 have hxc:=hC _ hxm
 refine ⟨by omega,?_⟩
 refine ze [[],[]] [(1000,22)] (zX (n:=(s.length:Int)) (p:=q2+1) hx (by omega) (by omega) (by omega)) ?_
 have hd:=zz l (q2+1) (n:=(s.length:Int)) (by omega)
 simp -implicitDefEqProofs only [↓zb,push_cast,simprocAttr,tte]
 generalize drawn l (q2+1) s.length=mm at hd ⊢
 obtain ⟨m,rfl⟩: ∃m:Nat,mm=m:=⟨mm.toNat,by omega⟩
 have hm:m<s.length:=by omega
 have hym:=zk hm
 obtain ⟨hy1,hy2⟩:=hT _ hym
 have hyc:=hC _ hym
 refine ⟨by omega,zf (by kernel_rfl),?_⟩
 have hct:=wu (s.getD n default) (by omega)
 simp only [aT] at hct
 refine ze [[0,3,1,1,2,6]] [] (hct) ?_
 simp -implicitDefEqProofs only [↓zb,push_cast,simprocAttr,tte]
 have hct2:=wu (s.getD m default) (by omega)
 simp only [aT] at hct2
 have ltx:(zD (s.getD n default)).length<=6:=by unfold zD;rw [List.length_map];exact hxc
 have lty:(zD (s.getD m default)).length<=6:=by unfold zD;rw [List.length_map];exact hyc
 refine ⟨by omega,?_⟩
 refine ze [[0,3,1,1,2,6]] [] (hct2) ?_
 simp -implicitDefEqProofs only [↓zb,push_cast,simprocAttr,tte]
 refine ⟨by omega,?_⟩
 have hkey:ACall Tryz.prog 19 [.ptr 1000 0,ints (zD (s.getD n default)++zD (s.getD m default)),num 2,num 4] [(1000,yi l (q2+2))] (aE (xn l (zD (s.getD n default)++zD (s.getD m default)) 4 2 (q2+2)).1) [(1000,yi l (xn l (zD (s.getD n default)++zD (s.getD m default)) 4 2 (q2+2)).2)]:=
  gz hx (by rw [List.length_append];omega) 3 (by omega) 2 (q2+2) (.inr (.inl rfl)) (by have:wE (3+1)=560:=rfl;omega)
 have hok:=exprM_ok l (zD (s.getD n default)++zD (s.getD m default)) 4 2 (q2+2)
 have hoX:=exprM_okx l (zD (s.getD n default)++zD (s.getD m default)) 4 2 (q2+2)
 generalize (xn l (zD (s.getD n default)++zD (s.getD m default)) 4 2 (q2+2)).2=q3 at hkey
 generalize (xn l (zD (s.getD n default)++zD (s.getD m default)) 4 2 (q2+2)).1=key at hkey hok hoX
 simp only [xx] at hkey
 rw [zh rI]
 refine ze [[],[1],[],[]] [(1000,22)] (hkey) ?_
 simp -implicitDefEqProofs only [↓zb,push_cast,simprocAttr,tte]
 refine zI mixed ttok (fun k:Nat=>(⟨[(11,num (k+1:Nat)),(10,.ptr 10 0),(4,.ptr 4 0),(5,.ptr 5 0),(6,.ptr 6 0),(7,.ptr 7 0),(9,.ptr 9 0)],[(4,.var [.d (.sl 6 (zd rT s))]),(5,.var [.d (.sl 1 (zd rTab i))]),(6,vT (s.getD n default)),(7,vT (s.getD m default)),(9,.var [num key.op,num key.type,num key.num,str key.text,num key.col,.d (.sl 6 (zd rE key.kids))]),
  (10,.var (kF (fun j=>(x7 grP s i (jQ j key (s.getD n default).name (s.getD m default).name)).1) k))]⟩:SL)) (fun k=>6-k)
  (fun k=>k<=6/\ ∀j:Nat,1<=j->j<=k->(x7 grP s i (jQ j key (s.getD n default).name (s.getD m default).name)).2=0) 0 ⟨Nat.zero_le _,fun j h1 h2=>absurd h1 (by omega)⟩ ?_ ?_
 ·exact Weak.keepL (by simp [ends]) (by simp [vT,cellJ_0,ends]) (by simp [ends])
 intro I hI2 k ⟨hk6,hinv⟩
 have hG:=c_mevalJ s hS i hI (jQ (k+1:Nat) key (s.getD n default).name (s.getD m default).name) (j_join _ _ _ _) (kN hok hoX _ _ _).1 (kN hok hoX _ _ _).2
 have hD:=c_reval8J s hS i hI (jQ (k+1:Nat) key (s.getD n default).name (s.getD m default).name) (j_join _ _ _ _) (r8_join _ _ _ _ _) (kN hok hoX _ _ _).1 (kN hok hoX _ _ _).2
 rw [<-evalQ_PR] at hD
 rw [aQ_join,rQ_scanj,rQ_scanj] at hG hD
 simp only [zv] at hG hD
 have hlen7:=cellJ_len (fun j=>(x7 grP s i (jQ j key (s.getD n default).name (s.getD m default).name)).1) k
 have hset:=cellJ_set (fun j=>(x7 grP s i (jQ j key (s.getD n default).name (s.getD m default).name)).1) (k:=k)
 by_cases h6:k=6
 ·subst h6
  rw [cellJ_6]
  simp -implicitDefEqProofs only [vT,↓zb,push_cast,simprocAttr,tte]
  have hv: ∀j:Nat,1<=j->j<=6->x6 s i=0/\(x7 grP s i (jQ j key (s.getD n default).name (s.getD m default).name)).1=srt (jnM (jQ j key (s.getD n default).name (s.getD m default).name) (s.getD n default).columns.length (s.getD m default).columns.length (i.getD n default) (i.getD m default)):=fun j h1 h2=>join_val hn hm (hinv j h1 h2)
  have hro: ∀j:Nat,1<=j->j<=6->(srt (jnM (jQ j key (s.getD n default).name (s.getD m default).name) (s.getD n default).columns.length (s.getD m default).columns.length (i.getD n default) (i.getD m default))).length<=1000/\ ∀r∈srt (jnM (jQ j key (s.getD n default).name (s.getD m default).name) (s.getD n default).columns.length (s.getD m default).columns.length (i.getD n default) (i.getD m default)),r.length<=1000:=fun j h1 h2=>by
   rw [<-(hv j h1 h2).2]
   exact evalQ_ro hS (kN hok hoX _ _ _).1 (kN hok hoX _ _ _).2 (hinv j h1 h2)
  obtain ⟨hf,v1⟩:=hv 1 (by omega) (by omega)
  have v2:=(hv 2 (by omega) (by omega)).2
  have v3:=(hv 3 (by omega) (by omega)).2
  have v4:=(hv 4 (by omega) (by omega)).2
  have v5:=(hv 5 (by omega) (by omega)).2
  have v6:=(hv 6 (by omega) (by omega)).2
  have r1:=hro 1 (by omega) (by omega)
  have r2:=hro 2 (by omega) (by omega)
  have r3:=hro 3 (by omega) (by omega)
  have r4:=hro 4 (by omega) (by omega)
  have r6:=hro 6 (by omega) (by omega)
  have hb:=valid_byT (s:=s) (by unfold x6 at hf;split at hf<;>first | (rename_i h1;exact absurd hf h1) | (rename_i h1;simpa using h1)) hn
  have hil:=(jI hf).len
  clear hv hro hinv hI2 hset hlen7 hG hD
  have hRw:=(jI hf).tab n hn
  have m6: ∀r∈srt (jnM (jQ (6:Nat) key (s.getD n default).name (s.getD m default).name) (s.getD n default).columns.length (s.getD m default).columns.length (i.getD n default) (i.getD m default)),r.length<=6:=fun r hr=>by
   rw [hRw.wid r (j6_mem ((zA _).mem_iff.1 hr))];exact hxc
  have hun:=left_union (c:=key) (x:=(s.getD n default).name) (y:=(s.getD m default).name) (wx:=(s.getD n default).columns.length) (wy:=(s.getD m default).columns.length) (R:=i.getD n default) (S:=i.getD m default)
  have hsa:=semi_anti (c:=key) (x:=(s.getD n default).name) (y:=(s.getD m default).name) (wx:=(s.getD n default).columns.length) (wy:=(s.getD m default).columns.length) (R:=i.getD n default) (S:=i.getD m default)
  have hfl:=full_len (c:=key) (x:=(s.getD n default).name) (y:=(s.getD m default).name) (wx:=(s.getD n default).columns.length) (wy:=(s.getD m default).columns.length) (R:=i.getD n default) (S:=i.getD m default)
  have hfr:=full_right (c:=key) (x:=(s.getD n default).name) (y:=(s.getD m default).name) (wx:=(s.getD n default).columns.length) (wy:=(s.getD m default).columns.length) (R:=i.getD n default) (S:=i.getD m default)
  have hfe:=full_left (c:=key) (x:=(s.getD n default).name) (y:=(s.getD m default).name) (wx:=(s.getD n default).columns.length) (wy:=(s.getD m default).columns.length) (R:=i.getD n default) (S:=i.getD m default)
  have hLen: ∀l:List Row,(srt l).length=l.length:=fun l=>(zA l).length_eq
  have c1:((1:Nat):Int)=1:=rfl
  have c2:((2:Nat):Int)=2:=rfl
  have c3:((3:Nat):Int)=3:=rfl
  have c4:((4:Nat):Int)=4:=rfl
  have c5:((5:Nat):Int)=5:=rfl
  have c6:((6:Nat):Int)=6:=rfl
  rw [c1] at v1 r1
  rw [c2] at v2 r2
  rw [c3] at v3 r3
  rw [c4] at v4 r4
  rw [c5] at v5
  rw [c6] at v6 r6 m6
  have hnl:=uq (s.getD m default).columns.length
  rw [v1,v2,v3,v4,v5,v6]
  generalize jnM (jQ 1 key (s.getD n default).name (s.getD m default).name) (s.getD n default).columns.length (s.getD m default).columns.length (i.getD n default) (i.getD m default)=J1 at *
  generalize jnM (jQ 2 key (s.getD n default).name (s.getD m default).name) (s.getD n default).columns.length (s.getD m default).columns.length (i.getD n default) (i.getD m default)=J2 at *
  generalize jnM (jQ 3 key (s.getD n default).name (s.getD m default).name) (s.getD n default).columns.length (s.getD m default).columns.length (i.getD n default) (i.getD m default)=J3 at *
  generalize jnM (jQ 4 key (s.getD n default).name (s.getD m default).name) (s.getD n default).columns.length (s.getD m default).columns.length (i.getD n default) (i.getD m default)=J4 at *
  generalize jnM (jQ 5 key (s.getD n default).name (s.getD m default).name) (s.getD n default).columns.length (s.getD m default).columns.length (i.getD n default) (i.getD m default)=J5 at *
  generalize jnM (jQ 6 key (s.getD n default).name (s.getD m default).name) (s.getD n default).columns.length (s.getD m default).columns.length (i.getD n default) (i.getD m default)=J6 at *
  refine ze [[1],[]] [] (c_padded (srt J6) (s.getD m default).columns.length r6.1 r6.2 (by omega)) ?_
  simp -implicitDefEqProofs only [↓zb,push_cast,simprocAttr,tte]
  have hcu:=c_union (srt J1) ((srt J6).map (· ++zF (s.getD m default).columns.length)) true (by omega) (by rw [List.length_map];omega) r1.2 (fun r hr=>by
   obtain ⟨r0,h0,rfl⟩:=List.mem_map.1 hr
   have:=m6 r0 h0
   rw [List.length_append]
   omega)
  rw [hun] at hcu
  refine ze [[1],[1],[]] [] (hcu) ?_
  simp -implicitDefEqProofs only [↓zb,push_cast,simprocAttr,tte]
  refine ⟨zf (by kernel_rfl),?_⟩
  refine ze [[6],[0]] [] (gx s (s.getD n default).name (by omega)) ?_
  rw [hb]
  have hn1:(if 0>(n:Int) then (0:Int) else n)=n:=if_neg (by omega)
  simp -implicitDefEqProofs only [zR,hn1,↓zb,push_cast,simprocAttr,tte]
  refine ze [[1],[1]] [] (c_equalT (srt J2) (by omega) r2.2) ?_
  simp -implicitDefEqProofs only [↓zb,push_cast,simprocAttr,tte]
  have hRl:=hRw.len
  have l1:=hLen J1
  have l2:=hLen J2
  have l3:=hLen J3
  have l4:=hLen J4
  have l5:=hLen J5
  have l6:=hLen J6
  have w1:IntKind.i64.wrap (((srt J5).length:Int)+((srt J6).length:Int))=((i.getD n default).length:Int):=by rw [zw (by omega) (by omega)];omega
  have w2:IntKind.i64.wrap (((srt J2).length:Int)+((srt J3).length:Int))=((srt J2).length:Int)+((srt J3).length:Int):=zw (by omega) (by omega)
  have w3:IntKind.i64.wrap (((srt J2).length:Int)+((srt J3).length:Int)-((srt J1).length:Int))=((srt J4).length:Int):=by rw [zw (by omega) (by omega)];omega
  refine ⟨by omega,?_⟩
  rw [w1,w2,w3]
  refine za (fun _=>?_) (fun g=>absurd g (by simp))
  refine za (fun _=>?_) (fun g=>absurd g (by simp))
  have hc1:=c_containsT (srt J4) (srt J3) (by omega) (by omega) r4.2 r3.2 (fun k=>by rw [vz (zA J3),vz (zA J4)];exact hfr k)
  have hc2:=c_containsT (srt J4) (srt J2) (by omega) (by omega) r4.2 r2.2 (fun k=>by rw [vz (zA J2),vz (zA J4)];exact hfe k)
  refine ze [[1],[1]] [] (hc1) ?_
  simp -implicitDefEqProofs only [↓zb,push_cast,simprocAttr,tte]
  refine ze [[1],[1]] [] (hc2) ?_
  simp -implicitDefEqProofs only [↓zb,push_cast,simprocAttr,tte]
  refine ⟨zf (by kernel_rfl),?_⟩
  exact zi trivial hr (by simp [ends])
 have h6':k<6:=by omega
 have hset:=hset h6'
 generalize hC:kF (fun j=>(x7 grP s i (jQ j key (s.getD n default).name (s.getD m default).name)).1) k=C at hlen7 hset ⊢
 simp -implicitDefEqProofs only [vT,↓zb,push_cast,simprocAttr,tte]
 refine za (fun h=>?_) (fun h=>by have h:=of_decide_eq_false h;exfalso;omega)
 generalize hE:x7 grP s i (jQ (k+1:Nat) key (s.getD n default).name (s.getD m default).name)=E at hG hD hset
 refine ze [[6],[1],[0,0,0,0,0,0,0,0,0,6,6,7,1,1,15]] [] (hG) ?_
 simp -implicitDefEqProofs only [kj,↓zb,push_cast,simprocAttr,tte]
 refine ze [[6],[1],[0,0,0,0,0,0,0,0,0,6,6,7,1,1,15]] [] (hD) ?_
 simp -implicitDefEqProofs only [kj,↓zb,push_cast,simprocAttr,tte]
 refine za (fun e0=>?_) fun e0=>?_
 ·exact zi trivial hr (by simp [ends])
 have e0':E.2=0:=by simpa using e0
 have ht:((k:Int)+1).toNat * 1=k+1:=by omega
 have hw:IntKind.i64.wrap ((k:Int)+1+1)=((k+1+1:Nat):Int):=by rw [zw (by omega) (by omega)];omega
 rw [ht,hw]
 refine ⟨⟨by omega,by omega⟩,by omega,?_⟩
 refine zm hI2 (k+1) ⟨by omega,fun j h1 h2=>if h3:j=k+1 then by rw [h3,hE];exact e0' else hinv j h1 (by omega)⟩ (by show 6-(k+1)<6-k;omega) ?_
 have hcl:=fun g=>cellJ_closed (fun j=>(x7 grP s i (jQ j key (s.getD n default).name (s.getD m default).name)).1) g (k:=k+1) (by omega)
 have hput:List.take (k+1) C++A.d (D.sl 1 (zd rRow E.1))::List.drop (k+1+1) C=kF (fun j=>(x7 grP s i (jQ j key (s.getD n default).name (s.getD m default).name)).1) (k+1):=by
  rw [<-hset,List.set_eq_take_append_cons_drop,if_pos (by omega)]
 generalize kF (fun j=>(x7 grP s i (jQ j key (s.getD n default).name (s.getD m default).name)).1) (k+1)=C2 at hcl hput ⊢
 exact Weak.keepL (by simp [ends]) (by simp [vT,hput,hcl,ends]) (by simp [ends])
end
section
open Go.Am
theorem ui64:Tryz.prog.underlying 3=some (.int .i64):=by kernel_rfl
theorem uint64:Tryz.prog.underlying 2=some (.int .i64):=by kernel_rfl
theorem ustr:Tryz.prog.underlying 9=some .string:=by kernel_rfl
theorem uboo:Tryz.prog.underlying 4=some .bool:=by kernel_rfl
theorem sVal:jY Tryz.prog 71 [3,2,9]=true:=by kernel_rfl
section
variable {H:Type} {enc:TypeId×Value->H} {w:World} {base:Nat} {spare:Nat->Bool} {held:Bool} {fuel:Nat} {cs:List Value} {x:DataW H×List MemPlace}
end
end
section
open Go.Am
theorem uOps:Tryz.prog.underlying 218=some (.array 29 147):=by kernel_rfl
theorem sOp:jY Tryz.prog 147 [9,3,3,3]=true:=by kernel_rfl
theorem c4o:Tryz.prog.cellsOf 147=4:=by kernel_rfl
theorem gOps : Tryz.prog.globalNamed "querylab/expression.operations" = some 1 := by kernel_rfl
theorem tOps:(Tryz.prog.globals[1]?).map (·.type)=some 218:=by kernel_rfl
def dOp {H:Type} (o:OpD):DataW H:= .agg [.lit (.string o.word.data.toList),.lit (.int .i64 o.kids),.lit (.int .i64 o.types),.lit (.int .i64 o.own)]
theorem laid_eq:(Rows.laid_querylab_expression_operations:DataW Unit)= .agg (opTab.map dOp):=by rfl
theorem crep_ops {R:Rd}: ∀(l:List OpD) (cs:List Value),cs.length=l.length * 4->(∀i (hi:i<l.length),crep R (rOp l[i]) ((cs.drop (i * 4)).take 4))->crep R (l.map rOp).flatten cs
 | [],cs,hl,_=>by
   have:cs=[]:=List.eq_nil_of_length_eq_zero (by simpa using hl)
   rw [this];trivial
 | o::l,cs,hl,h=>by
   have h0:=h 0 (by simp)
   match cs,hl with
   | a::b::c::d::cs,hl=>
     simp at h0
     refine ⟨h0.1,h0.2.1,h0.2.2.1,h0.2.2.2.1,crep_ops l cs (by simp at hl;omega) fun i hi=>?_⟩
     have:=h (i+1) (by simpa using hi)
     rw [show (i+1) * 4=i * 4+1+1+1+1 by omega] at this
     simpa only [List.drop_succ_cons,List.getElem_cons_succ] using this
   | [],hl=>simp at hl
   | [_],hl=>simp at hl;omega
   | [_,_],hl=>simp at hl;omega
   | [_,_,_],hl=>simp at hl;omega
theorem qs {H:Type} {enc:TypeId×Value->H} {P:Program} {w:World} {base:Nat} {spare:Nat->Bool} {held:Bool} {t:TypeId} {fuel:Nat} {cs:List Value} {x:DataW H×List MemPlace} (tys:List TypeId)
 (hs:jY P t tys=true) (h:DataW.trod enc P w base spare held fuel t cs=some x): ∃(n:Nat) (xs:List (DataW H×List MemPlace)),x.1= .agg (xs.map (·.1))/\xs.length=tys.length/\cs.length=tys.length/\ ∀(i:Nat) (u:TypeId),tys[i]? =some u-> ∃c,cs[i]? =some c/\DataW.trod enc P w base spare held n u [c]=xs[i]? :=by
 unfold jY at hs
 split at hs
 ·rename_i fs hu
  simp only [Bool.and_eq_true,beq_iff_eq] at hs
  obtain ⟨⟨h1,h2⟩,h3⟩:=hs
  obtain ⟨xs,n,hn,hx,hl,hxl,hf⟩:=DataW.trod_struct hu h
  rw [h2] at hl
  refine ⟨n,xs,by rw [hx],by rw [hxl,<-h1];simp,by rw [hl,<-h1];simp,fun i u hi=>?_⟩
  rw [<-h1,List.getElem?_map,Option.map_eq_some_iff] at hi
  obtain ⟨f,hf1,rfl⟩:=hi
  have hf2:fs[i]? =some f:=by simpa using hf1
  have hlt:i<fs.size:=(Array.getElem?_eq_some_iff.1 hf2).1
  have g1:=List.all_eq_true.1 h3 i (by simpa using hlt)
  rw [hf2] at g1
  simp only [Bool.and_eq_true,beq_iff_eq] at g1
  have g2:=hf i f hf2
  rw [g1.1,g1.2,List.drop_eq_getElem_cons (by omega),List.take_succ_cons,List.take_zero] at g2
  exact ⟨cs[i],List.getElem?_eq_getElem (by omega),g2⟩
 ·cases hs
theorem crep_4 {R:Rd} {a b c d:D} {c0 c1 c2 c3:Value} {cs:List Value} (hl:cs.length=4) (e0:cs[0]? =some c0) (e1:cs[1]? =some c1) (e2:cs[2]? =some c2) (e3:cs[3]? =some c3) (r0:crep R [a] [c0]) (r1:crep R [b] [c1]) (r2:crep R [c] [c2]) (r3:crep R [d] [c3]):crep R [a,b,c,d] cs:=by
 match cs,hl with
 | [x,y,z,u],_=>simp at e0 e1 e2 e3;subst e0;subst e1;subst e2;subst e3;exact ⟨r0.1,r1.1,r2.1,r3.1,trivial⟩
theorem op_of {R:Rd} {w:World} {base:Nat} {spare:Nat->Bool} {held:Bool} {fuel:Nat} {cs:List Value} {p:List MemPlace} {o:OpD} (h:DataW.trod (fun _=>()) Tryz.prog w base spare held fuel 147 cs=some (dOp o,p)):crep R (rOp o) cs:=by
 obtain ⟨n,xs,hx,hxl,hl,hf⟩:=qs _ sOp h
 obtain ⟨c0,e0,h0⟩:=hf 0 _ rfl
 obtain ⟨c1,e1,h1⟩:=hf 1 _ rfl
 obtain ⟨c2,e2,h2⟩:=hf 2 _ rfl
 obtain ⟨c3,e3,h3⟩:=hf 3 _ rfl
 match xs,hxl with
 | [y0,y1,y2,y3],_=>
   simp only [dOp,List.map_cons,List.map_nil,DataW.agg.injEq,List.cons.injEq,and_true] at hx
   obtain ⟨q0,q1,q2,q3⟩:=hx
   obtain ⟨s,g0,k0,_⟩:=DataW.trod_string ustr (show _=some y0 from h0)
   obtain ⟨m1,g1,k1,_⟩:=DataW.trod_int ui64 (show _=some y1 from h1)
   obtain ⟨m2,g2,k2,_⟩:=DataW.trod_int ui64 (show _=some y2 from h2)
   obtain ⟨m3,g3,k3,_⟩:=DataW.trod_int ui64 (show _=some y3 from h3)
   subst k0;subst k1;subst k2;subst k3
   simp only [DataW.lit.injEq,Lit.string.injEq,Lit.int.injEq,true_and] at q0 q1 q2 q3
   have hs:s=o.word:=by
    apply ByteArray.ext
    exact Array.toList_inj.1 q0.symm
   simp only [List.cons.injEq,and_true] at g0 g1 g2 g3
   subst g0;subst g1;subst g2;subst g3;subst hs
   rw [rOp,q1,q2,q3]
   exact crep_4 hl e0 e1 e2 e3 ⟨⟨by simp [D.rep,Go.Am.one],rfl⟩,trivial⟩ ⟨⟨by simp [D.rep,Go.Am.one],rfl⟩,trivial⟩ ⟨⟨by simp [D.rep,Go.Am.one],rfl⟩,trivial⟩ ⟨⟨by simp [D.rep,Go.Am.one],rfl⟩,trivial⟩
theorem gNull : Tryz.prog.globalNamed "querylab/value.null" = some 2 := by kernel_rfl
theorem tNull:(Tryz.prog.globals[2]?).map (·.type)=some 71:=by kernel_rfl
def nullRow:List D:=[.lit (.int .i64 0),.lit (.int .i64 0),.lit (.string ⟨#[]⟩)]
theorem null_of {R:Rd} {w:World} {base:Nat} {spare:Nat->Bool} {held:Bool} {fuel:Nat} {cs:List Value} {p:List MemPlace} (h:DataW.trod (fun _=>()) Tryz.prog w base spare held fuel 71 cs=some (Rows.laid_querylab_value_null,p)):crep R nullRow cs:=by
 obtain ⟨n,xs,hx,hxl,hl,hf⟩:=qs _ sVal h
 obtain ⟨c0,e0,h0⟩:=hf 0 _ rfl
 obtain ⟨c1,e1,h1⟩:=hf 1 _ rfl
 obtain ⟨c2,e2,h2⟩:=hf 2 _ rfl
 match xs,hxl with
 | [y0,y1,y2],_=>
   simp only [Rows.laid_querylab_value_null,List.map_cons,List.map_nil,DataW.agg.injEq,List.cons.injEq,and_true] at hx
   obtain ⟨q0,q1,q2⟩:=hx
   obtain ⟨m0,g0,k0,_⟩:=DataW.trod_int ui64 (show _=some y0 from h0)
   obtain ⟨m1,g1,k1,_⟩:=DataW.trod_int uint64 (show _=some y1 from h1)
   obtain ⟨s,g2,k2,_⟩:=DataW.trod_string ustr (show _=some y2 from h2)
   subst k0;subst k1;subst k2
   simp only [DataW.lit.injEq,Lit.string.injEq,Lit.int.injEq,true_and] at q0 q1 q2
   have hs:s=⟨#[]⟩:=by
    apply ByteArray.ext
    exact Array.toList_inj.1 q2.symm
   simp only [List.cons.injEq,and_true] at g0 g1 g2
   subst g0;subst g1;subst g2;subst hs;subst q0;subst q1
   exact crep_3 hl e0 e1 e2 ⟨⟨by simp [D.rep,Go.Am.one],rfl⟩,trivial⟩ ⟨⟨by simp [D.rep,Go.Am.one],rfl⟩,trivial⟩ ⟨⟨by simp [D.rep,Go.Am.one],rfl⟩,trivial⟩
theorem crep_len {R:Rd}: ∀{row:List D} {cs:List Value},crep R row cs->row.length=cs.length
 | [],[],_=>rfl
 | _::_,_::_,h=>by simp only [List.length_cons];rw [crep_len h.2]
theorem ops_of {W:World} {cs:Array Value} {base:Nat} {spare:Nat->Bool} {held:Bool} {fuel:Nat} {p:List MemPlace} (hd0:DataW.trod (fun _=>()) Tryz.prog W base spare held fuel 218 cs.toList=some (Rows.laid_querylab_expression_operations,p)) {R:Rd}:
 crep R opRow cs.toList/\cs.toList.length=116:=by
 rw [laid_eq] at hd0
 obtain ⟨xs,m,hm,hx,hl,hn,hel⟩:=DataW.trod_array uOps hd0
 rw [c4o] at hel
 have hxs:xs.map (·.1)=opTab.map dOp:=by
  simp only [Prod.mk.injEq,DataW.agg.injEq] at hx
  exact hx.1.symm
 have hcl:cs.toList.length=opTab.length * 4:=by rw [hl];kernel_rfl
 refine ⟨crep_ops opTab cs.toList hcl fun i hi=>?_,hcl⟩
 have hi2:i<29:=hi
 have h1:=hel i hi2
 rw [List.getElem?_eq_getElem (by omega)] at h1
 have h2:(xs[i]'(by omega)).1=dOp opTab[i]:=by
  have:=congrArg (fun l=>l[i]?) hxs
  simp only [List.getElem?_map,List.getElem?_eq_getElem (show i<xs.length by omega),List.getElem?_eq_getElem hi,Option.map_some,Option.some.injEq] at this
  exact this
 obtain ⟨pp,hpp⟩: ∃pp,xs[i]'(by omega)=(dOp opTab[i],pp):=⟨(xs[i]'(by omega)).2,by rw [<-h2]⟩
 rw [hpp] at h1
 exact op_of h1
theorem uFms:Tryz.prog.underlying 191=some (.array 11 133):=by kernel_rfl
theorem sFm:jY Tryz.prog 133 [9,3,9]=true:=by kernel_rfl
theorem c3f:Tryz.prog.cellsOf 133=3:=by kernel_rfl
theorem gFms : Tryz.prog.globalNamed "querylab/algebra.forms" = some 0 := by kernel_rfl
theorem tFms:(Tryz.prog.globals[0]?).map (·.type)=some 191:=by kernel_rfl
def dFm {H:Type} (o:FmD):DataW H:= .agg [.lit (.string o.word.data.toList),.lit (.int .i64 o.kids),.lit (.string o.uses.data.toList)]
theorem laid_fm:(Rows.laid_querylab_algebra_forms:DataW Unit)= .agg (fmTab.map dFm):=by rfl
theorem crep_fms {R:Rd}: ∀(l:List FmD) (cs:List Value),cs.length=l.length * 3->(∀i (hi:i<l.length),crep R (rFm l[i]) ((cs.drop (i * 3)).take 3))->crep R (l.map rFm).flatten cs
 | [],cs,hl,_=>by
   have:cs=[]:=List.eq_nil_of_length_eq_zero (by simpa using hl)
   rw [this];trivial
 | o::l,cs,hl,h=>by
   have h0:=h 0 (by simp)
   match cs,hl with
   | a::b::c::cs,hl=>
     simp at h0
     refine ⟨h0.1,h0.2.1,h0.2.2.1,crep_fms l cs (by simp at hl;omega) fun i hi=>?_⟩
     have:=h (i+1) (by simpa using hi)
     rw [show (i+1) * 3=i * 3+1+1+1 by omega] at this
     simpa only [List.drop_succ_cons,List.getElem_cons_succ] using this
   | [],hl=>simp at hl
   | [_],hl=>simp at hl;omega
   | [_,_],hl=>simp at hl;omega
theorem fm_of {R:Rd} {w:World} {base:Nat} {spare:Nat->Bool} {held:Bool} {fuel:Nat} {cs:List Value} {p:List MemPlace} {o:FmD} (h:DataW.trod (fun _=>()) Tryz.prog w base spare held fuel 133 cs=some (dFm o,p)):crep R (rFm o) cs:=by
 obtain ⟨n,xs,hx,hxl,hl,hf⟩:=qs _ sFm h
 obtain ⟨c0,e0,h0⟩:=hf 0 _ rfl
 obtain ⟨c1,e1,h1⟩:=hf 1 _ rfl
 obtain ⟨c2,e2,h2⟩:=hf 2 _ rfl
 match xs,hxl with
 | [y0,y1,y2],_=>
   simp only [dFm,List.map_cons,List.map_nil,DataW.agg.injEq,List.cons.injEq,and_true] at hx
   obtain ⟨q0,q1,q2⟩:=hx
   obtain ⟨s0,g0,k0,_⟩:=DataW.trod_string ustr (show _=some y0 from h0)
   obtain ⟨m1,g1,k1,_⟩:=DataW.trod_int ui64 (show _=some y1 from h1)
   obtain ⟨s2,g2,k2,_⟩:=DataW.trod_string ustr (show _=some y2 from h2)
   subst k0;subst k1;subst k2
   simp only [DataW.lit.injEq,Lit.string.injEq,Lit.int.injEq,true_and] at q0 q1 q2
   have hs0:s0=o.word:=by
    apply ByteArray.ext
    exact Array.toList_inj.1 q0.symm
   have hs2:s2=o.uses:=by
    apply ByteArray.ext
    exact Array.toList_inj.1 q2.symm
   simp only [List.cons.injEq,and_true] at g0 g1 g2
   subst g0;subst g1;subst g2;subst hs0;subst hs2
   rw [rFm,q1]
   exact crep_3 hl e0 e1 e2 ⟨⟨by simp [D.rep,Go.Am.one],rfl⟩,trivial⟩ ⟨⟨by simp [D.rep,Go.Am.one],rfl⟩,trivial⟩ ⟨⟨by simp [D.rep,Go.Am.one],rfl⟩,trivial⟩
theorem fms_of {W:World} {cs:Array Value} {base:Nat} {spare:Nat->Bool} {held:Bool} {fuel:Nat} {p:List MemPlace} (hd0:DataW.trod (fun _=>()) Tryz.prog W base spare held fuel 191 cs.toList=some (Rows.laid_querylab_algebra_forms,p)) {R:Rd}:
 crep R fmRow cs.toList/\cs.toList.length=33:=by
 rw [laid_fm] at hd0
 obtain ⟨xs,m,hm,hx,hl,hn,hel⟩:=DataW.trod_array uFms hd0
 rw [c3f] at hel
 have hxs:xs.map (·.1)=fmTab.map dFm:=by
  simp only [Prod.mk.injEq,DataW.agg.injEq] at hx
  exact hx.1.symm
 have hcl:cs.toList.length=fmTab.length * 3:=by rw [hl];kernel_rfl
 refine ⟨crep_fms fmTab cs.toList hcl fun i hi=>?_,hcl⟩
 have hi2:i<11:=hi
 have h1:=hel i hi2
 rw [List.getElem?_eq_getElem (by omega)] at h1
 have h2:(xs[i]'(by omega)).1=dFm fmTab[i]:=by
  have:=congrArg (fun l=>l[i]?) hxs
  simp only [List.getElem?_map,List.getElem?_eq_getElem (show i<xs.length by omega),List.getElem?_eq_getElem hi,Option.map_some,Option.some.injEq] at this
  exact this
 obtain ⟨pp,hpp⟩: ∃pp,xs[i]'(by omega)=(dFm fmTab[i],pp):=⟨(xs[i]'(by omega)).2,by rw [<-h2]⟩
 rw [hpp] at h1
 exact fm_of h1
theorem sized_of {W:World} {n:String} {g:Nat} {cs:Array Value} (hg:Tryz.prog.globalNamed n=some g) (h:W.var? Tryz.prog n=some cs):Sized W g cs.size:=by
 simp only [World.var?,hg,Option.bind_some] at h
 split at h
 ·rename_i cs' el fl hc
  cases h
  exact ⟨_,_,_,hc,rfl⟩
 ·cases h
def laidL : List (String × DataW Unit) := [("querylab/value.null", Rows.laid_querylab_value_null), ("querylab/expression.operations", Rows.laid_querylab_expression_operations), ("querylab/algebra.forms", Rows.laid_querylab_algebra_forms)]
theorem tabs_of {W:World} (h:laidMetH Tryz.prog laidL W): ∀g row,Tab.tab g=some row->Go.Am.rowAt (E0 W).R ((E0 W).R g) 0 row/\Sized W g row.length:=by
 rw [MakeChecks.laidMetH_plain _ _ _ (by kernel_rfl)] at h
 obtain ⟨ps,⟨g0,t0,cs0,f0,p0,q0,hg0,ht0,hv0,hd0,⟨g1,t1,cs1,f1,p1,q1,hg1,ht1,hv1,hd1,⟨g2,t2,cs2,f2,p2,q2,hg2,ht2,hv2,hd2,_⟩,_⟩,_⟩,_⟩:=h
 obtain rfl:=Option.some.inj (gNull.symm.trans hg0)
 obtain rfl:=Option.some.inj (tNull.symm.trans ht0)
 obtain rfl:=Option.some.inj (gOps.symm.trans hg1)
 obtain rfl:=Option.some.inj (tOps.symm.trans ht1)
 obtain rfl:=Option.some.inj (gFms.symm.trans hg2)
 obtain rfl:=Option.some.inj (tFms.symm.trans ht2)
 have key: ∀{g:Nat} {n:String} {cs:Array Value} {row:List D},Tryz.prog.globalNamed n=some g->W.var? Tryz.prog n=some cs->crep (E0 W).R row cs.toList->cs.toList.length=row.length->Go.Am.rowAt (E0 W).R ((E0 W).R g) 0 row/\Sized W g row.length:=by
  intro g n cs row hg hv hc hl
  refine ⟨crep_rowAt 0 hc fun j u hj=>E0_cell ?_,?_⟩
  ·rw [Nat.zero_add,World.var?_cell hg hv j]
   simpa using hj
  ·have:=sized_of hg hv
   rwa [show cs.size=row.length by simpa using hl] at this
 intro g row hrow
 match g,hrow with
 | 1,h=>cases h;exact key hg1 hv1 (ops_of hd1).1 ((ops_of (R:=(E0 W).R) hd1).2.trans (by kernel_rfl))
 | 2,h=>cases h;exact key hg0 hv0 (null_of hd0) (crep_len (null_of (R:=(E0 W).R) hd0)).symm
 | 0,h=>cases h;exact key hg2 hv2 (fms_of hd2).1 ((fms_of (R:=(E0 W).R) hd2).2.trans (by kernel_rfl))
end
end Go.Proofs.YtnmibokjpedkiaaGreatDoor
