/- What random makes of a tape is valid, of its types, and not too large: a proof over an abstract machine of our own (part Wl) -/
import Derived.Test.YtampbaaiddbacaaGreatDoorWj
import Derived.Test.YtampbaaiddbacaaGreatDoorWf
import Derived.Test.YtampbaaiddbacaaGreatDoorWm
import Derived.Test.YtampbaaiddbacaaGreatDoorWk
set_option maxRecDepth 100000
set_option maxHeartbeats 4000000
set_option linter.all false
namespace Go.Proofs.YtampbaaiddbacaaGreatDoor
section
open Go.Am
attribute [local simp, local push_cast] num boo str ints aV aTab zA aS aT aC y5 yJ yY zF aAgg zG aQs aQP
structure Made (ts:List Int) (d:Nat) (t:Int) (e:Ex):Prop where
 typ:typG (ownM ts) e=(t,0)
 dep:0<=yU e/\yU e<=d
 size:0<=x7 e/\2 * x7 e+1<=((3 ^ d:Nat):Int)
theorem sizeL_le {s:Int} (h0:0<=s): ∀(ks:List Ex) (n:Int),0<=n->n+ks.length * s<=1000000000000->(∀k∈ks,0<=x7 k/\x7 k<=s)->0<=sizeL n ks/\sizeL n ks<=n+ks.length * s
 | [],n,hn,_,_=>by simp [sizeL];exact hn
 | k::ks,n,hn,hb,hk=>by
   obtain ⟨k0,k1⟩:=hk k (by simp)
   have e:(((k::ks).length:Nat):Int) * s=ks.length * s+s:=by
    rw [List.length_cons]
    push_cast
    rw [Int.add_mul,Int.one_mul]
   have hp:0<=(ks.length:Int) * s:=Int.mul_nonneg (by omega) h0
   rw [e] at hb ⊢
   rw [sizeL,zJ (by omega) (by omega)]
   have:=sizeL_le h0 ks (n+x7 k) (by omega) (by omega) fun x hx=>hk x (by simp [hx])
   omega
theorem depthL_le {d:Int}: ∀(ks:List Ex) (n:Int),0<=n->n<=d->(∀k∈ks,0<=yU k/\yU k<=d)->0<=depthL n ks/\depthL n ks<=d
 | [],n,hn,hd,_=>by rw [depthL];exact ⟨hn,hd⟩
 | k::ks,n,hn,hd,hk=>by
   obtain ⟨k0,k1⟩:=hk k (by simp)
   rw [depthL]
   exact depthL_le ks _ (by split<;>omega) (by split<;>omega) fun x hx=>hk x (by simp [hx])
theorem made_node {ts:List Int} {d:Nat} (hd:d<=9) {t op ty n c:Int} {b:ByteArray} {ks:List Ex} {ks':List Int} (hk:ks.map (typG (ownM ts))=ks'.map fun u=>(u,(0:Int))) (hl:ks.length<=3)
 (h1: ∀k∈ks,(0<=yU k/\yU k<=d)/\0<=x7 k/\2 * x7 k+1<=((3 ^ d:Nat):Int)) (ho:ownM ts (.mk op ty n b c ks) ks'=(t,0)):Made ts (d+1) t (.mk op ty n b c ks):=by
 have hP:3 ^ d<=3 ^ 9:=Nat.pow_le_pow_right (by omega) hd
 have hP0:0<3 ^ d:=Nat.pow_pos (by omega)
 have hs:(3:Nat) ^ (d+1)=3 * 3 ^ d:=by rw [Nat.pow_succ];omega
 rw [show (3:Nat) ^ 9=19683 from rfl] at hP
 refine ⟨?_,?_,?_⟩
 ·rw [uk]
  show typK (ownM ts) _ (ks.map (typG (ownM ts)))=_
  rw [hk]
  have he: ∀l:List Int,ferr Prod.snd (l.map fun u=>(u,(0:Int)))=0:=fun l=>yt _ _ fun i hi=>by
   have:=zi hi
   obtain ⟨u,_,hu⟩:=List.mem_map.1 this
   rw [<-hu]
  rw [typK,if_pos (he _),List.map_map]
  rw [show (Prod.fst∘fun u:Int=>(u,(0:Int)))=id from rfl,List.map_id]
  exact ho
 ·rw [depthW_eq]
  have:=depthL_le (d:=(d:Int)) ks 0 (by omega) (by omega) fun k hk=>(h1 k hk).1
  show 0<=IntKind.i64.wrap (depthL 0 ks+1)/\IntKind.i64.wrap (depthL 0 ks+1)<=_
  rw [zJ (by omega) (by omega)]
  push_cast
  omega
 ·rw [sizeW_eq]
  rw [hs]
  generalize (3:Nat) ^ d=P at hP hP0 h1
  have hl':((ks.length:Nat):Int)<=3:=by omega
  have hm:(ks.length:Int) * ((((P:Nat):Int)-1) / 2)<=3 * (((P:Int)-1) / 2):=Int.mul_le_mul_of_nonneg_right hl' (by omega)
  have:=sizeL_le (s:=((P:Int)-1) / 2) (by omega) ks 1 (by omega) (by omega) fun k hk=>by have:=(h1 k hk).2;omega
  show 0<=sizeL 1 ks/\2 * sizeL 1 ks+1<=_
  push_cast
  omega
theorem Made.mono {ts:List Int} {d d':Nat} {t:Int} {e:Ex} (h:Made ts d t e) (hd:d<=d'):Made ts d' t e:=by
 have hP:3 ^ d<=3 ^ d':=Nat.pow_le_pow_right (by omega) hd
 obtain ⟨h1,h2,h3⟩:=h
 exact ⟨h1,by omega,by omega⟩
theorem clean_op {op:Int} (h:6<=op) (ks:List Ex):zS (.mk op 0 0 ByteArray.empty 0 ks)=true:=by
 have h1: ¬op=1:=by omega
 have h2: ¬op=2:=by omega
 have h3: ¬op=3:=by omega
 have h4: ¬op=4:=by omega
 have h5: ¬op=5:=by omega
 simp [zS,okF,noT,noN,noX,noC,Ex.op,Ex.type,Ex.num,Ex.text,Ex.col,h1,h2,h3,h4,h5,ByteArray.toList_eq]
def opOk (op:Int) (l:List Int) (t:Int):Bool:=
 isOp op&&decide (6<=op)&&(((l.length:Int)==(yo op).kids) || ((op==28)&&decide ((l.length:Int)>(yo op).kids)))&&fitM (yo op) l&&
  (if ((yo op).own==0)=true then l.getD (l.length-1) default==t else (yo op).own==t)
theorem own_op {ts:List Int} {op t:Int} {l:List Int} {ks:List Ex} (h:opOk op l t=true) (hl:ks.length=l.length):ownM ts (.mk op 0 0 ByteArray.empty 0 ks) l=(t,0):=by
 unfold opOk at h
 simp only [Bool.and_eq_true,decide_eq_true_eq] at h
 obtain ⟨⟨⟨⟨h1,h2⟩,h3⟩,h4⟩,h5⟩:=h
 have hc:yw (.mk op 0 0 ByteArray.empty 0 ks)=true:=by
  unfold yw
  simp only [Ex.op,Ex.kids,hl,h1,h3,Bool.true_and]
 have n5:(op==5)=false:=beq_eq_false_iff_ne.2 (by omega)
 have n1:(op==1)=false:=beq_eq_false_iff_ne.2 (by omega)
 unfold ownM
 simp only [Ex.op,h1,clean_op h2,hc,h4,n5,n1,Bool.not_true,Bool.or_self,Bool.false_and,Bool.false_eq_true,if_false]
 split at h5
 ·rename_i ho
  exact (if_pos ho).trans (by rw [eq_of_beq h5])
 ·rename_i ho
  exact (if_neg ho).trans (by rw [eq_of_beq h5])
theorem sev_made {ts:List Int} {d:Nat} {f:Int->Nat->Ex×Nat} (hf: ∀t p,zC t=true->Made ts d t (f t p).1): ∀(l:List Int) (p:Nat),(∀u∈l,zC u=true)->
 (sevM f l p).1.map (typG (ownM ts))=l.map (fun u=>(u,(0:Int)))/\ ∀k∈(sevM f l p).1,(0<=yU k/\yU k<=d)/\0<=x7 k/\2 * x7 k+1<=((3 ^ d:Nat):Int)
 | [],p,_=>by simp [sevM]
 | t::l,p,h=>by
   have h1:=hf t p (h t (by simp))
   obtain ⟨h2,h3⟩:=sev_made hf l (f t p).2 fun u hu=>h u (by simp [hu])
   rw [sevM]
   refine ⟨by rw [List.map_cons,List.map_cons,h1.typ,h2],fun k hk=>?_⟩
   rcases List.mem_cons.1 hk with h4 | h4
   ·rw [h4];exact ⟨h1.dep,h1.size⟩
   ·exact h3 k h4
theorem x3 {ts:List Int} {d:Nat} (hd:d<=9) {f:Int->Nat->Ex×Nat} (hf: ∀t p,zC t=true->Made ts d t (f t p).1) (op:Int) (l:List Int) (hl:l.length<=3) (ht: ∀u∈l,zC u=true) (t:Int)
 (h:opOk op l t=true) (p:Nat):Made ts (d+1) t (mkM f op l p).1:=by
 obtain ⟨h2,h3⟩:=sev_made hf l p ht
 have hn:=ul f l p
 exact made_node hd h2 (by omega) h3 (own_op h hn)
theorem typ_draw (xs:List Int) (p:Nat):1+drawn xs p 3=1\/1+drawn xs p 3=2\/1+drawn xs p 3=3:=by
 have:=zv xs p (n:=3) (by omega)
 omega
theorem made_bool {xs ts:List Int} {d:Nat} (hd:d<=9) {f:Int->Nat->Ex×Nat} (hf: ∀t p,zC t=true->Made ts d t (f t p).1) (p:Nat):Made ts (d+1) 2 (xD xs f p).1:=by
 have h13:=zv xs p (n:=13) (by omega)
 have hu:=typ_draw xs (p+1)
 have hv:=typ_draw xs (p+2)
 unfold xD
 simp only
 generalize drawn xs p 13=n at h13 ⊢
 generalize 1+drawn xs (p+1) 3=u at hu ⊢
 generalize 1+drawn xs (p+2) 3=v at hv ⊢
 have hut:zC u=true:=by rcases hu with rfl | rfl | rfl<;>rfl
 have hvt:zC v=true:=by rcases hv with rfl | rfl | rfl<;>rfl
 split
 ·refine x3 hd hf _ _ (by simp) (by simpa using hut) _ ?_ _
  have:n=0\/n=1\/n=2\/n=3\/n=4\/n=5\/n=6:=by omega
  rcases this with rfl | rfl | rfl | rfl | rfl | rfl | rfl<;>rcases hu with rfl | rfl | rfl<;>decide
 split
 ·refine x3 hd hf _ _ (by simp) (by simpa using hut) _ ?_ _
  rcases hu with rfl | rfl | rfl<;>decide
 split
 ·refine x3 hd hf _ _ (by simp) (by simp [zC]) _ ?_ _
  have:n=8\/n=9:=by omega
  rcases this with rfl | rfl<;>decide
 split
 ·refine x3 hd hf _ _ (by simp) (by simp [zC]) _ ?_ _
  have:n=10\/n=11:=by omega
  rcases this with rfl | rfl<;>decide
 split
 ·exact x3 hd hf _ _ (by simp) (by simp [zC]) _ (by decide) _
 split
 ·exact x3 hd hf _ _ (by simp) (by simp [zC]) _ (by decide) _
 ·refine x3 hd hf _ _ (by simp) (by simpa using hvt) _ ?_ _
  rcases hv with rfl | rfl | rfl<;>decide
theorem made_op {xs ts:List Int} {d:Nat} (hd:d<=9) {f:Int->Nat->Ex×Nat} (hf: ∀t p,zC t=true->Made ts d t (f t p).1) (typ:Int) (ht:zC typ=true) (p:Nat):Made ts (d+1) typ (opM xs f typ p).1:=by
 have h9:=zv xs p (n:=9) (by omega)
 unfold opM
 simp only
 generalize drawn xs p 9=n at h9 ⊢
 split
 ·rename_i h1
  rw [h1]
  split
  ·exact x3 hd hf _ _ (by simp) (by simp [zC]) _ (by decide) _
  split
  ·exact x3 hd hf _ _ (by simp) (by simp [zC]) _ (by decide) _
  split
  ·exact x3 hd hf _ _ (by simp) (by simp [zC]) _ (by decide) _
  split
  ·exact x3 hd hf _ _ (by simp) (by simp [zC]) _ (by decide) _
  ·refine x3 hd hf _ _ (by simp) (by simp [zC]) _ ?_ _
   have:n=0\/n=1\/n=2\/n=3\/n=4:=by omega
   rcases this with rfl | rfl | rfl | rfl | rfl<;>decide
 split
 ·rename_i h1
  rw [h1]
  split
  ·exact x3 hd hf _ _ (by simp) (by simp [zC]) _ (by decide) _
  split
  ·exact x3 hd hf _ _ (by simp) (by simp [zC]) _ (by decide) _
  ·exact x3 hd hf _ _ (by simp) (by simp [zC]) _ (by decide) _
 ·have h2:typ=2:=by
   simp only [zC,Bool.or_eq_true,beq_iff_eq] at ht
   omega
  rw [h2]
  exact made_bool hd hf p
theorem vP {ts:List Int} {t op ty n c:Int} {b:ByteArray} (ho:ownM ts (.mk op ty n b c []) []=(t,0)):Made ts 1 t (.mk op ty n b c []):=
 made_node (d:=0) (by omega) (ks':=[]) rfl (by simp) (by simp) ho
theorem bempty:ByteArray.empty.toList=[]:=by simp [ByteArray.toList_eq]
theorem made_null (ts:List Int) {t:Int} (ht:zC t=true):Made ts 1 t (.mk 1 t 0 ByteArray.empty 0 []):=by
 refine vP ?_
 simp only [zC,Bool.or_eq_true,beq_iff_eq] at ht
 rcases ht with (rfl | rfl) | rfl<;>(simp only [ownM,zS,okF,noT,noN,noX,noC,Ex.op,Ex.type,Ex.num,Ex.text,Ex.col,bempty];rfl)
theorem made_const (ts xs:List Int) {typ:Int} (ht:zC typ=true) (p:Nat):Made ts 1 typ (jT (valM xs typ p).1 typ):=by
 have h7:=zv xs p (n:=7) (by omega)
 have h2:=zv xs p (n:=2) (by omega)
 have h4:=zv xs p (n:=4) (by omega)
 simp only [zC,Bool.or_eq_true,beq_iff_eq] at ht
 rcases ht with (rfl | rfl) | rfl
 ·show Made ts 1 1 (.mk 2 0 (drawn xs p 7-2) ByteArray.empty 0 [])
  refine vP ?_
  generalize drawn xs p 7=n at h7 ⊢
  have:n=0\/n=1\/n=2\/n=3\/n=4\/n=5\/n=6:=by omega
  rcases this with rfl | rfl | rfl | rfl | rfl | rfl | rfl<;>(simp only [ownM,zS,okF,zy,noT,noN,noX,noC,Ex.op,Ex.type,Ex.num,Ex.text,Ex.col,bempty];rfl)
 ·show Made ts 1 2 (.mk 3 0 (drawn xs p 2) ByteArray.empty 0 [])
  refine vP ?_
  generalize drawn xs p 2=n at h2 ⊢
  have:n=0\/n=1:=by omega
  rcases this with rfl | rfl<;>(simp only [ownM,zS,okF,zy,noT,noN,noX,noC,Ex.op,Ex.type,Ex.num,Ex.text,Ex.col,bempty];rfl)
 ·show Made ts 1 3 (.mk 4 0 0 (texts.getD (drawn xs p 4).toNat ByteArray.empty) 0 [])
  refine vP ?_
  generalize drawn xs p 4=n at h4 ⊢
  have:n=0\/n=1\/n=2\/n=3:=by omega
  rcases this with rfl | rfl | rfl | rfl<;>simp [texts,ownM,isOp,zS,okF,zy,j4,noT,noN,noX,noC,Ex.op,Ex.type,Ex.num,Ex.text,Ex.col,ByteArray.toList_eq]<;>decide
theorem made_value (ts xs:List Int) {typ:Int} (ht:zC typ=true) (p:Nat):Made ts 1 typ (jT (yx xs typ true p).1 typ):=by
 unfold yx
 rw [if_pos rfl]
 split
 ·exact made_null ts ht
 ·exact made_const ts xs ht _
theorem cols_mem {types:List Int} {typ c:Int} (h:c∈cols types typ): ∃j:Nat,c=j/\j<types.length/\types.getD j 0=typ:=by
 unfold cols uR at h
 obtain ⟨j,hj,rfl⟩:=List.mem_map.1 h
 obtain ⟨h1,h2⟩:=List.mem_filter.1 hj
 exact ⟨j,rfl,List.mem_range.1 h1,by simpa using h2⟩
theorem made_col {ts:List Int} {j:Nat} {typ:Int} (h2:j<ts.length) (h4:ts.getD j default=typ) (ht:zC typ=true):Made ts 1 typ (.mk 5 0 0 ByteArray.empty (j:Int) []):=by
 refine vP ?_
 have hcl:zS (.mk 5 0 0 ByteArray.empty (j:Int) [])=true:=by simp only [zS,okF,noT,noN,noX,noC,Ex.op,Ex.type,Ex.num,Ex.text,Ex.col,bempty];rfl
 have hcn:yw (.mk 5 0 0 ByteArray.empty (j:Int) [])=true:=rfl
 have hfi:fitM (yo 5) []=true:=rfl
 have g:(((5:Int)==5)&&(decide ((j:Int)<0) || decide ((j:Int)≥ts.length)))=false:=by rw [decide_eq_false (by omega),decide_eq_false (by omega)];rfl
 have g2:((((5:Int)==5)&& !zC (ts.getD ((j:Int)).toNat default)) || !fitM (yo 5) [])=false:=by rw [Int.toNat_natCast,h4,ht,hfi];rfl
 show (if (!isOp 5 || !zS (.mk 5 0 0 ByteArray.empty (j:Int) []))=true then ((0,1):Int×Int) else if (!yw (.mk 5 0 0 ByteArray.empty (j:Int) []))=true then (0,9) else if (((5:Int)==5)&&(decide ((j:Int)<0) || decide ((j:Int)≥ts.length)))=true then (0,3)
  else if ((((5:Int)==5)&& !zC (ts.getD ((j:Int)).toNat default)) || !fitM (yo 5) [])=true then (0,4) else (ts.getD ((j:Int)).toNat default,0))=_
 rw [hcl,hcn,g,g2,Int.toNat_natCast,h4]
 rfl
theorem made_leaf (xs ts:List Int) {typ:Int} (ht:zC typ=true) (p:Nat):Made ts 1 typ (w9 xs ts typ p).1:=by
 unfold w9
 split
 ·rename_i hne
  split
  ·have hl:0<(cols ts typ).length:=List.length_pos_iff.2 hne
   have hd:=zv xs (p+1) (n:=((cols ts typ).length:Int)) (by omega)
   have hm:(cols ts typ).getD (drawn xs (p+1) (cols ts typ).length).toNat 0∈cols ts typ:=zi (by omega)
   obtain ⟨j,h1,h2,h3⟩:=cols_mem hm
   rw [h1]
   exact made_col h2 h3 ht
  ·exact made_value ts xs ht _
 ·exact made_value ts xs ht _
theorem made_expr (xs ts:List Int): ∀(d:Nat),d<=9-> ∀(typ:Int),zC typ=true-> ∀(p:Nat),Made ts (d+1) typ (zK xs ts (d+1) typ p).1
 | 0,_,typ,ht,p=>by
   rw [zK,if_pos rfl]
   exact made_leaf xs ts ht p
 | d+1,hd,typ,ht,p=>by
   rw [zK,if_neg (by omega)]
   split
   ·exact (made_leaf xs ts ht _).mono (by omega)
   ·exact made_op (by omega) (fun t p h=>made_expr xs ts d (by omega) t h p) typ ht _
end
section
open Go.Am
attribute [local simp, local push_cast] num boo str ints aV aTab zA aS aT aC y5 yJ yY zF aAgg zG aQs aQP
theorem made_typeM {ts:List Int} {d:Nat} {t:Int} {e:Ex} (hd:d<=5) (h:Made ts d t e):zL (ownM ts) e=(t,0):=by
 have hP:3 ^ d<=3 ^ 5:=Nat.pow_le_pow_right (by omega) hd
 rw [show (3:Nat) ^ 5=243 from rfl] at hP
 have h1:=h.size
 have h2:=h.dep
 unfold zL
 rw [if_neg (by omega),if_neg (by omega),h.typ]
theorem same0_z:wF zE=true:=by simp only [wF,zE,Ex.op,Ex.type,Ex.num,Ex.text,Ex.col,Ex.kids,bempty];rfl
end
section
open Go.Am
def rnK:ByteArray:=⟨#[107]⟩
def rnF:ByteArray:=⟨#[102]⟩
def rnC (n:Nat):ByteArray:=jF ⟨#[99]⟩ 97 n
def rnT (n:Nat):ByteArray:=jF ⟨#[116]⟩ 97 n
def rcs (ty:Nat->Int) (nl:Nat->Bool) (m:Nat) (f nf:Bool):List Col:=⟨rnK,1,false⟩::((List.range m).map (fun c:Nat=>(⟨rnC c,ty c,nl c⟩:Col))++(if f=true then [⟨rnF,1,nf⟩] else []))
def rfs (to m:Nat) (f:Bool):List Fk:=if f=true then [⟨[((m+1:Nat):Int)],rnT to⟩] else []
def RShape (i:Nat) (T:Tbl):Prop:=
 ∃(m to:Nat) (f nf u c:Bool) (ty:Nat→Int) (nl:Nat→Bool),(m=1∨m=2∨m=3)∧(∀c,1≤ty c∧ty c≤3)∧(f=true→to<i)∧(c=true→ty 0=1)∧
  T=⟨rnT i,rcs ty nl m f nf,[0],if u=true then [[1]] else [],rfs to m f,if c=true then [checkE] else []⟩
theorem RShape.name {i:Nat} {T:Tbl} (h:RShape i T):T.name=rnT i:=by obtain ⟨_,_,_,_,_,_,_,_,_,_,_,_,rfl⟩:=h;rfl
theorem kD (xs:List Int) (p m:Nat) (nf:Bool):j1 xs p m=rcs (fun c=>1+drawn xs (p+2 * c) 3) (fun c=>drawn xs (p+2 * c+1) 2==1) m false nf:=by
 simp [j1,rcs,colM,rnK,rnC]
theorem rcs_snoc (ty:Nat->Int) (nl:Nat->Bool) (m:Nat) (nf b:Bool):rcs ty nl m false b++[⟨rnF,1,nf⟩]=rcs ty nl m true nf:=by simp [rcs]
theorem qA (ty:Nat->Int) (nl:Nat->Bool) (m:Nat) (f nf:Bool):(rcs ty nl m f nf).length=m+1+(if f=true then 1 else 0):=by
 cases f<;>simp [rcs]
theorem rcs_one (ty:Nat->Int) (nl:Nat->Bool) {m:Nat} (f nf:Bool) (hm:1<=m):((rcs ty nl m f nf).getD 1 default).type=ty 0:=by
 obtain ⟨k,rfl⟩: ∃k,m=k+1:=⟨m-1,by omega⟩
 simp [rcs,List.range_succ_eq_map]
theorem rtable_shape (xs:List Int) (s:List Tbl) (n p:Nat) (hs: ∀j,j<n->(s.getD j default).name=rnT j):RShape n (qz xs s n p).1:=by
 have h3:=zv xs p (n:=3) (by omega)
 obtain ⟨m,hm⟩: ∃m:Nat,(1+drawn xs p 3).toNat=m:=⟨_,rfl⟩
 have hm3:m=1\/m=2\/m=3:=by omega
 have hty: ∀c:Nat,1<=1+drawn xs (p+1+2 * c) 3/\1+drawn xs (p+1+2 * c) 3<=3:=fun c=>by have:=zv xs (p+1+2 * c) (n:=3) (by omega);omega
 unfold qz
 simp only [hm]
 have key: ∀(f nf:Bool) (to q:Nat),(f=true->to<n)->RShape n (ke xs n (rcs (fun c=>1+drawn xs (p+1+2 * c) 3) (fun c=>drawn xs (p+1+2 * c+1) 2==1) m f nf) (rfs to m f) q).1:=by
  intro f nf to q hto
  unfold ke
  rw [rcs_one _ _ _ _ (by omega)]
  simp only
  split
  ·rename_i h1
   refine ⟨m,to,f,nf,drawn xs q 4==3,drawn xs (q+1) 4==3,_,_,hm3,hty,hto,fun _=>eq_of_beq h1,rfl⟩
  ·exact ⟨m,to,f,nf,drawn xs q 4==3,false,_,_,hm3,hty,hto,(fun h=>by cases h),rfl⟩
 unfold xS
 split
 ·rename_i hn
  have hn':0<n:=by have:=of_decide_eq_true hn;omega
  split
  ·have hd:=zv xs (p+1+2 * m+1+1) (n:=(n:Int)) (by omega)
   have hto:(drawn xs (p+1+2 * m+1+1) n).toNat<n:=by omega
   have hname:=hs _ hto
   have:=key true (drawn xs (p+1+2 * m+1) 2==1) _ (p+1+2 * m+1+1+1) (fun _=>hto)
   have hlen:(j1 xs (p+1) m).length=m+1:=by rw [kD xs (p+1) m false,qA];rfl
   simp only [hname,hlen]
   rw [kD xs (p+1) m false]
   rw [<-rcs_snoc _ _ _ _ false] at this
   exact this
  ·have:=key false false 0 (p+1+2 * m+1) (fun h=>by cases h)
   rw [<-kD] at this
   exact this
 ·have:=key false false 0 (p+1+2 * m) (fun h=>by cases h)
  rw [<-kD] at this
  exact this
theorem j5 (xs:List Int): ∀n i,i<n->RShape i ((wb xs n).1.getD i default)
 | 0,i,h=>absurd h (Nat.not_lt_zero _)
 | n+1,i,h=>by
   have hl:=vC xs n
   rw [wb]
   rcases Nat.lt_or_ge i n with h1 | h1
   ·have:=j5 xs n i h1
    simp only [List.getD_eq_getElem?_getD] at this ⊢
    rw [List.getElem?_append_left (by omega)]
    exact this
   ·obtain rfl:i=n:=by omega
    have:=rtable_shape xs (wb xs i).1 i (wb xs i).2 (fun j hj=>(j5 xs i j hj).name)
    simp only [List.getD_eq_getElem?_getD]
    rw [List.getElem?_append_right (by omega),hl,Nat.sub_self]
    exact this
end
section
open Go.Am
def namesOk (l:List ByteArray):Bool:=(List.range l.length).all fun j=>w8 (l.getD j default)&&(fidx (fun x:ByteArray=>x.toList==(l.getD j default).toList) l==(j:Int))
theorem namesOk_at {l:List ByteArray} (h:namesOk l=true) {j:Nat} (hj:j<l.length):w8 (l.getD j default)=true/\fidx (fun x:ByteArray=>x.toList==(l.getD j default).toList) l=j:=by
 have:=all_range.1 h j hj
 simpa using this
theorem byC_names (l:List Col) (n:ByteArray):byC l n=fidx (fun x:ByteArray=>x.toList==n.toList) (l.map (·.name)):=(qP (fun x:ByteArray=>x.toList==n.toList) (fun x:Col=>x.name) l).symm
theorem byT_names (l:List Tbl) (n:ByteArray):byT l n=fidx (fun x:ByteArray=>x.toList==n.toList) (l.map (·.name)):=(qP (fun x:ByteArray=>x.toList==n.toList) (fun x:Tbl=>x.name) l).symm
theorem getD_map' {α β:Type} [Inhabited α] [Inhabited β] (f:α->β) (l:List α) {j:Nat} (h:j<l.length):(l.map f).getD j default=f (l.getD j default):=by
 simp [List.getD_eq_getElem?_getD,List.getElem?_map,List.getElem?_eq_getElem h]
def qB (m:Nat) (f:Bool):List ByteArray:=rnK::((List.range m).map (fun c:Nat=>rnC c)++(if f=true then [rnF] else []))
theorem rcNames_ok: ∀(m:Nat) (f:Bool),(m=1\/m=2\/m=3)->namesOk (qB m f)=true:=by
 rintro m f (rfl | rfl | rfl)<;>cases f<;>kernel_rfl
theorem rtNames_ok: ∀n:Nat,n<=3->namesOk ((List.range n).map fun i:Nat=>rnT i)=true:=by
 intro n hn
 obtain rfl | rfl | rfl | rfl:n=0\/n=1\/n=2\/n=3:=by omega
 all_goals kernel_rfl
theorem rcs_names (ty:Nat->Int) (nl:Nat->Bool) (m:Nat) (f nf:Bool):(rcs ty nl m f nf).map (·.name)=qB m f:=by cases f<;>simp [rcs,qB,Function.comp_def]
theorem rcs_typed {ty:Nat->Int} {nl:Nat->Bool} (m:Nat) (f nf:Bool) (h: ∀c,1<=ty c/\ty c<=3): ∀c∈rcs ty nl m f nf,c.type=1\/c.type=2\/c.type=3:=by
 intro c hc
 simp only [rcs,List.mem_cons,List.mem_append,List.mem_map] at hc
 rcases hc with rfl | ⟨x,_,rfl⟩ | hc
 ·exact .inl rfl
 ·have:=h x;show ty x=1\/ty x=2\/ty x=3;omega
 ·cases f
  ·simp at hc
  ·simp at hc;rw [hc];exact .inl rfl
theorem rcs_for {ty:Nat->Int} {nl:Nat->Bool} {m:Nat} {nf:Bool}:(rcs ty nl m true nf).getD (m+1) default=⟨rnF,1,nf⟩:=by
 simp only [rcs,List.getD_eq_getElem?_getD]
 rw [List.getElem?_cons_succ,List.getElem?_append_right (by simp)]
 simp
theorem check_made (ts:List Int) (h:ts.getD 1 default=1) (hl:1<ts.length):Made ts 2 2 checkE:=by
 have h1:Made ts 1 1 (.mk 5 0 0 ByteArray.empty ((1:Nat):Int) []):=made_col hl h rfl
 have h2:Made ts 1 1 (.mk 2 0 4 ByteArray.empty 0 []):=by
  refine vP ?_
  simp only [ownM,zS,okF,zy,noT,noN,noX,noC,Ex.op,Ex.type,Ex.num,Ex.text,Ex.col,bempty]
  rfl
 refine made_node (d:=1) (by omega) (ks':=[1,1]) ?_ (by decide) ?_ (own_op (op:=16) (l:=[1,1]) (by decide) rfl)
 ·show [typG (ownM ts) _,typG (ownM ts) _]=_
  rw [show typG (ownM ts) (.mk 5 0 0 ByteArray.empty 1 [])=(1,0) from h1.typ,h2.typ]
  rfl
 ·intro k hk
  rcases List.mem_cons.1 hk with e | e
  ·rw [e];exact ⟨h1.dep,h1.size⟩
  ·rw [List.mem_singleton.1 e];exact ⟨h2.dep,h2.size⟩
theorem rshape_table {i:Nat} {T:Tbl} (h:RShape i T):yE T=0:=by
 obtain ⟨m,to,f,nf,u,c,ty,nl,hm,ht,hto,hc,rfl⟩:=h
 obtain ⟨U,hU⟩: ∃U:List (List Int),(if u=true then [[(1:Int)]] else [])=U:=⟨_,rfl⟩
 obtain ⟨C,hC0⟩: ∃C:List Ex,(if c=true then [checkE] else [])=C:=⟨_,rfl⟩
 rw [hU,hC0]
 have hC:vj (y9 ⟨rnT i,rcs ty nl m f nf,[0],U,rfs to m f,C⟩) (rcs ty nl m f nf).length=0:=by
  refine wS fun j hj=>?_
  have hn:=rcs_names ty nl m f nf
  have hj2:j<(qB m f).length:=by rw [<-hn,List.length_map];exact hj
  obtain ⟨g1,g2⟩:=namesOk_at (rcNames_ok m f hm) hj2
  have hg:(qB m f).getD j default=((rcs ty nl m f nf).getD j default).name:=by rw [<-hn];exact getD_map' _ _ hj
  rw [hg] at g1 g2
  rw [<-hn,<-byC_names] at g2
  have hty:=rcs_typed (nl:=nl) m f nf ht _ (zi hj)
  unfold y9
  simp only [g1,g2,Bool.not_true,Bool.false_eq_true,if_false]
  rw [if_neg (by unfold wI;rw [if_neg (by omega)];omega),if_neg]
  unfold wi
  rcases hty with e | e | e<;>rw [e]<;>decide
 have hK:xe ⟨rnT i,rcs ty nl m f nf,[0],U,rfs to m f,C⟩=0:=by
  rw [<-hU]
  rcases hm with rfl | rfl | rfl<;>cases f<;>cases u<;>rfl
 have hB:bigT ⟨rnT i,rcs ty nl m f nf,[0],U,rfs to m f,C⟩=false:=by
  rw [<-hU,<-hC0]
  rcases hm with rfl | rfl | rfl<;>cases f<;>cases u<;>cases c<;>rfl
 have hX:ferr (yR ⟨rnT i,rcs ty nl m f nf,[0],U,rfs to m f,C⟩) C=0:=by
  refine yt _ _ fun i hi=>?_
  have hm1:=zi hi
  have hct:c=true/\C.getD i default=checkE:=by
   generalize C.getD i default=e at hm1
   rw [<-hC0] at hm1
   split at hm1
   ·rename_i h;exact ⟨h,List.mem_singleton.1 hm1⟩
   ·cases hm1
  rw [hct.2]
  have h1:(zX ⟨rnT i,rcs ty nl m f nf,[0],U,rfs to m f,C⟩).getD 1 default=1:=by
   have h2:1<(rcs ty nl m f nf).length:=by rw [qA];omega
   have:=rcs_one ty nl f nf (m:=m) (by omega)
   rw [zX,getD_map' (fun c:Col=>c.type) _ h2,this,hc hct.1]
  have hm2:=made_typeM (by omega) (check_made _ h1 (by rw [zX,List.length_map,qA];omega))
  unfold yR
  have hT:zX ⟨rnT i,rcs ty nl m f nf,[0],U,rfs to m f,C⟩=(rcs ty nl m f nf).map (·.type):=rfl
  rw [hT] at hm2
  simp only [zX,hm2]
  rfl
 have hl:=qA ty nl m f nf
 unfold yE
 simp only [hB,hC,hK,Bool.false_eq_true,if_false]
 rw [if_neg (by omega),if_neg (by simp),if_neg (by simp)]
 exact hX
end
section
open Go.Am
structure RS (s:Sch):Prop where
 pos:1<=s.length
 len:s.length<=3
 tab: ∀i,i<s.length->RShape i (s.getD i default)
theorem RS.names {s:Sch} (h:RS s):s.map (·.name)=(List.range s.length).map fun i:Nat=>rnT i:=by
 refine List.ext_getElem (by simp) fun i h1 h2=>?_
 simp only [List.getElem_map,List.getElem_range]
 have hi:i<s.length:=by simpa using h1
 have e:=(h.tab i hi).name
 rw [List.getD_eq_getElem?_getD,List.getElem?_eq_getElem hi] at e
 exact e
theorem RS.byT {s:Sch} (h:RS s) {i:Nat} (hi:i<s.length):w8 (rnT i)=true/\Go.Proofs.YtampbaaiddbacaaGreatDoor.byT s (rnT i)=i:=by
 obtain ⟨g1,g2⟩:=namesOk_at (rtNames_ok s.length h.len) (j:=i) (by simpa using hi)
 have hg:((List.range s.length).map fun i:Nat=>rnT i).getD i default=rnT i:=by
  simp [List.getD_eq_getElem?_getD,hi]
 rw [hg] at g1 g2
 exact ⟨g1,by rw [byT_names,h.names];exact g2⟩
theorem RS.tabErr {s:Sch} (h:RS s) {i:Nat} (hi:i<s.length):Go.Proofs.YtampbaaiddbacaaGreatDoor.tabErr s i=0:=by
 have hT:=rshape_table (h.tab i hi)
 have hn:=(h.tab i hi).name
 obtain ⟨g1,g2⟩:=h.byT hi
 unfold Go.Proofs.YtampbaaiddbacaaGreatDoor.tabErr
 rw [hn,g1,g2,hT]
 simp only [Bool.not_true,Bool.false_eq_true,if_false]
 rw [if_neg (by unfold wI;rw [if_neg (by omega)];omega)]
theorem RS.fk {s:Sch} (h:RS s) {i:Nat} (hi:i<s.length) {f:Fk} (hf:f∈(s.getD i default).foreigns):
 ∃to,to<i/\Go.Proofs.YtampbaaiddbacaaGreatDoor.byT s f.table=(to:Nat)/\ ∃k:Nat,f.columns=[(k:Int)]/\((s.getD i default).columns.getD k default).type=1:=by
 obtain ⟨m,to,b,nf,u,c,ty,nl,hm,ht,hto,hc,e⟩:=h.tab i hi
 rw [e] at hf ⊢
 cases b with
 | false=>simp [rfs] at hf
 | true=>
   simp only [rfs,if_true,List.mem_singleton] at hf
   have hti:=hto rfl
   rw [hf]
   exact ⟨to,hti,(h.byT (by omega)).2,m+1,rfl,by simp only [rcs_for]⟩
theorem RS.prim {s:Sch} (h:RS s) {i:Nat} (hi:i<s.length):(s.getD i default).primary=[0]/\((s.getD i default).columns.getD 0 default).type=1:=by
 obtain ⟨m,to,b,nf,u,c,ty,nl,hm,ht,hto,hc,e⟩:=h.tab i hi
 rw [e]
 exact ⟨rfl,rfl⟩
theorem RS.refErr {s:Sch} (h:RS s) {T:Tbl} (hT:T∈s):Go.Proofs.YtampbaaiddbacaaGreatDoor.refErr s T=0:=by
 obtain ⟨i,hi,rfl⟩:=jE hT
 unfold Go.Proofs.YtampbaaiddbacaaGreatDoor.refErr
 refine yt _ _ fun j hj=>?_
 obtain ⟨to,h1,h2,k,h3,h4⟩:=h.fk hi (zi hj)
 unfold refM
 simp only [h2,h3]
 rw [if_neg (by omega),if_pos]
 have hts:to<s.length:=by omega
 simp only [Int.toNat_natCast]
 rw [(h.prim hts).1]
 unfold xm
 simp only [List.length_cons,List.length_nil,Nat.zero_add,List.range_succ,List.range_zero,List.nil_append,List.all_cons,List.all_nil,Bool.and_true,BEq.rfl,Bool.true_and,yB]
 simp only [List.getD_cons_zero,Int.toNat_natCast,h4]
 rw [show (0:Int).toNat=0 from rfl,(h.prim hts).2]
 rfl
theorem RS.pick {s:Sch} (h:RS s) {n:Nat} (hn:n<s.length) (ih:Go.Proofs.YtampbaaiddbacaaGreatDoor.picks s n=(List.range n).map fun i:Nat=>(i:Int)):yC s (Go.Proofs.YtampbaaiddbacaaGreatDoor.picks s n)=n:=by
 unfold yC
 refine x4 _ _ n (by simpa using hn) (fun i hi=>?_) ?_
 ·rw [wk (by omega)]
  unfold xM
  have:((List.range n).map fun i:Nat=>(i:Int)).contains (i:Int)=true:=by
   rw [List.contains_iff_mem];exact List.mem_map.2 ⟨i,List.mem_range.2 hi,rfl⟩
  rw [ih,this];rfl
 ·rw [wk hn]
  unfold xM
  have:((List.range n).map fun i:Nat=>(i:Int)).contains (n:Int)=false:=by
   rw [<-Bool.not_eq_true,List.contains_iff_mem]
   intro hm
   obtain ⟨j,hj,e⟩:=List.mem_map.1 hm
   have:=List.mem_range.1 hj
   omega
  rw [ih,this]
  simp only [Bool.not_false,Bool.true_and]
  refine List.all_eq_true.2 fun f hf=>?_
  unfold fks at hf
  obtain ⟨to,g1,g2,_⟩:=h.fk hn hf
  simp only [g2]
  rw [List.contains_iff_mem]
  exact List.mem_map.2 ⟨to,List.mem_range.2 g1,rfl⟩
theorem RS.picks {s:Sch} (h:RS s): ∀n,n<=s.length->Go.Proofs.YtampbaaiddbacaaGreatDoor.picks s n=(List.range n).map fun i:Nat=>(i:Int)
 | 0,_=>rfl
 | n+1,hn=>by
   have ih:=RS.picks h n (by omega)
   have hp:yC s (Go.Proofs.YtampbaaiddbacaaGreatDoor.picks s n)=n:=h.pick (by omega) ih
   rw [Go.Proofs.YtampbaaiddbacaaGreatDoor.picks,hp,ih,List.range_succ,List.map_append]
   rfl
theorem RS.orderOk {s:Sch} (h:RS s):Go.Proofs.YtampbaaiddbacaaGreatDoor.orderOk s=true:=by
 unfold Go.Proofs.YtampbaaiddbacaaGreatDoor.orderOk
 refine all_range.2 fun n hn=>?_
 rw [h.pick hn (h.picks n (by omega))]
 simp
theorem RS.order {s:Sch} (h:RS s):xt s=(List.range s.length).map fun i:Nat=>(i:Int):=by
 rw [xt,if_pos h.orderOk,h.picks _ (Nat.le_refl _)]
theorem RS.valid {s:Sch} (h:RS s):yq s=0:=by
 have hl:=h.len
 unfold yq
 rw [if_neg (by omega),if_neg,if_neg]
 ·rw [xC,h.orderOk];rfl
 ·have:ferr (Go.Proofs.YtampbaaiddbacaaGreatDoor.refErr s) s=0:=yt _ _ fun i hi=>h.refErr (zi hi)
  simp [this]
 ·have:vj (Go.Proofs.YtampbaaiddbacaaGreatDoor.tabErr s) s.length=0:=wS fun i hi=>h.tabErr hi
  simp [this]
theorem schema_rs (xs:List Int):RS (uZ xs):=by
 have h3:=zv xs 0 (n:=3) (by omega)
 have hl:(uZ xs).length=(1+drawn xs 0 3).toNat:=vC xs _
 exact ⟨by omega,by omega,fun i hi=>j5 xs _ i (by rw [<-hl];exact hi)⟩
end
section
open Go.Am
theorem RS.small {s:Sch} (h:RS s):SmallS s:=by
 refine ⟨by have:=h.len;omega,fun t ht=>?_⟩
 obtain ⟨i,hi,rfl⟩:=jE ht
 obtain ⟨m,to,b,nf,u,c,ty,nl,hm,ht,hto,hc,e⟩:=h.tab i hi
 rw [e]
 have hl:=qA ty nl m b nf
 have hl2:(rcs ty nl m b nf).length<=10:=by rw [hl];split<;>omega
 refine ⟨by simp only;omega,by simp,?_,?_,?_,?_,?_,?_⟩
 ·cases u<;>simp
 ·intro v hv
  cases u
  ·cases hv
  ·rw [List.mem_singleton.1 hv];simp
 ·cases b<;>simp [rfs]
 ·intro f hf
  cases b
  ·cases hf
  ·rw [List.mem_singleton.1 hf];simp
 ·cases c<;>simp
 ·intro x hx
  cases c
  ·cases hx
  ·rw [List.mem_singleton.1 hx]
   refine .mk _ (by decide) fun k hk=>?_
   rcases List.mem_cons.1 hk with e | e
   ·rw [e];exact kk _ _ _ _ _
   ·rw [List.mem_singleton.1 e];exact kk _ _ _ _ _
theorem stepR_valid {xs:List Int} {s:Sch} {n:Nat} {x:Inst×Nat} (h:xi s x.1=true):xi s (qv xs s n x).1=true:=by
 unfold qv
 simp only
 split
 ·assumption
 ·exact h
theorem qu {xs:List Int} {s:Sch} {n:Nat} {x:Inst×Nat} (h:xi s x.1=true): ∀k,xi s (xw xs s n x k).1=true
 | 0=>h
 | k+1=>stepR_valid (qu h k)
theorem tabsR_valid {xs:List Int} {s:Sch} {rows:Int} {ord:List Int} {x:Inst×Nat} (h:xi s x.1=true): ∀j,xi s (vc xs s rows ord x j).1=true
 | 0=>h
 | j+1=>qu (x:=((vc xs s rows ord x j).1,(vc xs s rows ord x j).2+1)) (tabsR_valid h j) _
theorem rinst_valid {s:Sch} (xs:List Int) (rows:Int) (hv:yq s=0):xi s (kX xs s rows)=true:=tabsR_valid (valid_empty hv) _
theorem stepR_at (xs:List Int) (s:Sch) (n:Nat) (x:Inst×Nat) (k:Nat):((qv xs s n x).1.getD k default).length<=(x.1.getD k default).length+(if k=n then 1 else 0):=by
 unfold qv
 simp only
 split
 ·rw [List.getD_eq_getElem?_getD,List.getD_eq_getElem?_getD,List.getElem?_set]
  by_cases hk:n=k
  ·subst hk
   simp only [if_true]
   split
   ·simp [List.getD_eq_getElem?_getD]
   ·simp [default]
  ·rw [if_neg hk,List.getD_eq_getElem?_getD];omega
 ·omega
theorem stepsR_at (xs:List Int) (s:Sch) (n:Nat) (x:Inst×Nat) (k:Nat): ∀j,((xw xs s n x j).1.getD k default).length<=(x.1.getD k default).length+(if k=n then j else 0)
 | 0=>by simp [xw]
 | j+1=>by
   have h1:=stepR_at xs s n (xw xs s n x j) k
   have h2:=stepsR_at xs s n x k j
   rw [xw]
   by_cases hk:k=n
   ·rw [if_pos hk] at h1 h2 ⊢;omega
   ·rw [if_neg hk] at h1 h2 ⊢;omega
theorem tabsR_at (xs:List Int) (s:Sch) {rows:Int} (h0:0<=rows) {N:Nat} {x:Inst×Nat} (hx: ∀k,(x.1.getD k default).length=0): ∀j,j<=N-> ∀k,
 ((vc xs s rows ((List.range N).map fun i:Nat=>(i:Int)) x j).1.getD k default).length<=if k<j then rows.toNat else 0
 | 0,_,k=>by rw [vc,hx k];exact Nat.zero_le _
 | j+1,hj,k=>by
   have ih:=tabsR_at xs s h0 (N:=N) hx j (by omega) k
   have hg:(((List.range N).map fun i:Nat=>(i:Int)).getD j default).toNat=j:=by
    rw [List.getD_eq_getElem?_getD,List.getElem?_map,List.getElem?_range (show j<N by omega)];rfl
   rw [vc,hg,tabR]
   generalize vc xs s rows ((List.range N).map fun i:Nat=>(i:Int)) x j=y at ih ⊢
   have hd:=zv xs y.2 (n:=rows+1) (by omega)
   have h1:=stepsR_at xs s j (y.1,y.2+1) k (drawn xs y.2 (rows+1)).toNat
   simp only at h1
   refine Nat.le_trans h1 ?_
   by_cases hkj:k=j
   ·rw [if_pos hkj,if_pos (by omega)]
    rw [if_neg (by omega)] at ih
    omega
   ·rw [if_neg hkj]
    by_cases h2:k<j
    ·rw [if_pos h2] at ih;rw [if_pos (by omega)];omega
    ·rw [if_neg h2] at ih;rw [if_neg (by omega)];omega
theorem rinst_few {s:Sch} (h:RS s) (xs:List Int) {rows:Int} (h0:0<=rows): ∀t∈kX xs s rows,(t.length:Int)<=rows:=by
 intro t ht
 obtain ⟨k,hk,rfl⟩:=jE ht
 have:=tabsR_at xs s (rows:=rows) h0 (N:=s.length) (x:=(xn s.length,0)) (fun k=>by rw [emptyI_at];rfl) s.length (Nat.le_refl _) k
 rw [kX,h.order,List.length_map,List.length_range]
 split at this<;>omega
theorem depthQs_le {d:Int}: ∀(ks:List Qr) (n:Int),0<=n->n<=d->(∀k∈ks,0<=yk k/\yk k<=d)->0<=depthQs n ks/\depthQs n ks<=d
 | [],n,hn,hd,_=>by rw [depthQs];exact ⟨hn,hd⟩
 | k::ks,n,hn,hd,hk=>by
   obtain ⟨k0,k1⟩:=hk k (by simp)
   rw [depthQs]
   exact depthQs_le ks _ (by split<;>omega) (by split<;>omega) fun x hx=>hk x (by simp [hx])
theorem uP {d:Int} (q:Qr) (h0:0<=d) (h1:d<=1000000) (h: ∀k∈q.kids,0<=yk k/\yk k<=d):0<=yk q/\yk q<=d+1:=by
 obtain ⟨g1,g2⟩:=depthQs_le q.kids 0 (by omega) h0 h
 rw [uQ,zJ (by omega) (by omega)]
 omega
theorem depth_leaf (xs:List Int) (s:Sch) (p:Nat):0<=yk (vi xs s p).1.1/\yk (vi xs s p).1.1<=1:=by
 refine uP (d:=0) _ (by omega) (by omega) ?_
 unfold vi
 split
 ·intro k hk;cases hk
 ·intro k hk;cases hk
theorem depth_query (xs:List Int) (s:Sch) (p:Nat): ∀d:Nat,d≤100→0≤yk (xy xs s d p).1.1∧yk (xy xs s d p).1.1≤(d:Int)+2
 | 0,_=>by have:=depth_leaf xs s p;rw [xy];omega
 | d+1,hd=>by
   have ih:=depth_query xs s p d (by omega)
   rw [xy]
   generalize xy xs s d p=r at ih ⊢
   generalize drawn xs r.2 8=n
   have one: ∀q:Qr,q.kids=[r.1.1]->0<=yk q/\yk q<=((d+1:Nat):Int)+2:=fun q hq=>by
    have:=uP (d:=(d:Int)+2) q (by omega) (by omega) (fun k hk=>by rw [hq] at hk;rw [List.mem_singleton.1 hk];exact ih)
    omega
   have two: ∀(q b:Qr),q.kids=[r.1.1,b]->(0<=yk b/\yk b<=2)->0<=yk q/\yk q<=((d+1:Nat):Int)+2:=fun q b hq hb=>by
    have:=uP (d:=(d:Int)+2) q (by omega) (by omega) (fun k hk=>by
     rw [hq] at hk
     rcases List.mem_cons.1 hk with e | e
     ·rw [e];exact ih
     ·rw [List.mem_singleton.1 e];omega)
    omega
   have stay:0<=yk r.1.1/\yk r.1.1<=((d+1:Nat):Int)+2:=by omega
   unfold stepQ
   split
   ·exact one _ rfl
   split
   ·exact one _ rfl
   split
   ·simp only
    split
    ·exact stay
    ·have:=depth_leaf xs s (r.2+1)
     exact two _ _ rfl ⟨this.1,by omega⟩
   split
   ·refine two _ _ rfl ?_
    refine uP (d:=1) _ (by omega) (by omega) fun k hk=>?_
    rw [List.mem_singleton.1 hk]
    exact uP (d:=0) _ (by omega) (by omega) fun k hk=>by cases hk
   split
   ·exact one _ rfl
   split
   ·exact one _ rfl
   ·exact stay
end
section
open Go.Am
attribute [local simp, local push_cast] num boo str ints aV aTab zA aS aT aC y5 yJ yY zF aAgg rRow rTab
theorem scan_clean (b:ByteArray):u4 (wq b)=true:=by
 have h:wF (wq b).cond=true:=same0_z
 unfold u4
 rw [h]
 simp [wq,Qr.op,Qr.table,Qr.kind,Qr.all,Qr.exprs,Qr.aggs,Qr.types,Qr.rows]
theorem scan_typed {s:Sch} (h:RS s):(jw s (wq (s.getD 0 default).name)).2=0:=by
 have hp:=h.pos
 have hn:=(h.tab 0 (by omega)).name
 have hb:=(h.byT (i:=0) (by omega)).2
 have hc:=scan_clean (s.getD 0 default).name
 rw [plain_eq] at hc
 have hcl:x6 (wq (s.getD 0 default).name) (yh 1)=true:=by
  cases h1:x6 (wq (s.getD 0 default).name) (yh 1) with
  | true=>rfl
  | false=>rw [show yh (wq (s.getD 0 default).name).op=yh 1 from rfl,h1,Bool.and_false] at hc;cases hc
 have hty:typQ s (wq (s.getD 0 default).name)=(zX (s.getD 0 default),0):=by
  rw [jZ]
  show qs s (wq (s.getD 0 default).name) []=_
  rw [qs,if_pos (show ferr Prod.snd ([]:List (List Int×Int))=0 from rfl)]
  unfold ownQ
  rw [if_neg (by rw [show (wq (s.getD 0 default).name).op=1 from rfl,hcl];simp [isFm])]
  rw [if_neg (by rw [show (wq (s.getD 0 default).name).op=1 from rfl];decide),if_pos (show (wq (s.getD 0 default).name).op=1 from rfl)]
  rw [show (wq (s.getD 0 default).name).table=rnT 0 from hn,hb,if_pos (by decide)]
  rfl
 have hs:uD (wq (s.getD 0 default).name)=1:=by rw [sizeQ_eq];rfl
 have hd:yk (wq (s.getD 0 default).name)=1:=by rw [uQ];rfl
 rw [jw,hs,hd,if_neg (by decide),if_neg (by decide),hty]
theorem rquery_good {s:Sch} (h:RS s) (xs:List Int) {deep:Int} (h1:1<=deep) (h6:deep<=6): ∃q:Qr,q8 xs s deep=(q,0)/\(jw s q).2=0/\(0<=yk q/\yk q<=deep+1)/\OkQ q:=by
 have hp:=h.pos
 unfold q8
 rw [if_neg (by rw [h.valid];decide),if_neg (by omega)]
 split
 ·exact ⟨_,rfl,scan_typed h,by rw [show yk (wq (s.getD 0 default).name)=1 by rw [uQ];rfl];omega,okq_scan _⟩
 ·rename_i ht
  have hd:=depth_query (xs.take 400) s 0 (deep-1).toNat (by omega)
  exact ⟨_,rfl,by simpa using ht,by omega,okq_query h.small (by omega) 0 _⟩
theorem rinst_small {s:Sch} (h:RS s) (xs:List Int):SmallI (kX xs s 6):=by
 obtain ⟨hs6,hoe⟩:=valid_parts h.valid
 obtain ⟨hoi,hol⟩:=order_in hoe
 have far:=tabsR_far (xs:=xs) h.small (rows:=6) (by omega) (by omega) hoi (x:=(xn s.length,0)) (b:=0) (emptyI_far s) (xt s).length (Nat.le_refl _)
 exact far.small (by omega) (by omega)
theorem c_lawV (t:List Int) (ht: ∀x∈t,i64 x) (u:List Int) (hu: ∀x∈u,i64 x) (n:Int) (hn0:0<=n) (hn:n<=255):ACall Tryz.prog 4 [ints t,ints u,.d (.lit (.int .u8 n))] [] (boo true) []:=by
 refine zp mixed ttok Tryz.func4 Tryz.ntmps4 Tryz.results4 ?_
 simp -implicitDefEqProofs only [argT,↓zb,push_cast,simprocAttr,tte]
 refine za (fun k1=>?_) fun k1=>?_
 ·refine zd [[]] [] (c4) ?_
  simp -implicitDefEqProofs only [↓zb,push_cast,simprocAttr,tte]
  exact zk trivial rfl (by simp [ends])
 refine za (fun k2=>?_) fun k2=>?_
 ·refine zd [[]] [] (c4) ?_
  simp -implicitDefEqProofs only [↓zb,push_cast,simprocAttr,tte]
  exact zk trivial rfl (by simp [ends])
 have hs8:=c8 ht
 have hR:=schema_rs (t.take 400)
 generalize uZ (t.take 400)=s at hs8 hR
 have hS:=hR.small
 have hv:=hR.valid
 have hp:=hR.pos
 have hl3:=hR.len
 refine zd [[1]] [] (hs8) ?_
 simp -implicitDefEqProofs only [↓zb,push_cast,simprocAttr,tte]
 refine zd [[6]] [] (c_rsvalid s hS) ?_
 simp -implicitDefEqProofs only [hv,↓zb,push_cast,simprocAttr,tte]
 have d1:decide ((s.length:Int)<1)=false:=decide_eq_false (by omega)
 have d2:decide ((s.length:Int)>3)=false:=decide_eq_false (by omega)
 simp -implicitDefEqProofs only [d1,d2,↓zb,push_cast,simprocAttr,tte]
 have hci:=c_rinst hu hS hv (rows:=6) (by omega) (by omega)
 have hfew:=rinst_few hR (u.take 400) (rows:=6) (by omega)
 have hval:=rinst_valid (u.take 400) 6 hv
 have hsm:=rinst_small hR (u.take 400)
 generalize kX (u.take 400) s 6=x at hci hfew hval hsm
 refine zd [[6],[1],[]] [] (hci) ?_
 simp -implicitDefEqProofs only [↓zb,push_cast,simprocAttr,tte]
 have hcv:=c_rvalidI s x hS hsm
 rw [hval] at hcv
 refine zd [[6],[1]] [] (hcv) ?_
 simp -implicitDefEqProofs only [↓zb,push_cast,simprocAttr,tte]
 have hxl:=hsm.len
 refine zn mixed ttok 66 [1,2,7,64,65] [7] (by simp only [z6,ends,push_cast,simprocAttr];rfl) (by simp only [zB,zo,ends,push_cast,simprocAttr];rfl) x.length (fun _=>True) (fun _=>[]) (fun _=>[]) trivial ?_ ?_
 ·exact Weak.keepL (by simp [cst,ends]) (by simp [cst,ends]) (by simp [cst,ends])
 intro I hI k hk hi
 simp -implicitDefEqProofs only [cst,↓zb,push_cast,simprocAttr,tte]
 refine za (fun h=>?_) fun h=>?_
 ·have h':k<x.length:=by have:=of_decide_eq_true h;omega
  have hw:=zj h' (by omega)
  have hf6:=hfew _ (zi h')
  refine ⟨(by first | omega | trivial | (refine ⟨?_,?_⟩<;>first | omega | trivial | (refine ⟨?_,?_⟩<;>first | omega | trivial | (refine ⟨?_,?_⟩<;>first | omega | trivial | rfl)))),?_⟩
  refine za (fun g=>absurd (of_decide_eq_true g) (by omega)) (fun _=>?_)
  exact zl hI k rfl h' trivial (by simp [hw,ends]) (by simp [hw,ends]) (by simp [hw,ends]) (by simp [hw,ends])
 clear hI hk hi h I
 have hwn:IntKind.i64.wrap n=n:=zJ (by omega) (by omega)
 have e5:n.tmod 5=n % 5:=Int.tmod_eq_emod_of_nonneg hn0
 have e3:n.tmod 3=n % 3:=Int.tmod_eq_emod_of_nonneg hn0
 have w5:IntKind.i64.wrap (1+n % 5)=1+n % 5:=zJ (by omega) (by omega)
 have w3:IntKind.i64.wrap (1+n % 3)=1+n % 3:=zJ (by omega) (by omega)
 simp -implicitDefEqProofs only [hwn,e5,w5,↓zb,push_cast,simprocAttr,tte]
 obtain ⟨d,hd⟩: ∃d:Nat,1+n % 5=(d+1:Nat):=⟨(n % 5).toNat,by omega⟩
 have hd4:d<=4:=by omega
 rw [hd]
 have hcq:=c_rquery (xs:=u) (s:=s) (deep:=(d+1:Nat)) hu hS
 obtain ⟨q,hq1,hq2,hq3,hq4⟩:=rquery_good hR u (deep:=(d+1:Nat)) (by omega) (by omega)
 rw [hq1] at hcq
 unfold pairQ at hcq
 have hct:=c_Type4 s hS q hq4
 have hcd:=c_rqdepth q hq4
 unfold zx at hct
 rw [hq2] at hct
 rw [zY] at hcq hct hcd
 generalize (jw s q).1=T at hct
 generalize yk q=dq at hcd hq3
 refine zd [[6],[0],[1]] [] (hcq) ?_
 simp -implicitDefEqProofs only [↓zb,push_cast,simprocAttr,tte]
 refine zd [[6],[0,0,0,0,0,0,0,0,0,6,6,7,1,1,15]] [] (hct) ?_
 simp -implicitDefEqProofs only [↓zb,push_cast,simprocAttr,tte]
 refine zd [[0,0,0,0,0,0,0,0,0,6,6,7,1,1,15]] [] (hcd) ?_
 have wd:IntKind.i64.wrap ((d:Int)+1+1)=(d:Int)+1+1:=zJ (by omega) (by omega)
 simp -implicitDefEqProofs only [wd,hwn,e3,w3,↓zb,push_cast,simprocAttr,tte]
 refine za (fun g=>absurd (of_decide_eq_true g) (by omega)) (fun _=>?_)
 obtain ⟨y,hy⟩: ∃y,1+n % 3=y:=⟨_,rfl⟩
 have hy3:y=1\/y=2\/y=3:=by omega
 have hyt:zC y=true:=by rcases hy3 with rfl | rfl | rfl<;>rfl
 have hyk:Known y:=by rcases hy3 with rfl | rfl | rfl<;>rfl
 rw [hy]
 have hce:=c5 (xs:=u) (types:=[1,3,2,1]) (typ:=y) (d:=d) hu (by simp) (by simp [Known]) hyk (by omega)
 have hme:=made_expr (u.take 400) [1,3,2,1] d (by omega) y hyt 0
 have hoe:=jk (u.take 400) [1,3,2,1] (d+1) y 0
 generalize (zK (u.take 400) [1,3,2,1] (d+1) y 0).1=e at hce hme hoe
 have hty:=made_typeM (by omega) hme
 have hcy:=kG [1,3,2,1] (by simp) e hoe
 have hcz:=c_rdepth e hoe
 have hde:=hme.dep
 rw [hty] at hcy
 rw [yb] at hce hcy hcz
 generalize yU e=de at hcz hde
 refine zd [[1],[],[],[1]] [] (hce) ?_
 simp -implicitDefEqProofs only [↓zb,push_cast,simprocAttr,tte]
 unfold zF at hcy
 refine zd [[1],[0,0,0,0,0,6]] [] (hcy) ?_
 simp -implicitDefEqProofs only [↓zb,push_cast,simprocAttr,tte]
 refine zd [[0,0,0,0,0,6]] [] (hcz) ?_
 simp -implicitDefEqProofs only [↓zb,push_cast,simprocAttr,tte]
 refine za (fun _=>?_) (fun g=>absurd (of_decide_eq_false g) (by omega))
 refine zd [[]] [] (c4) ?_
 simp -implicitDefEqProofs only [↓zb,push_cast,simprocAttr,tte]
 exact zk trivial rfl (by simp [ends])
end
end Go.Proofs.YtampbaaiddbacaaGreatDoor
