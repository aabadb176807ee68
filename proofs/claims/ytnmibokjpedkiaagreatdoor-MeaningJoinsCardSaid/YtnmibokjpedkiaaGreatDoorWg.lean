/- Joins of two tables: a proof over an abstract machine of our own (part Wg) -/
import Derived.Test.YtnmibokjpedkiaaGreatDoorWf
set_option maxRecDepth 100000
set_option maxHeartbeats 4000000
set_option linter.all false
namespace Go.Proofs.YtnmibokjpedkiaaGreatDoor
section
open Go.Am
attribute [local simp, local push_cast] num boo str ints aV aTab zv aS aT aC aRow rRow
def okC (q:Qr) (r:Row):Bool:=zQ (xk r q.cond)==1
def okJ (q:Qr) (r t:Row):Bool:=zQ (xk (r++t) q.cond)==1
def zF (n:Nat):Row:=List.replicate n zl
def qG (q:Qr) (w:Nat) (f:Bool) (r:Row):List Row:=
 if f=false/\(q.kind=2\/q.kind=4) then [r++zF w] else if (f=true/\q.kind=5)\/(f=false/\q.kind=6) then [r] else []
def xJ (q:Qr) (w:Nat) (b:List Row) (r:Row):List Row:=
 (if q.kind<5 then (b.filter (okJ q r)).map (r++ ·) else [])++qG q w (b.any (okJ q r)) r
def joinR (q:Qr) (w:Nat) (a b:List Row):List Row:=
 if q.kind=3\/q.kind=4 then (b.filter fun t=> !(a.any fun r=>okJ q r t)).map (zF w++ ·) else []
def jnM (q:Qr) (w0 w1:Nat) (a b:List Row):List Row:=a.flatMap (xJ q w1 b)++joinR q w0 a b
def keyR (q:Qr) (r:Row):Row:=q.exprs.map (xk r)
def gC (q:Qr) (rows:List Row):List Val:=q.aggs.map fun a=>aggM a.fn a.arg rows
def grpsR (q:Qr) (rows:List Row) (keys:List Row):List Row:=keys.map fun k=>k++gC q (rows.filter fun r=>cmpR (keyR q r) k==0)
abbrev GF:=Qr->List Row->List Row
def outM (gr:GF) (s:Sch) (i:Inst) (q:Qr) (w0 w1:Nat) (k0 k1:List Row):List Row:=
 if q.op=1 then i.getD (byT s q.table).toNat default
 else if q.op=2 then q.rows
 else if q.op=3 then k0.filter (okC q)
 else if q.op=4 then k0.map (keyR q)
 else if q.op=5 then jnM q w0 w1 k0 k1
 else if q.op=6 then vN (xz q.all) k0 k1
 else if q.op=7 then vN (exceptT q.all) k0 k1
 else if q.op=8 then vN (interT q.all) k0 k1
 else if q.op=9 then distM k0
 else if q.op=10 then gr q k0
 else []
def evOp (gr:GF) (s:Sch) (i:Inst) (q:Qr) (ks:List (List Row)):Option (List Row):=
 if q.op=5/\50000<(ks.getD 0 []).length * (ks.getD 1 []).length then none
 else if 1000<(outM gr s i q (typQ s (q.kids.getD 0 default)).1.length (typQ s (q.kids.getD 1 default)).1.length (ks.getD 0 []) (ks.getD 1 [])).length then none
 else some (outM gr s i q (typQ s (q.kids.getD 0 default)).1.length (typQ s (q.kids.getD 1 default)).1.length (ks.getD 0 []) (ks.getD 1 []))
def allO {α:Type}:List (Option α)->Option (List α)
 | []=>some []
 | none::_=>none
 | some x::l=>(allO l).map (x:: ·)
mutual
def evQ (gr:GF) (s:Sch) (i:Inst):Qr->Option (List Row)
 | .mk a b c d e f g h t ks=>(allO (evQs gr s i ks)).bind (evOp gr s i (.mk a b c d e f g h t ks))
def evQs (gr:GF) (s:Sch) (i:Inst):List Qr->List (Option (List Row))
 | []=>[]
 | q::l=>evQ gr s i q::evQs gr s i l
end
theorem evQs_eq (gr:GF) (s:Sch) (i:Inst): ∀l,evQs gr s i l=l.map (evQ gr s i)
 | []=>rfl
 | q::l=>by rw [evQs,evQs_eq gr s i l];rfl
theorem jJ (gr:GF) (s:Sch) (i:Inst) (q:Qr):evQ gr s i q=(allO (q.kids.map (evQ gr s i))).bind (evOp gr s i q):=by cases q;rw [evQ,evQs_eq];rfl
def relO:Option (List Row)->Option (List Row)->Prop
 | none,none=>True
 | some x,some y=>x.Perm y
 | _,_=>False
theorem jnL_perm (q:Qr) (w:Nat) {b b':List Row} (h:b.Perm b') (r:Row):(xJ q w b r).Perm (xJ q w b' r):=by
 unfold xJ
 rw [h.any_eq]
 refine List.Perm.append ?_ (List.Perm.refl _)
 split
 ·exact (h.filter _).map _
 ·exact List.Perm.refl _
theorem flat_perm {α β:Type} (f g:α->List β): ∀(l:List α),(∀x∈l,(f x).Perm (g x))->(l.flatMap f).Perm (l.flatMap g)
 | [],_=>List.Perm.refl _
 | x::l,h=>by
   simp only [List.flatMap_cons]
   exact (h x (by simp)).append (flat_perm f g l fun y hy=>h y (by simp [hy]))
theorem jnM_perm (q:Qr) (w0 w1:Nat) {a a' b b':List Row} (ha:a.Perm a') (hb:b.Perm b'):(jnM q w0 w1 a b).Perm (jnM q w0 w1 a' b'):=by
 unfold jnM joinR
 refine List.Perm.append ((ha.flatMap_right _).trans (flat_perm _ _ a' fun r _=>jnL_perm q w1 hb r)) ?_
 split
 ·have:(fun t=> !(a.any fun r=>okJ q r t))=fun t=> !(a'.any fun r=>okJ q r t):=by
   funext t
   rw [ha.any_eq]
  rw [this]
  exact (hb.filter _).map _
 ·exact List.Perm.refl _
theorem outM_perm {gr gr':GF} {s:Sch} {i i':Inst} {q:Qr} {w0 w1:Nat} {k0 k0' k1 k1':List Row} (hg: ∀rows rows':List Row,rows.Perm rows'->(gr q rows).Perm (gr' q rows')) (hi: ∀n,(i.getD n default).Perm (i'.getD n default))
 (h0:k0.Perm k0') (h1:k1.Perm k1'):(outM gr s i q w0 w1 k0 k1).Perm (outM gr' s i' q w0 w1 k0' k1'):=by
 unfold outM distM
 repeat' split
 all_goals first
  | exact hi _
  | exact List.Perm.refl _
  | exact h0.filter _
  | exact h0.map _
  | exact jnM_perm q w0 w1 h0 h1
  | (rw [combM_perm _ h0 h1];done)
  | (rw [combM_perm _ h0 (List.Perm.refl _)];done)
  | exact hg _ _ h0
theorem evOp_perm {gr gr':GF} {s:Sch} {i i':Inst} {q:Qr} {ks ks':List (List Row)} (hg: ∀rows rows':List Row,rows.Perm rows'->(gr q rows).Perm (gr' q rows')) (hi: ∀n,(i.getD n default).Perm (i'.getD n default))
 (h0:(ks.getD 0 []).Perm (ks'.getD 0 [])) (h1:(ks.getD 1 []).Perm (ks'.getD 1 [])):relO (evOp gr s i q ks) (evOp gr' s i' q ks'):=by
 unfold evOp
 rw [h0.length_eq,h1.length_eq]
 have hp:=outM_perm (s:=s) (w0:=(typQ s (q.kids.getD 0 default)).1.length) (w1:=(typQ s (q.kids.getD 1 default)).1.length) hg hi h0 h1
 rw [hp.length_eq]
 split
 ·trivial
 split
 ·trivial
 ·exact hp
theorem allO_rel: ∀(l l':List (Option (List Row))),l.length=l'.length→(∀n,relO (l.getD n none) (l'.getD n none))→
 (allO l=none/\allO l'=none)\/ ∃x y,allO l=some x/\allO l'=some y/\ ∀n,(x.getD n []).Perm (y.getD n [])
 | [],[],_,_=> .inr ⟨[],[],rfl,rfl,fun n=>List.Perm.refl _⟩
 | [],_::_,h,_=>by simp at h
 | _::_,[],h,_=>by simp at h
 | a::l,b::l',h,hr=>by
   have h0:=hr 0
   have ih:=allO_rel l l' (by simpa using h) fun n=>by simpa using hr (n+1)
   simp only [List.getD_cons_zero] at h0
   cases a<;>cases b<;>simp only [relO] at h0
   ·exact .inl ⟨rfl,rfl⟩
   ·rename_i u v
    rcases ih with ⟨e1,e2⟩ | ⟨x,y,e1,e2,hp⟩
    ·exact .inl ⟨by simp [allO,e1],by simp [allO,e2]⟩
    ·refine .inr ⟨u::x,v::y,by simp [allO,e1],by simp [allO,e2],fun n=>?_⟩
     cases n with
     | zero=>simpa using h0
     | succ n=>simpa using hp n
theorem evQ_perm {gr gr':GF} {s:Sch} {i i':Inst} (hg: ∀(q:Qr) (rows rows':List Row),rows.Perm rows'->(gr q rows).Perm (gr' q rows')) (hi: ∀n,(i.getD n default).Perm (i'.getD n default)):
 ∀q:Qr,relO (evQ gr s i q) (evQ gr' s i' q):=
 kg (p:=fun q=>relO (evQ gr s i q) (evQ gr' s i' q)) fun q ih=>by
 rw [jJ,jJ]
 rcases allO_rel (q.kids.map (evQ gr s i)) (q.kids.map (evQ gr' s i')) (by simp) (fun n=>by
  by_cases h:n<q.kids.length
  ·have:=ih _ (zk (n:=n) h)
   simp only [List.getD_eq_getElem?_getD,List.getElem?_map,List.getElem?_eq_getElem h,Option.map_some,Option.getD_some] at this ⊢
   exact this
  ·rw [List.getD_eq_getElem?_getD,List.getElem?_eq_none (by simpa using h),List.getD_eq_getElem?_getD,List.getElem?_eq_none (by simpa using h)]
   trivial) with ⟨e1,e2⟩ | ⟨x,y,e1,e2,hp⟩
 ·rw [e1,e2];trivial
 ·rw [e1,e2]
  exact evOp_perm (hg q) hi (hp 0) (hp 1)
theorem valsM_perm (e:Ex) {a b:List Row} (h:a.Perm b):(vk e a).Perm (vk e b):=(h.map _).filter _
theorem sortV_perm2 {a b:List Val} (h:a.Perm b):sortV a=sortV b:=
 ((qn a).trans (h.trans (qn b).symm)).eq_of_pairwise (fun x y _ _ h1 h2=>leM_anti x y h1 h2) (qK a) (qK b)
theorem aggM_perm (fn:Int) (e:Ex) {a b:List Row} (h:a.Perm b):aggM fn e a=aggM fn e b:=by
 unfold aggM
 rw [sortV_perm2 (valsM_perm e h),h.length_eq]
theorem aggsR_perm (q:Qr) {a b:List Row} (h:a.Perm b):gC q a=gC q b:=by
 unfold gC
 exact List.map_congr_left fun a _=>aggM_perm _ _ h
theorem grpsR_perm (q:Qr) {a b ks ls:List Row} (h:a.Perm b) (hk:ks.Perm ls):(grpsR q a ks).Perm (grpsR q b ls):=by
 have: ∀k,(k++gC q (a.filter fun r=>cmpR (keyR q r) k==0))=k++gC q (b.filter fun r=>cmpR (keyR q r) k==0):=fun k=>by rw [aggsR_perm q (h.filter _)]
 unfold grpsR
 simp only [this]
 exact hk.map _
def addK (acc:List Row) (k:Row):List Row:=if acc.any (fun x=>cmpR x k==0)=true then acc else acc++[k]
def focc (l:List Row):List Row:=l.foldl addK []
theorem any_mem (l:List Row) (k:Row):l.any (fun x=>cmpR x k==0)=true ↔ k∈l:=by
 rw [List.any_eq_true]
 constructor
 ·rintro ⟨x,h1,h2⟩
  have:=(ul x k).1 (by simpa using h2)
  rw [<-this];exact h1
 ·exact fun h=>⟨k,h,by simp [yI]⟩
theorem addK_spec (acc:List Row) (k:Row) (h:acc.Nodup):(addK acc k).Nodup/\ ∀x,x∈addK acc k ↔ x∈acc\/x=k:=by
 unfold addK
 split
 ·rename_i hm
  have hm':=(any_mem _ _).1 hm
  exact ⟨h,fun x=>⟨.inl,fun q=>q.elim id fun e=>e ▸ hm'⟩⟩
 ·rename_i hm
  have hm':k ∉ acc:=fun q=>hm ((any_mem _ _).2 q)
  refine ⟨?_,fun x=>by simp⟩
  rw [List.nodup_append]
  exact ⟨h,by simp,fun a ha b hb=>by simp at hb;subst hb;exact fun e=>hm' (e ▸ ha)⟩
theorem qx: ∀(l acc:List Row),acc.Nodup->(l.foldl addK acc).Nodup/\ ∀x,x∈l.foldl addK acc ↔ x∈acc\/x∈l
 | [],acc,h=>⟨h,by simp⟩
 | k::l,acc,h=>by
   obtain ⟨h1,h2⟩:=addK_spec acc k h
   obtain ⟨h3,h4⟩:=qx l _ h1
   refine ⟨h3,fun x=>?_⟩
   rw [List.foldl_cons,h4,h2,List.mem_cons,or_assoc]
theorem focc_nodup (l:List Row):(focc l).Nodup:=(qx l [] List.nodup_nil).1
theorem focc_mem (l:List Row) (x:Row):x∈focc l ↔ x∈l:=by unfold focc;simpa using (qx l [] List.nodup_nil).2 x
theorem jw {x:Row} {l:List Row} (h:Asc leR (x::l)):(∀y∈l,leR x y=true)/\Asc leR l:=List.pairwise_cons.1 h
theorem drop_gt: ∀(l:List Row) (r:Row),Asc leR l→(∀y∈l,leR r y=true)→(∀y∈l.drop (cntR r l),cmpR r y<0)∧(∀y∈l.take (cntR r l),y=r)
 | [],r,_,_=>by simp
 | x::l,r,h,hr=>by
   obtain ⟨h1,h2⟩:=jw h
   rw [wN]
   split
   ·rename_i hx
    have:=(ul x r).1 hx
    subst this
    obtain ⟨g1,g2⟩:=drop_gt l x h2 h1
    exact ⟨by simpa using g1,by simpa using g2⟩
   ·rename_i hx
    refine ⟨fun y hy=>?_,by simp⟩
    have hlt:cmpR r x<0:=by
     have a1:=(uj r x).1 (hr x (by simp))
     by_cases e:cmpR r x=0
     ·have:=(ul r x).1 e
      subst this
      exact absurd (yI r) hx
     ·omega
    simp only [List.drop_zero,List.mem_cons] at hy
    rcases hy with rfl | hy
    ·exact hlt
    ·have a1:=(uj x y).1 (h1 y hy)
     by_cases e:cmpR x y=0
     ·rw [<-(ul x y).1 e];exact hlt
     ·exact qB _ _ _ hlt (by omega)
theorem grp_heads: ∀(n:Nat) (X:List Row),X.length<=n->Asc leR X->((grpM X []).map (·.row)).Pairwise (fun a b=>cmpR a b<0)/\ ∀x,x∈(grpM X []).map (·.row) ↔ x∈X
 | n,[],_,_=>by simp [ge]
 | 0,x::X,h,_=>by simp at h
 | n+1,x::X,h,ha=>by
   obtain ⟨h1,h2⟩:=jw ha
   have hp:yb (x::X) []=x:=rfl
   rw [vq (by simp),hp]
   have hall: ∀y∈x::X,leR x y=true:=fun y hy=>by
    rcases List.mem_cons.1 hy with rfl | hy
    ·exact (uj _ _).2 (by rw [yI];omega)
    ·exact h1 y hy
   obtain ⟨d1,d2⟩:=drop_gt (x::X) x ha hall
   have hc:0<cntR x (x::X):=by rw [wN,if_pos (yI x)];omega
   obtain ⟨g1,g2⟩:=grp_heads n ((x::X).drop (cntR x (x::X))) (by simp at h ⊢;omega) (List.Pairwise.sublist (List.drop_sublist _ _) ha)
   simp only [List.drop_nil,List.map_cons]
   refine ⟨List.pairwise_cons.2 ⟨fun y hy=>d1 y ((g2 y).1 hy),g1⟩,fun y=>?_⟩
   rw [List.mem_cons,g2]
   constructor
   ·rintro (rfl | hy)
    ·simp
    ·exact List.mem_of_mem_drop hy
   ·intro hy
    rw [<-List.take_append_drop (cntR x (x::X)) (x::X),List.mem_append] at hy
    exact hy.elim (fun q=> .inl (d2 y q)) .inr
theorem vw (l:List Row):(distM l).Pairwise (fun a b=>cmpR a b<0)/\ ∀x,x∈distM l ↔ x∈l:=by
 rw [distM_eq]
 obtain ⟨h1,h2⟩:=grp_heads _ (srt l) (Nat.le_refl _) (yR ordR l)
 exact ⟨h1,fun x=>(h2 x).trans (zA l).mem_iff⟩
theorem kB (l:List Row):(distM l).Nodup:=(vw l).1.imp fun h e=>by rw [e,yI] at h;omega
def gkP (q:Qr) (rows:List Row):List Row:=if q.exprs.length=0 then [[]] else distM (rows.map (keyR q))
def gkR (q:Qr) (rows:List Row):List Row:=if q.exprs.length=0 then [[]] else focc (rows.map (keyR q))
def grP (q:Qr) (rows:List Row):List Row:=grpsR q rows (gkP q rows)
def grR (q:Qr) (rows:List Row):List Row:=grpsR q rows (gkR q rows)
theorem nodup_perm {a b:List Row} (ha:a.Nodup) (hb:b.Nodup) (h: ∀x,x∈a ↔ x∈b):a.Perm b:=(List.perm_ext_iff_of_nodup ha hb).2 h
theorem gk_perm (q:Qr) {a b:List Row} (h:a.Perm b):(gkP q a).Perm (gkP q b)/\(gkP q a).Perm (gkR q b):=by
 have hm:=h.map (keyR q)
 unfold gkP gkR
 split
 ·exact ⟨List.Perm.refl _,List.Perm.refl _⟩
 ·refine ⟨nodup_perm (kB _) (kB _) fun x=>?_,nodup_perm (kB _) (focc_nodup _) fun x=>?_⟩
  ·rw [(vw _).2,(vw _).2,hm.mem_iff]
  ·rw [(vw _).2,focc_mem,hm.mem_iff]
theorem grPR_perm (q:Qr) (a b:List Row) (h:a.Perm b):(grP q a).Perm (grR q b):=grpsR_perm q h (gk_perm q h).2
def ansM (o:Option (List Row)):List Row×Int:=match o with
 | some l=>(srt l,0)
 | none=>([],8)
theorem ansM_rel {a b:Option (List Row)} (h:relO a b):ansM a=ansM b:=by
 cases a<;>cases b<;>simp only [relO] at h
 ·rfl
 ·simp only [ansM,qJ h]
theorem ans_PR (s:Sch) (i:Inst) (q:Qr):ansM (evQ grP s i q)=ansM (evQ grR s i q):=ansM_rel (evQ_perm grPR_perm (fun _=>List.Perm.refl _) q)
end
section
open Go.Am
attribute [local simp, local push_cast] num boo str ints aV aTab zv aS aT aC yu x4 xf vQ
theorem qM: ∀(a b:List Ex) (n:Int),sizeL n (a++b)=sizeL (sizeL n a) b
 | [],b,n=>rfl
 | e::a,b,n=>by simp only [List.cons_append,sizeL];exact qM a b _
theorem argsQ_nil:xi []=[]:=rfl
theorem c_rqdepth: ∀q:Qr,OkQ q->ACall Tryz.prog 70 [aQ q] [] (num (vg q)) []:=
 kg (p:=fun q=>OkQ q->ACall Tryz.prog 70 [aQ q] [] (num (vg q)) []) fun q ih ho=>by
 have hq:=ho.one
 have hkl:=hq.kids
 rw [yD]
 refine zn mixed ttok Tryz.func70 Tryz.ntmps70 Tryz.results70 ?_
 generalize hr:num (vg q)=R
 simp -implicitDefEqProofs only [argT,↓zb,push_cast,simprocAttr,tte]
 refine zo mixed ttok 4 [1] [1] (by simp only [zC,ends,push_cast,simprocAttr];rfl) (by simp only [zH,zp,ends,push_cast,simprocAttr];rfl) q.kids.length (fun _=>True) (fun n=>[(3,num (depthQs 0 (q.kids.take n)))]) (fun _=>[]) trivial ?_ ?_
 ·exact Weak.keepL (by simp [cst,depthQs,ends]) (by simp [cst,vQ,ends]) (by simp [cst,ends])
 intro I hI n hn hi
 simp -implicitDefEqProofs only [cst,vQ,↓zb,push_cast,simprocAttr,tte]
 refine za (fun h=>?_) fun h=>?_
 ·have h':n<q.kids.length:=by have:=of_decide_eq_true h;omega
  have hw:=zj h' (by omega)
  have ht:=jN (q.kids.getD n default) (q.kids.take n) 0
  rw [<-z7 _ _ h'] at ht
  refine ⟨(by first | omega | trivial | (refine ⟨?_,?_⟩<;>first | omega | trivial | (refine ⟨?_,?_⟩<;>first | omega | trivial | (refine ⟨?_,?_⟩<;>first | omega | trivial | rfl)))),?_⟩
  have hc:=ih _ (zk h') (ho.kid (zk h'))
  rw [yD] at hc
  refine ze [[0,0,0,0,0,0,0,0,0,6,6,7,1,1,15]] [] (hc) ?_
  simp -implicitDefEqProofs only [↓zb,push_cast,simprocAttr,tte]
  exact zq hI n rfl h' trivial (by simp [hw,ht,vQ,ends]) (by simp [hw,ht,vQ,ends]) (by simp [hw,ht,vQ,ends]) (by simp [hw,ht,vQ,ends])
 obtain rfl:n=q.kids.length:=by have:=of_decide_eq_false h;omega
 exact zi trivial (by rw [<-hr,depthQ_eq,List.take_length];rfl) (by simp [ends])
theorem c_rqsize: ∀q:Qr,OkQ q→ACall Tryz.prog 43 [aQ q] [] (num (jd q)) []:=
 kg (p:=fun q=>OkQ q->ACall Tryz.prog 43 [aQ q] [] (num (jd q)) []) fun q ih ho=>by
 have hq:=ho.one
 have hel:=hq.exprs
 have hal:=hq.aggs
 have hrl:=hq.rows
 have hkl:=hq.kids
 rw [yD]
 refine zn mixed ttok Tryz.func43 Tryz.ntmps43 Tryz.results43 ?_
 generalize hr:num (jd q)=R
 obtain ⟨e4,he4⟩: ∃b,(q.op==4)=b:=⟨_,rfl⟩
 obtain ⟨e10,he10⟩: ∃b,(q.op==10)=b:=⟨_,rfl⟩
 obtain ⟨E1,hE1⟩: ∃l,(if (e4 || e10)=true then q.exprs else [])=l:=⟨_,rfl⟩
 obtain ⟨G,hG⟩: ∃l,(if e10=true then q.aggs else [])=l:=⟨_,rfl⟩
 obtain ⟨s0,hs0⟩: ∃s,(if (q.op==3 || q.op==5)=true then IntKind.i64.wrap (1+wD q.cond) else 1)=s:=⟨_,rfl⟩
 have hM:jd q=sizeQs (jg (sizeL (sizeL s0 E1) (xi G)) q.rows) q.kids:=by
  have hx:sizeL 1 (xw q)=sizeL (sizeL s0 E1) (xi G):=by
   unfold xw
   rw [he4,he10,qM]
   subst hE1;subst hG;subst hs0
   cases h35:(q.op==3 || q.op==5) with
   | true=>
     have h4:e4=false:=by rw [<-he4];simp only [Bool.or_eq_true,beq_iff_eq] at h35;exact beq_eq_false_iff_ne.2 (by omega)
     have h10:e10=false:=by rw [<-he10];simp only [Bool.or_eq_true,beq_iff_eq] at h35;exact beq_eq_false_iff_ne.2 (by omega)
     rw [h4,h10]
     rfl
   | false=>
     cases e10<;>cases e4<;>rfl
  rw [sizeQ_eq,hx]
 have hE1l:E1.length<=1000:=by
  rw [<-hE1]
  split
  ·exact hel
  ·exact Nat.zero_le _
 have hGl:G.length<=1000:=by
  rw [<-hG]
  split
  ·exact hal
  ·exact Nat.zero_le _
 have hE1x: ∀e∈E1,Ok12 e:=by
  rw [<-hE1]
  split
  ·exact hq.ex
  ·exact fun _ h=>by cases h
 have hGx: ∀a∈G,Ok12 a.arg:=by
  rw [<-hG]
  split
  ·exact hq.ag
  ·exact fun _ h=>by cases h
 have hc0:=gw q.cond hq.cond
 rw [xx] at hc0
 simp -implicitDefEqProofs only [argT,he4,he10,↓zb,push_cast,simprocAttr,tte]
 refine za (fun h3=>?_) (fun h3=>za (fun h5=>?_) (fun h5=>?_))
 all_goals first
  | (rw [if_pos (by rw [h3];rfl)] at hs0
     refine ze [[0,0,0,0,0,6]] [] (hc0) ?_
     simp -implicitDefEqProofs only [↓zb,push_cast,simprocAttr,tte])
  | (rw [if_pos (by rw [h3,h5];rfl)] at hs0
     refine ze [[0,0,0,0,0,6]] [] (hc0) ?_
     simp -implicitDefEqProofs only [↓zb,push_cast,simprocAttr,tte])
  | rw [if_neg (by rw [h3,h5];decide)] at hs0
 all_goals
  refine zo mixed ttok 4 [1] [1] (by simp only [zC,ends,push_cast,simprocAttr];rfl) (by simp only [zH,zp,ends,push_cast,simprocAttr];rfl) E1.length (fun _=>True) (fun n=>[(3,num (sizeL s0 (E1.take n)))]) (fun _=>[]) trivial ?_ ?_
  ·exact Weak.keepL (by simp [cst,sizeL,<-hs0,ends]) (by simp [cst,vQ,ends]) (by simp [cst,ends])
  intro I hI n hn hi
  simp -implicitDefEqProofs only [cst,vQ,he4,he10,↓zb,push_cast,simprocAttr,tte]
  cases hc:(e4 || e10)
  all_goals first
   | (have hEq:E1=q.exprs:=by rw [←hE1,hc];rfl
      subst hEq
      refine za (fun h=>?_) (fun h=>?_)
      ·
       have h':n<q.exprs.length:=by have:=of_decide_eq_true h;omega
       have hw:=zj h' (by omega)
       have ht:=vo (q.exprs.getD n default) (q.exprs.take n) s0
       rw [<-z7 _ _ h'] at ht
       have hcs:=gw (q.exprs.getD n default) (hE1x _ (zk h'))
       rw [xx] at hcs
       refine za (fun _=>?_) (fun g4=>za (fun _=>?_) (fun g10=>absurd hc (by rw [g4,g10];decide)))<;>
        (refine ⟨(by first | omega | trivial | (refine ⟨?_,?_⟩<;>first | omega | trivial | (refine ⟨?_,?_⟩<;>first | omega | trivial | (refine ⟨?_,?_⟩<;>first | omega | trivial | rfl)))),?_⟩
         refine ze [[0,0,0,0,0,6]] [] (hcs) ?_
         simp -implicitDefEqProofs only [↓zb,push_cast,simprocAttr,tte]
         exact zq hI n rfl h' trivial (by simp [hw,ht,vQ,ends]) (by simp [hw,ht,vQ,ends]) (by simp [hw,ht,vQ,ends]) (by simp [hw,ht,vQ,ends]))
      have hnE:n=q.exprs.length:=by have:=of_decide_eq_false h;omega)
   | (have hEq:E1=[]:=by rw [←hE1,hc];rfl
      subst hEq
      have g4:e4=false:=by cases e4<;>first | rfl | cases hc
      have g10:e10=false:=by cases e10<;>first | rfl | (cases e4<;>cases hc)
      simp -implicitDefEqProofs only [g4,g10,↓zb,push_cast,simprocAttr,tte]
      have hnE:n=([]:List Ex).length:=by simpa using hn
      refine za (fun h=>?_) (fun h=>?_))
 all_goals
  subst hnE
  clear hI hn hi hc
  try rw [List.take_length]
  first | (simp only [sizeL] at hM ⊢;revert hM;generalize s0=s1;intro hM) | generalize sizeL s0 q.exprs=s1 at hM ⊢
  clear I h
  refine zo mixed ttok 5 [1] [1] (by simp only [zC,ends,push_cast,simprocAttr];rfl) (by simp only [zH,zp,ends,push_cast,simprocAttr];rfl) G.length (fun _=>True) (fun n=>[(3,num (sizeL s1 (xi (G.take n))))]) (fun _=>[]) trivial ?_ ?_
  ·exact Weak.keepL (by simp [cst,sizeL,xi,ends]) (by simp [cst,vQ,ends]) (by simp [cst,ends])
  intro I hI n hn hi
  simp -implicitDefEqProofs only [cst,vQ,he10,↓zb,push_cast,simprocAttr,tte]
  cases e10
  all_goals first
   | (cases g10;done)
   | (have hEq:G=[]:=by rw [←hG];rfl
      subst hEq
      simp -implicitDefEqProofs only [↓zb,push_cast,simprocAttr,tte]
      have hnE:n=([]:List Agg).length:=by simpa using hn
      refine za (fun h=>?_) (fun h=>?_))
   | (have hEq:G=q.aggs:=by rw [←hG];rfl
      subst hEq
      simp -implicitDefEqProofs only [↓zb,push_cast,simprocAttr,tte]
      refine za (fun h=>?_) (fun h=>?_)
      ·
       have h':n<q.aggs.length:=by have:=of_decide_eq_true h;omega
       have hw:=zj h' (by omega)
       have ht:xi (q.aggs.take (n+1))=xi (q.aggs.take n)++(if (q.aggs.getD n default).fn==1 then [] else [(q.aggs.getD n default).arg]):=by
        rw [<-argsQ_snoc,z7 _ _ h']
       refine ⟨(by first | omega | trivial | (refine ⟨?_,?_⟩<;>first | omega | trivial | (refine ⟨?_,?_⟩<;>first | omega | trivial | (refine ⟨?_,?_⟩<;>first | omega | trivial | rfl)))),?_⟩
       refine za (fun g=>?_) fun g=>?_
       ·have g':((q.aggs.getD n default).fn==1)=false:=by simpa [bne] using g
        rw [g',if_neg (by decide)] at ht
        have ht2:=vo (q.aggs.getD n default).arg (xi (q.aggs.take n)) s1
        rw [<-ht] at ht2
        have hcs:=gw (q.aggs.getD n default).arg (hGx _ (zk h'))
        rw [xx] at hcs
        refine ⟨(by first | omega | trivial | (refine ⟨?_,?_⟩<;>first | omega | trivial | (refine ⟨?_,?_⟩<;>first | omega | trivial | (refine ⟨?_,?_⟩<;>first | omega | trivial | rfl)))),?_⟩
        refine ze [[0,0,0,0,0,6]] [] (hcs) ?_
        simp -implicitDefEqProofs only [↓zb,push_cast,simprocAttr,tte]
        exact zq hI n rfl h' trivial (by simp [hw,ht2,vQ,ends]) (by simp [hw,ht2,vQ,ends]) (by simp [hw,ht2,vQ,ends]) (by simp [hw,ht2,vQ,ends])
       ·have g':((q.aggs.getD n default).fn==1)=true:=by simpa [bne] using g
        rw [g',if_pos rfl,List.append_nil] at ht
        exact zq hI n rfl h' trivial (by simp [hw,ht,vQ,ends]) (by simp [hw,ht,vQ,ends]) (by simp [hw,ht,vQ,ends]) (by simp [hw,ht,vQ,ends])
      have hnE:n=q.aggs.length:=by have:=of_decide_eq_false h;omega)
 all_goals
  subst hnE
  clear hI hn hi
  try rw [List.take_length]
  first | (simp only [sizeL,argsQ_nil] at hM ⊢;revert hM;generalize s1=s2;intro hM) | generalize sizeL s1 (xi q.aggs)=s2 at hM ⊢
  clear I h
  refine zo mixed ttok 6 [1] [1] (by simp only [zC,ends,push_cast,simprocAttr];rfl) (by simp only [zH,zp,ends,push_cast,simprocAttr];rfl) q.rows.length (fun _=>True) (fun n=>[(3,num (jg s2 (q.rows.take n)))]) (fun _=>[]) trivial ?_ ?_
  ·exact Weak.keepL (by simp [cst,jg,ends]) (by simp [cst,vQ,ends]) (by simp [cst,ends])
  intro I hI n hn hi
  simp -implicitDefEqProofs only [cst,vQ,↓zb,push_cast,simprocAttr,tte]
  refine za (fun h=>?_) fun h=>?_
  ·have h':n<q.rows.length:=by have:=of_decide_eq_true h;omega
   have hw:=zj h' (by omega)
   have ht:=qo (q.rows.getD n default) (q.rows.take n) s2
   rw [<-z7 _ _ h'] at ht
   refine ⟨(by first | omega | trivial | (refine ⟨?_,?_⟩<;>first | omega | trivial | (refine ⟨?_,?_⟩<;>first | omega | trivial | (refine ⟨?_,?_⟩<;>first | omega | trivial | rfl)))),?_⟩
   exact zq hI n rfl h' trivial (by simp [hw,ht,vQ,ends]) (by simp [hw,ht,vQ,ends]) (by simp [hw,ht,vQ,ends]) (by simp [hw,ht,vQ,ends])
  obtain rfl:n=q.rows.length:=by have:=of_decide_eq_false h;omega
  clear hI
  rw [List.take_length]
  generalize jg s2 q.rows=s3 at hM ⊢
  refine zo mixed ttok 7 [1] [1] (by simp only [zC,ends,push_cast,simprocAttr];rfl) (by simp only [zH,zp,ends,push_cast,simprocAttr];rfl) q.kids.length (fun _=>True) (fun n=>[(3,num (sizeQs s3 (q.kids.take n)))]) (fun _=>[]) trivial ?_ ?_
  ·exact Weak.keepL (by simp [cst,sizeQs,ends]) (by simp [cst,vQ,ends]) (by simp [cst,ends])
  intro I hI n hn hi
  simp -implicitDefEqProofs only [cst,vQ,↓zb,push_cast,simprocAttr,tte]
  refine za (fun h=>?_) fun h=>?_
  ·have h':n<q.kids.length:=by have:=of_decide_eq_true h;omega
   have hw:=zj h' (by omega)
   have ht:=jZ (q.kids.getD n default) (q.kids.take n) s3
   rw [<-z7 _ _ h'] at ht
   refine ⟨(by first | omega | trivial | (refine ⟨?_,?_⟩<;>first | omega | trivial | (refine ⟨?_,?_⟩<;>first | omega | trivial | (refine ⟨?_,?_⟩<;>first | omega | trivial | rfl)))),?_⟩
   have hc:=ih _ (zk h') (ho.kid (zk h'))
   rw [yD] at hc
   refine ze [[0,0,0,0,0,0,0,0,0,6,6,7,1,1,15]] [] (hc) ?_
   simp -implicitDefEqProofs only [↓zb,push_cast,simprocAttr,tte]
   exact zq hI n rfl h' trivial (by simp [hw,ht,vQ,ends]) (by simp [hw,ht,vQ,ends]) (by simp [hw,ht,vQ,ends]) (by simp [hw,ht,vQ,ends])
  obtain rfl:n=q.kids.length:=by have:=of_decide_eq_false h;omega
  exact zi trivial (by rw [<-hr,hM,List.take_length];rfl) (by simp [ends])
end
section
open Go.Am
attribute [local simp, local push_cast] num boo str ints aV aTab zv aS aT aC yu x4 xf zL aAgg
theorem c_rsame0 (e:Ex) (hl:e.kids.length<=1000):ACall Tryz.prog 213 [aE e,aE e0] [] (boo (uK e)) []:=by
 rw [xx,aE_e0]
 refine zn mixed ttok Tryz.func213 Tryz.ntmps213 Tryz.results213 ?_
 generalize hr:boo (uK e)=R
 have he:ByteArray.empty.toList=[]:=by simp [ByteArray.toList_eq]
 simp -implicitDefEqProofs only [argT,he,↓zb,push_cast,simprocAttr,tte]
 unfold uK at hr
 refine za (fun h1=>?_) fun h1=>?_
 ·exact zi trivial (by rw [<-hr,show (e.op==0)=false by simpa [bne] using h1];rfl) (by simp [ends])
 have g1:(e.op==0)=true:=by simpa [bne] using h1
 refine za (fun h2=>?_) fun h2=>?_
 ·exact zi trivial (by rw [<-hr,g1,show (e.type==0)=false by simpa [bne] using h2];rfl) (by simp [ends])
 have g2:(e.type==0)=true:=by simpa [bne] using h2
 refine za (fun h3=>?_) fun h3=>?_
 ·exact zi trivial (by rw [<-hr,g1,g2,show (e.num==0)=false by simpa [bne] using h3];rfl) (by simp [ends])
 have g3:(e.num==0)=true:=by simpa [bne] using h3
 refine za (fun h4=>?_) fun h4=>?_
 ·exact zi trivial (by rw [<-hr,g1,g2,g3,show (e.text.toList==[])=false by simpa using h4];rfl) (by simp [ends])
 have g4:(e.text.toList==[])=true:=by simpa using h4
 refine za (fun h5=>?_) fun h5=>?_
 ·exact zi trivial (by rw [<-hr,g1,g2,g3,g4,show (e.col==0)=false by simpa [bne] using h5];rfl) (by simp [ends])
 have g5:(e.col==0)=true:=by simpa [bne] using h5
 refine za (fun h6=>?_) fun h6=>?_
 ·have h6': ¬e.kids.length=0:=by simp at h6;intro h;rw [List.length_eq_zero_iff] at h;exact h6 h
  exact zi trivial (by rw [<-hr,g1,g2,g3,g4,g5,show (e.kids.length==0)=false from beq_eq_false_iff_ne.2 h6'];rfl) (by simp [ends])
 have h6':e.kids.length=0:=by simp at h6;rw [h6];rfl
 refine zo mixed ttok 5 [2,3] [2,3] (by simp only [zC,ends,push_cast,simprocAttr];rfl) (by simp only [zH,zp,ends,push_cast,simprocAttr];rfl) 0 (fun _=>True) (fun _=>[]) (fun _=>[]) trivial ?_ ?_
 ·exact Weak.keepL (by simp [cst,ends]) (by simp [cst,ends]) (by simp [cst,ends])
 intro I hI n hn hi
 obtain rfl:n=0:=by omega
 simp -implicitDefEqProofs only [cst,h6',↓zb,push_cast,simprocAttr,tte]
 exact zi trivial (by rw [<-hr,g1,g2,g3,g4,g5,h6'];rfl) (by simp [ends])
theorem c_zero4 (e:Ex) (hl:e.kids.length<=1000):ACall Tryz.prog 181 [aE e] [] (boo (uK e)) []:=by
 have hc:=c_rsame0 e hl
 rw [xx,aE_e0] at hc
 rw [xx]
 refine zn mixed ttok Tryz.func181 Tryz.ntmps181 Tryz.results181 ?_
 simp -implicitDefEqProofs only [argT,↓zb,push_cast,simprocAttr,tte]
 refine ze [[0,0,0,0,0,6],[0,0,0,0,0,6]] [] (hc) ?_
 simp -implicitDefEqProofs only [↓zb,push_cast,simprocAttr,tte]
 exact zi trivial rfl (by simp [ends])
def kids4 (op:Int):Int:=if op=1\/op=2 then 0 else if op=5\/op=6\/op=7\/op=8 then 2 else 1
theorem c_kids4 (op:Int):ACall Tryz.prog 125 [num op] [] (num (kids4 op)) []:=by
 refine zn mixed ttok Tryz.func125 Tryz.ntmps125 Tryz.results125 ?_
 generalize hr:num (kids4 op)=R
 unfold kids4 at hr
 simp -implicitDefEqProofs only [argT,↓zb,push_cast,simprocAttr,tte]
 repeat' first
  | exact zi trivial (by rw [<-hr];simp_all) (by simp [ends])
  | (refine za (fun h=>?_) fun h=>?_<;>(try simp only [beq_iff_eq,beq_eq_false_iff_ne] at h))
theorem c_cond4 (ts:List Int) (hts:ts.length<=1000000) (e:Ex) (ho:Ok12 e):ACall Tryz.prog 127 [ints ts,aE e] [] (num (uh ts e)) []:=by
 have hc:=c_rtype ts (by omega) e ho
 rw [xx] at hc ⊢
 refine zn mixed ttok Tryz.func127 Tryz.ntmps127 Tryz.results127 ?_
 generalize hr:num (uh ts e)=R
 unfold uh at hr
 simp -implicitDefEqProofs only [argT,↓zb,push_cast,simprocAttr,tte]
 refine ze [[1],[0,0,0,0,0,6]] [] (hc) ?_
 generalize yC (ownM ts) e=T at hr ⊢
 simp -implicitDefEqProofs only [zL,↓zb,push_cast,simprocAttr,tte]
 refine za (fun h1=>?_) fun h1=>?_
 ·have h1': ¬T.2=0:=by simpa using h1
  exact zi trivial (by rw [<-hr,if_neg (fun h=>h1' h.1)];rfl) (by simp [ends])
 have h1':T.2=0:=by simpa using h1
 refine za (fun h2=>?_) fun h2=>?_
 ·have h2': ¬T.1=2:=by simpa using h2
  exact zi trivial (by rw [<-hr,if_pos ⟨h1',h2'⟩];rfl) (by simp [ends])
 ·have h2':T.1=2:=by simpa using h2
  exact zi trivial (by rw [<-hr,if_neg (fun h=>h.2 h2'),h1'];rfl) (by simp [ends])
def u4 (q:Qr):Bool:=
 ((decide (1≤q.op)&&decide (q.op≤10))&& !((((!q.table.toList==[])&&q.op !=1) || (q.kind !=0&&q.op !=5)) || (q.all&& !((q.op==6 || q.op==7) || q.op==8))))&&
   (!((((!uK q.cond)&&q.op !=3)&&q.op !=5) || ((decide ((q.exprs.length:Int)>0)&&q.op !=4)&&q.op !=10))&&
    !(((decide ((q.aggs.length:Int)>0)&&q.op !=10) || (decide ((q.types.length:Int)>0)&&q.op !=2)) || (decide ((q.rows.length:Int)>0)&&q.op !=2)))
theorem c_plain4 (q:Qr) (hl:q.cond.kids.length<=1000):ACall Tryz.prog 124 [aQ q] [] (boo (u4 q)) []:=by
 have hc:=c_zero4 q.cond hl
 rw [xx] at hc
 rw [yD]
 refine zn mixed ttok Tryz.func124 Tryz.ntmps124 Tryz.results124 ?_
 generalize hr:boo (u4 q)=R
 have he:(ByteArray.mk #[]).toList=[]:=by simp [ByteArray.toList_eq]
 simp -implicitDefEqProofs only [argT,he,↓zb,push_cast,simprocAttr,tte]
 refine za (fun lo=>?_) fun lo=>?_
 ·exact zi trivial (by rw [<-hr,u4,show decide (1<=q.op)=false from decide_eq_false (by have:=of_decide_eq_true lo;omega)];rfl) (by simp [ends])
 refine za (fun hi=>?_) fun hi=>?_
 ·exact zi trivial (by rw [<-hr,u4,show decide (q.op<=10)=false from decide_eq_false (by have:=of_decide_eq_true hi;omega),Bool.and_false];rfl) (by simp [ends])
 have ho:q.op=1\/q.op=2\/q.op=3\/q.op=4\/q.op=5\/q.op=6\/q.op=7\/q.op=8\/q.op=9\/q.op=10:=by
  have:=of_decide_eq_false lo
  have:=of_decide_eq_false hi
  omega
 clear lo hi
 unfold u4 at hr
 generalize hs:uK q.cond=S at hr hc
 rcases ho with h | h | h | h | h | h | h | h | h | h
 all_goals
  simp -implicitDefEqProofs only [h,↓zb,push_cast,simprocAttr,tte]
  repeat' first
   | exact zi trivial (by rw [<-hr,h];simp only [*];rfl) (by simp [ends])
   | (refine ze [[0,0,0,0,0,6]] [] (hc) ?_
      simp -implicitDefEqProofs only [h,↓zb,push_cast,simprocAttr,tte])
   | (refine za (fun _=>?_) fun _=>?_)
end
section
open Go.Am
attribute [local simp, local push_cast] num boo str ints aV aTab zv aS aT aC yu x4 xf zL aAgg
theorem c_join4 (a b:List Int) (q:Qr) (ha:a.length<=1000) (hb:b.length<=1000) (hq:OkQ1 q):ACall Tryz.prog 129 [ints a,ints b,aQ q] [] (zM (qh a b q)) []:=by
 rw [yD]
 refine zn mixed ttok Tryz.func129 Tryz.ntmps129 Tryz.results129 ?_
 generalize hr:zM (qh a b q)=R
 have hwl:IntKind.i64.wrap ((a.length:Int)+b.length)=(a.length:Int)+b.length:=zw (by omega) (by omega)
 have hab:(a++b).length=a.length+b.length:=List.length_append
 unfold qh at hr
 simp -implicitDefEqProofs only [argT,↓zb,push_cast,simprocAttr,tte]
 simp only [hwl]
 refine za (fun k1=>?_) fun k1=>?_
 ·rw [←hr,if_pos (.inl (of_decide_eq_true k1)),zM]
  refine zx [[1],[0]] rfl (by simp) (by simp [zc]<;>omega) ?_ (by first | rfl | simp [ends] | (subst_vars;simp [ends])) (by simp [ends]) (by simp [ends])
  rfl
 refine za (fun k2=>?_) fun k2=>?_
 ·rw [←hr,if_pos (.inr (of_decide_eq_true k2)),zM]
  refine zx [[1],[0]] rfl (by simp) (by simp [zc]<;>omega) ?_ (by first | rfl | simp [ends] | (subst_vars;simp [ends])) (by simp [ends]) (by simp [ends])
  rfl
 rw [if_neg (fun h=>h.elim (of_decide_eq_false k1) (of_decide_eq_false k2))] at hr
 refine za (fun k3=>?_) fun k3=>?_
 ·have k3':(a++b).length>24:=by have:=of_decide_eq_true k3;omega
  rw [<-hr,if_pos k3',zM]
  refine zx [[1],[0]] rfl (by simp) (by simp [zc]<;>omega) ?_ (by first | rfl | simp [ends] | (subst_vars;simp [ends])) (by simp [ends]) (by simp [ends])
  rfl
 have k3': ¬(a++b).length>24:=by have:=of_decide_eq_false k3;omega
 rw [if_neg k3'] at hr
 have hcd:=c_cond4 (a++b) (by omega) q.cond hq.cond
 rw [xx] at hcd
 have hra:zd rI (a++b)=zd rI a++zd rI b:=by unfold zd;rw [List.map_append]
 unfold ints at hcd
 rw [hra] at hcd
 refine ⟨by omega,by omega,?_⟩
 refine ze [[1],[0,0,0,0,0,6]] [] (hcd) ?_
 simp -implicitDefEqProofs only [↓zb,push_cast,simprocAttr,tte]
 refine za (fun k4=>?_) fun k4=>?_
 ·have k4':uh (a++b) q.cond≠0:=by simpa using k4
  rw [<-hr,if_pos k4',zM]
  refine zx [[1],[0]] rfl (by simp) (by simp [zc]<;>omega) ?_ (by first | rfl | simp [ends] | (subst_vars;simp [ends])) (by simp [ends]) (by simp [ends])
  rfl
 have k4': ¬uh (a++b) q.cond≠0:=by simpa using k4
 rw [if_neg k4'] at hr
 refine za (fun k5=>?_) fun k5=>?_
 ·have k5':q.kind=5:=by simpa using k5
  rw [<-hr,if_pos (.inl k5'),zM]
  refine zx [[1],[0]] rfl (by simp) (by simp [zc]<;>omega) ?_ (by first | rfl | simp [ends] | (subst_vars;simp [ends])) (by simp [ends]) (by simp [ends])
  rfl
 have k5': ¬q.kind=5:=by simpa using k5
 refine za (fun k6=>?_) fun k6=>?_
 ·have k6':q.kind=6:=by simpa using k6
  rw [<-hr,if_pos (.inr k6'),zM]
  refine zx [[1],[0]] rfl (by simp) (by simp [zc]<;>omega) ?_ (by first | rfl | simp [ends] | (subst_vars;simp [ends])) (by simp [ends]) (by simp [ends])
  rfl
 have k6': ¬q.kind=6:=by simpa using k6
 rw [<-hr,if_neg (fun h=>h.elim k5' k6'),zM,ints,hra]
 refine zx [[1],[0]] rfl (by simp) (by simp [zc]<;>omega) ?_ (by first | rfl | simp [ends] | (subst_vars;simp [ends])) (by simp [ends]) (by simp [ends])
 rfl
end
section
open Go.Am
attribute [local simp, local push_cast] num boo str ints aV aTab zv aS aT aC yu x4 xf zL aAgg
end
section
open Go.Am
attribute [local simp, local push_cast] num boo str ints aV aTab zv aS aT aC yu x4 xf zL aAgg
def has (o:FmD) (w:ByteArray):Bool:=Lib.contains (uW o.uses).data.toList (uW w).data.toList
theorem has_tab:(List.range 11).all (fun n=>decide (n=0) || ([(⟨#[116,97,98,108,101]⟩:ByteArray),⟨#[107,105,110,100]⟩,⟨#[97,108,108]⟩,⟨#[99,111,110,100]⟩,⟨#[101,120,112,114,115]⟩,⟨#[97,103,103,115]⟩,⟨#[116,121,112,101,115]⟩,⟨#[114,111,119,115]⟩].map (has (fmTab.getD n default))==
 [n==1,n==5,(n==6 || n==7) || n==8,n==3 || n==5,n==4 || n==10,n==10,n==2,n==2]))=true:=by decide+kernel
theorem fm_cases {op:Int} (h:isFm op=true): ∃n:Nat,op=n/\n<11/\n≠0:=by
 simp only [isFm,Bool.and_eq_true,decide_eq_true_eq] at h
 exact ⟨op.toNat,by omega,by omega,by omega⟩
theorem plain_tab: ∀n∈List.range 11,n=0\/ ∀f1 f2 f3 f4 f5 f6 f7 f8:Bool,
 ((!(f1&& !(n==1)))&&((!(f2&& !(n==5)))&&((!(f3&& !((n==6 || n==7) || n==8)))&&((!(f4&& !(n==3 || n==5)))&&((!(f5&& !(n==4 || n==10)))&&((!(f6&& !(n==10)))&&((!(f7&& !(n==2)))&&((!(f8&& !(n==2)))&&true))))))))=
 (!(((f1&&n !=1) || (f2&&n !=5)) || (f3&& !((n==6 || n==7) || n==8)))&&
 (!(((f4&&n !=3)&&n !=5) || ((f5&&n !=4)&&n !=10))&& !(((f6&&n !=10) || (f7&&n !=2)) || (f8&&n !=2)))):=by decide+kernel
theorem plain_eq (q:Qr):u4 q=(isFm q.op&&xH q (yQ q.op)):=by
 cases h:isFm q.op with
 | false=>
   have h':isFm q.op=false:=h
   have h2:(decide (1<=q.op)&&decide (q.op<=10))=false:=h'
   rw [u4,h2]
   rfl
 | true=>
 have h2:(decide (1<=q.op)&&decide (q.op<=10))=true:=h
 obtain ⟨n,hn,h11,h0⟩:=fm_cases h
 have ht:=all_range.1 has_tab n h11
 rw [decide_eq_false h0,Bool.false_or] at ht
 have ht:=eq_of_beq ht
 simp only [List.map_cons,List.map_nil,List.cons.injEq,and_true] at ht
 obtain ⟨t1,t2,t3,t4,t5,t6,t7,t8⟩:=ht
 have hf:yQ q.op=fmTab.getD n default:=by rw [yQ,if_pos h,fmAt,hn,Int.toNat_natCast]
 have hb: ∀f w,badU (fmTab.getD n default) (w,f)=(f&& !has (fmTab.getD n default) w):=fun _ _=>rfl
 have e: ∀k:Nat,((n:Int)==(k:Int))=(n==k):=fun k=>by
  cases h3:n==k
  ·exact beq_eq_false_iff_ne.2 (by have:=beq_eq_false_iff_ne.1 h3;omega)
  ·exact beq_iff_eq.2 (by have:=eq_of_beq h3;omega)
 rw [hf,Bool.true_and]
 unfold xH wR u4
 rw [h2]
 simp only [List.all_cons,List.all_nil,hb,t1,t2,t3,t4,t5,t6,t7,t8,Bool.true_and]
 have hp:=(plain_tab n (List.mem_range.2 h11)).resolve_left h0
 rw [hp]
 have e1:=e 1
 have e2:=e 2
 have e3:=e 3
 have e4:=e 4
 have e5:=e 5
 have e6:=e 6
 have e7:=e 7
 have e8:=e 8
 have e10:=e 10
 simp only [Int.cast_ofNat_Int] at e1 e2 e3 e4 e5 e6 e7 e8 e10
 simp only [hn,bne,e1,e2,e3,e4,e5,e6,e7,e8,e10]
theorem kids_eq {op:Int} (h:isFm op=true):kids4 op=(yQ op).kids:=by
 obtain ⟨n,rfl,h11,h0⟩:=fm_cases h
 have:n=1\/n=2\/n=3\/n=4\/n=5\/n=6\/n=7\/n=8\/n=9\/n=10:=by omega
 rcases this with rfl | rfl | rfl | rfl | rfl | rfl | rfl | rfl | rfl | rfl<;>rfl
end
section
open Go.Am
attribute [local simp, local push_cast] num boo str ints aV aTab zv aS aT aC yu x4 xf zL aAgg
end
section
open Go.Am
attribute [local simp, local push_cast] num boo str ints aV aTab zv aS aT aC aRow rRow aAgg
inductive OkX:Ex->Prop
 | mk (e:Ex) (h:i64 e.num) (ht:e.text.size<=9223372036854775807) (hk: ∀k∈e.kids,OkX k):OkX e
theorem OkX.num {e:Ex} (h:OkX e):i64 e.num:=by cases h;assumption
theorem OkX.text {e:Ex} (h:OkX e):e.text.size<=9223372036854775807:=by cases h;assumption
theorem OkX.kid {e k:Ex} (h:OkX e) (hk:k∈e.kids):OkX k:=by cases h with | mk _ _ _ h2=>exact h2 k hk
theorem qi:i64 0:=⟨by decide,by decide⟩
theorem i64_1:i64 1:=⟨by decide,by decide⟩
theorem js:ByteArray.empty.size<=9223372036854775807:=Nat.zero_le _
theorem yF:okV zl:=⟨qi,js⟩
theorem jB (b:Bool):okV (ofV b):=by
 cases b
 ·exact ⟨qi,js⟩
 ·exact ⟨i64_1,js⟩
theorem ji {l:List Val} (h: ∀v∈l,okV v) (n:Nat):okV (l.getD n default):=by
 by_cases hn:n<l.length
 ·exact h _ (zk hn)
 ·rw [List.getD_eq_getElem?_getD,List.getElem?_eq_none (by omega)]
  exact ⟨qi,js⟩
theorem qR {n:Int} (h:i64 n):okV ⟨1,n,ByteArray.empty⟩:=⟨h,js⟩
theorem okV_validI (n:Int):okV (wh ⟨1,n,ByteArray.empty⟩):=by
 unfold wh
 split
 ·rename_i h
  have:=vm h rfl
  unfold okN at this
  simp only at this
  exact qR ⟨by omega,by omega⟩
 ·exact yF
theorem okV_validT (s:ByteArray):okV (wh ⟨3,0,s⟩):=by
 unfold wh
 split
 ·rename_i h
  have:=uw h rfl
  exact ⟨qi,by simp only at this ⊢;omega⟩
 ·exact yF
theorem okV_arith (op:Int) (a b:Val):okV (ua op a b):=by
 unfold ua
 split
 ·exact yF
 split
 ·split
  ·exact okV_validI _
  ·exact yF
 split
 ·exact okV_validT _
 ·exact yF
theorem okV_equal (a b:Val):okV (yE a b):=by unfold yE;split<;>first | exact yF | exact jB _
theorem okV_less (a b:Val):okV (wI a b):=by unfold wI;split<;>first | exact yF | exact jB _
theorem okV_not (a:Val):okV (notM a):=by unfold notM;split<;>first | exact yF | exact jB _
theorem okV_and (a b:Val):okV (andM a b):=by unfold andM;split<;>(try split)<;>first | exact yF | exact jB _
theorem okV_or (a b:Val):okV (orM a b):=by unfold orM;split<;>(try split)<;>first | exact yF | exact jB _
theorem okV_in (v:Val): ∀(l:List Val) (out:Val),okV out->okV (inM v out l)
 | [],_,h=>h
 | x::l,out,_=>okV_in v l _ (okV_or _ _)
theorem xb {c:Prop} [Decidable c] {a b:Val} (ha:okV a) (hb:okV b):okV (if c then a else b):=by
 split
 ·exact ha
 ·exact hb
theorem okV_apply (op:Int) (l:List Val) (h: ∀v∈l,okV v):okV (zy op l):=by
 have h0:=ji h 0
 have h1:=ji h 1
 unfold zy
 refine xb (okV_arith _ _ _) (xb (okV_arith _ _ _) (xb (xb (qR ⟨by omega,?_⟩) yF) ?_))
 ·have:=h0.2
  omega
 refine xb (okV_equal _ _) (xb (okV_not _) (xb (okV_less _ _) (xb (okV_not _) (xb (okV_less _ _) (xb (okV_not _) (xb (jB _) (xb (jB _) (xb (okV_and _ _) (xb (okV_or _ _) ?_)))))))))
 exact xb (okV_not _) (xb (jB _) (xb (xb h1 h0) (xb (okV_in _ _ _ (jB _)) yF)))
theorem okV_eval (row:List Val) (hrow: ∀v∈row,okV v): ∀e:Ex,OkX e->okV (xk row e):=
 uY (p:=fun e=>OkX e→okV (xk row e)) fun e ih ho=>by
  have hk: ∀v∈e.kids.map (xk row),okV v:=fun v hv=>by
   obtain ⟨k,hk,rfl⟩:=List.mem_map.1 hv
   exact ih k hk (ho.kid hk)
  rw [evalM_eq]
  unfold zW
  split
  ·exact yF
  split
  ·exact qR ho.num
  split
  ·exact ⟨ho.num,js⟩
  split
  ·exact ⟨qi,ho.text⟩
  split
  ·split
   ·exact ji hrow _
   ·exact yF
  split
  ·split
   ·exact ji hk _
   ·exact ji hk _
  ·exact okV_apply _ _ hk
theorem okV_vals (e:Ex) (rows:List Row) (he:OkX e) (hr: ∀r∈rows,∀v∈r,okV v): ∀v∈vk e rows,okV v:=by
 intro v hv
 have:=(List.mem_filter.1 hv).1
 obtain ⟨r,h1,rfl⟩:=List.mem_map.1 this
 exact okV_eval r (hr r h1) e he
end
end Go.Proofs.YtnmibokjpedkiaaGreatDoor
