/- Made queries answer as specified (part Wg) -/
import Derived.Test.YtnmibokjpedkiaaGreatDoorWf
set_option maxRecDepth 100000
set_option maxHeartbeats 4000000
set_option linter.all false
namespace Go.Proofs.YtnmibokjpedkiaaGreatDoor
open Go.Am
section
attribute [local simp, local push_cast] Ta aRow rRow
def okC (q:Qr) (r:Row):Bool:=zM (zG r q.cond)==1
def okJ (q:Qr) (r t:Row):Bool:=zM (zG (r++t) q.cond)==1
def zX (n:Nat):Row:=List.replicate n zl
def tailJ (q:Qr) (w:Nat) (f:Bool) (r:Row):List Row:=
 if f=false/\(q.kind=2\/q.kind=4) then [r++zX w] else if (f=true/\q.kind=5)\/(f=false/\q.kind=6) then [r] else []
def wL (q:Qr) (w:Nat) (b:List Row) (r:Row):List Row:=
 (if q.kind<5 then (b.filter (okJ q r)).map (r++ ·) else [])++tailJ q w (b.any (okJ q r)) r
def joinR (q:Qr) (w:Nat) (a b:List Row):List Row:=
 if q.kind=3\/q.kind=4 then (b.filter fun t=> !(a.any fun r=>okJ q r t)).map (zX w++ ·) else []
def jnM (q:Qr) (w0 w1:Nat) (a b:List Row):List Row:=a.flatMap (wL q w1 b)++joinR q w0 a b
def keyR (q:Qr) (r:Row):Row:=q.exprs.map (zG r)
def xc (q:Qr) (rows:List Row):List Val:=q.aggs.map fun a=>aggM a.fn a.arg rows
def grpsR (q:Qr) (rows:List Row) (keys:List Row):List Row:=keys.map fun k=>k++xc q (rows.filter fun r=>cmpR (keyR q r) k==0)
abbrev GF:=Qr->List Row->List Row
def outM (gr:GF) (s:Sch) (i:Inst) (q:Qr) (w0 w1:Nat) (k0 k1:List Row):List Row:=
 if q.op=1 then i.getD (byT s q.table).toNat default
 else if q.op=2 then q.rows
 else if q.op=3 then k0.filter (okC q)
 else if q.op=4 then k0.map (keyR q)
 else if q.op=5 then jnM q w0 w1 k0 k1
 else if q.op=6 then wg (xG q.all) k0 k1
 else if q.op=7 then wg (yX q.all) k0 k1
 else if q.op=8 then wg (xP q.all) k0 k1
 else if q.op=9 then jb k0
 else if q.op=10 then gr q k0
 else []
def evOp (gr:GF) (s:Sch) (i:Inst) (q:Qr) (ks:List (List Row)):Option (List Row):=
 if q.op=5/\50000<(ks.getD 0 []).length * (ks.getD 1 []).length then none
 else if 1000<(outM gr s i q (typQ s (q.kids.getD 0 default)).1.length (typQ s (q.kids.getD 1 default)).1.length (ks.getD 0 []) (ks.getD 1 [])).length then none
 else some (outM gr s i q (typQ s (q.kids.getD 0 default)).1.length (typQ s (q.kids.getD 1 default)).1.length (ks.getD 0 []) (ks.getD 1 []))
def allO {α:Type}:List (Option α)->Option (List α)
 | []=>some []
 | none::_=>none
 | some x::l=>(allO l).map (x:: ·)
mutual
def evQ (gr:GF) (s:Sch) (i:Inst):Qr->Option (List Row)
 | .mk a b c d e f g h t ks=>(allO (evQs gr s i ks)).bind (evOp gr s i (.mk a b c d e f g h t ks))
def evQs (gr:GF) (s:Sch) (i:Inst):List Qr->List (Option (List Row))
 | []=>[]
 | q::l=>evQ gr s i q::evQs gr s i l
end
theorem evQs_eq (gr:GF) (s:Sch) (i:Inst): ∀l,evQs gr s i l=l.map (evQ gr s i)
 | []=>rfl
 | q::l=>by rw [evQs,evQs_eq gr s i l];rfl
theorem gp (gr:GF) (s:Sch) (i:Inst) (q:Qr):evQ gr s i q=(allO (q.kids.map (evQ gr s i))).bind (evOp gr s i q):=by cases q;rw [evQ,evQs_eq];rfl
def relO:Option (List Row)->Option (List Row)->Prop
 | none,none=>True
 | some x,some y=>x.Perm y
 | _,_=>False
theorem jnL_perm (q:Qr) (w:Nat) {b b':List Row} (h:b.Perm b') (r:Row):(wL q w b r).Perm (wL q w b' r):=by
 unfold wL;rw [h.any_eq];refine List.Perm.append ?_ (List.Perm.refl _)
 split
 ·exact (h.filter _).map _
 ·exact List.Perm.refl _
theorem flat_perm {α β:Type} (f g:α->List β): ∀(l:List α),(∀x∈l,(f x).Perm (g x))->(l.flatMap f).Perm (l.flatMap g)
 | [],_=>List.Perm.refl _
 | x::l,h=>by
   simp only [List.flatMap_cons];exact (h x Zd).append (flat_perm f g l fun y hy=>h y (Zu hy))
theorem jnM_perm (q:Qr) (w0 w1:Nat) {a a' b b':List Row} (ha:a.Perm a') (hb:b.Perm b'):(jnM q w0 w1 a b).Perm (jnM q w0 w1 a' b'):=by
 unfold jnM joinR;refine List.Perm.append ((ha.flatMap_right _).trans (flat_perm _ _ a' fun r _=>jnL_perm q w1 hb r)) ?_
 split
 ·have:(fun t=> !(a.any fun r=>okJ q r t))=fun t=> !(a'.any fun r=>okJ q r t):=by
   funext t
   rw [ha.any_eq]
  rw [this];exact (hb.filter _).map _
 ·exact List.Perm.refl _
theorem outM_perm {gr gr':GF} {s:Sch} {i i':Inst} {q:Qr} {w0 w1:Nat} {k0 k0' k1 k1':List Row} (hg: ∀rows rows':List Row,rows.Perm rows'->(gr q rows).Perm (gr' q rows')) (hi: ∀n,(i.getD n default).Perm (i'.getD n default))
 (h0:k0.Perm k0') (h1:k1.Perm k1'):(outM gr s i q w0 w1 k0 k1).Perm (outM gr' s i' q w0 w1 k0' k1'):=by
 unfold outM jb
 repeat' split
 all_goals first
  | exact hi _
  | exact List.Perm.refl _
  | exact h0.filter _
  | exact h0.map _
  | exact jnM_perm q w0 w1 h0 h1
  | (rw [combM_perm _ h0 h1];done)
  | (rw [combM_perm _ h0 (List.Perm.refl _)];done)
  | exact hg _ _ h0
theorem evOp_perm {gr gr':GF} {s:Sch} {i i':Inst} {q:Qr} {ks ks':List (List Row)} (hg: ∀rows rows':List Row,rows.Perm rows'->(gr q rows).Perm (gr' q rows')) (hi: ∀n,(i.getD n default).Perm (i'.getD n default))
 (h0:(ks.getD 0 []).Perm (ks'.getD 0 [])) (h1:(ks.getD 1 []).Perm (ks'.getD 1 [])):relO (evOp gr s i q ks) (evOp gr' s i' q ks'):=by
 unfold evOp;rw [h0.length_eq,h1.length_eq];have hp:=outM_perm (s:=s) (w0:=(typQ s (q.kids.getD 0 default)).1.length) (w1:=(typQ s (q.kids.getD 1 default)).1.length) hg hi h0 h1;rw [hp.length_eq]
 split
 ·trivial
 split
 ·trivial
 ·exact hp
theorem allO_rel: ∀(l l':List (Option (List Row))),l.length=l'.length→(∀n,relO (l.getD n none) (l'.getD n none))→
 (allO l=none/\allO l'=none)\/ ∃x y,allO l=some x/\allO l'=some y/\ ∀n,(x.getD n []).Perm (y.getD n [])
 | [],[],_,_=> .inr ⟨[],[],rfl,rfl,fun n=>List.Perm.refl _⟩
 | [],_::_,h,_=>by simp at h
 | _::_,[],h,_=>by simp at h
 | a::l,b::l',h,hr=>by
   have h0:=hr 0;have ih:=allO_rel l l' (Zc h) fun n=>by simpa using hr (n+1)
   simp only [List.getD_cons_zero] at h0;cases a<;>cases b<;>simp only [relO] at h0
   ·exact .inl ⟨rfl,rfl⟩
   ·rename_i u v;rcases ih with ⟨e1,e2⟩ | ⟨x,y,e1,e2,hp⟩
    ·exact .inl ⟨by simp [allO,e1],by simp [allO,e2]⟩
    ·refine .inr ⟨u::x,v::y,by simp [allO,e1],by simp [allO,e2],fun n=>?_⟩;cases n with
     | zero=>simpa using h0
     | succ n=>simpa using hp n
theorem evQ_perm {gr gr':GF} {s:Sch} {i i':Inst} (hg: ∀(q:Qr) (rows rows':List Row),rows.Perm rows'->(gr q rows).Perm (gr' q rows')) (hi: ∀n,(i.getD n default).Perm (i'.getD n default)):
 ∀q:Qr,relO (evQ gr s i q) (evQ gr' s i' q):=
 ku (p:=fun q=>relO (evQ gr s i q) (evQ gr' s i' q)) fun q ih=>by
 rw [gp,gp];rcases allO_rel (q.kids.map (evQ gr s i)) (q.kids.map (evQ gr' s i')) Zd (fun n=>by
  by_cases h:n<q.kids.length
  ·have:=ih _ (zk (n:=n) h);simp only [Yf,List.getElem?_map,List.getElem?_eq_getElem h,Ub,Option.getD_some] at this ⊢;exact this
  ·rw [Yf,List.getElem?_eq_none (Zc h),Yf,List.getElem?_eq_none (Zc h)];trivial) with ⟨e1,e2⟩ | ⟨x,y,e1,e2,hp⟩
 ·rw [e1,e2];trivial
 ·rw [e1,e2];exact evOp_perm (hg q) hi (hp 0) (hp 1)
theorem valsM_perm (e:Ex) {a b:List Row} (h:a.Perm b):(y6 e a).Perm (y6 e b):=(h.map _).filter _
theorem sortV_perm2 {a b:List Val} (h:a.Perm b):sortV a=sortV b:=
 ((vV a).trans (h.trans (vV b).symm)).eq_of_pairwise (fun x y _ _ h1 h2=>leM_anti x y h1 h2) (jv a) (jv b)
theorem aggM_perm (fn:Int) (e:Ex) {a b:List Row} (h:a.Perm b):aggM fn e a=aggM fn e b:=by
 unfold aggM;rw [sortV_perm2 (valsM_perm e h),h.length_eq]
theorem aggsR_perm (q:Qr) {a b:List Row} (h:a.Perm b):xc q a=xc q b:=by
 unfold xc;exact Up fun a _=>aggM_perm _ _ h
theorem grpsR_perm (q:Qr) {a b ks ls:List Row} (h:a.Perm b) (hk:ks.Perm ls):(grpsR q a ks).Perm (grpsR q b ls):=by
 have: ∀k,(k++xc q (a.filter fun r=>cmpR (keyR q r) k==0))=k++xc q (b.filter fun r=>cmpR (keyR q r) k==0):=fun k=>ZA (aggsR_perm q (h.filter _));unfold grpsR;simp only [this];exact hk.map _
def addK (acc:List Row) (k:Row):List Row:=if acc.any (fun x=>cmpR x k==0)=true then acc else acc++[k]
def focc (l:List Row):List Row:=l.foldl addK []
theorem any_mem (l:List Row) (k:Row):l.any (fun x=>cmpR x k==0)=true ↔ k∈l:=by
 rw [U4];constructor
 ·rintro ⟨x,h1,h2⟩;have:=(wF x k).1 (Zc h2);rw [<-this];exact h1
 ·exact fun h=>⟨k,h,by simp [yi]⟩
theorem addK_spec (acc:List Row) (k:Row) (h:acc.Nodup):(addK acc k).Nodup/\ ∀x,x∈addK acc k ↔ x∈acc\/x=k:=by
 unfold addK
 split
 ·rename_i hm;have hm':=(any_mem _ _).1 hm;exact ⟨h,fun x=>⟨.inl,fun q=>q.elim id fun e=>e ▸ hm'⟩⟩
 ·rename_i hm;have hm':k ∉ acc:=fun q=>hm ((any_mem _ _).2 q);refine ⟨?_,fun x=>Zd⟩;rw [List.nodup_append];exact ⟨h,Zd,fun a ha b hb=>by simp at hb;subst hb;exact fun e=>hm' (e ▸ ha)⟩
theorem foldK_spec: ∀(l acc:List Row),acc.Nodup->(l.foldl addK acc).Nodup/\ ∀x,x∈l.foldl addK acc ↔ x∈acc\/x∈l
 | [],acc,h=>⟨h,Zd⟩
 | k::l,acc,h=>by
   obtain ⟨h1,h2⟩:=addK_spec acc k h;obtain ⟨h3,h4⟩:=foldK_spec l _ h1;refine ⟨h3,fun x=>?_⟩;rw [List.foldl_cons,h4,h2,YB,or_assoc]
theorem focc_nodup (l:List Row):(focc l).Nodup:=(foldK_spec l [] List.nodup_nil).1
theorem gm (l:List Row) (x:Row):x∈focc l ↔ x∈l:=by unfold focc;simpa using (foldK_spec l [] List.nodup_nil).2 x
theorem kp {x:Row} {l:List Row} (h:Asc leR (x::l)):(∀y∈l,leR x y=true)/\Asc leR l:=U9.1 h
theorem drop_gt: ∀(l:List Row) (r:Row),Asc leR l→(∀y∈l,leR r y=true)→(∀y∈l.drop (cntR r l),cmpR r y<0)∧(∀y∈l.take (cntR r l),y=r)
 | [],r,_,_=>Zd
 | x::l,r,h,hr=>by
   obtain ⟨h1,h2⟩:=kp h;rw [xz]
   split
   ·rename_i hx;have:=(wF x r).1 hx;subst this;obtain ⟨g1,g2⟩:=drop_gt l x h2 h1;exact ⟨Zc g1,Zc g2⟩
   ·rename_i hx;refine ⟨fun y hy=>?_,Zd⟩;have hlt:cmpR r x<0:=by
     have a1:=(jy r x).1 (hr x Zd);by_cases e:cmpR r x=0
     ·have:=(wF r x).1 e;subst this;exact absurd (yi r) hx
     ·omega
    simp only [List.drop_zero,YB] at hy;rcases hy with rfl | hy
    ·exact hlt
    ·have a1:=(jy x y).1 (h1 y hy);by_cases e:cmpR x y=0
     ·rw [<-(wF x y).1 e];exact hlt
     ·exact cmpR_trans _ _ _ hlt Za
theorem grp_heads: ∀(n:Nat) (X:List Row),X.length<=n->Asc leR X->((grpM X []).map (·.row)).Pairwise (fun a b=>cmpR a b<0)/\ ∀x,x∈(grpM X []).map (·.row) ↔ x∈X
 | n,[],_,_=>by simp [gj]
 | 0,x::X,h,_=>by simp at h
 | n+1,x::X,h,ha=>by
   obtain ⟨h1,h2⟩:=kp ha;have hp:yo (x::X) []=x:=rfl;rw [wP Zd,hp];have hall: ∀y∈x::X,leR x y=true:=fun y hy=>by
    rcases YB.1 hy with rfl | hy
    ·exact (jy _ _).2 (by rw [yi];omega)
    ·exact h1 y hy
   obtain ⟨d1,d2⟩:=drop_gt (x::X) x ha hall;have hc:0<cntR x (x::X):=by rw [xz,if_pos (yi x)];omega
   obtain ⟨g1,g2⟩:=grp_heads n ((x::X).drop (cntR x (x::X))) XC (List.Pairwise.sublist (Ut _ _) ha);simp only [List.drop_nil,Y0];refine ⟨U9.2 ⟨fun y hy=>d1 y ((g2 y).1 hy),g1⟩,fun y=>?_⟩;rw [YB,g2];constructor
   ·rintro (rfl | hy)
    ·simp
    ·exact Y9 hy
   ·intro hy;rw [<-Yp (cntR x (x::X)) (x::X),Yr] at hy;exact hy.elim (fun q=> .inl (d2 y q)) .inr
theorem wC (l:List Row):(jb l).Pairwise (fun a b=>cmpR a b<0)/\ ∀x,x∈jb l ↔ x∈l:=by
 rw [distM_eq];obtain ⟨h1,h2⟩:=grp_heads _ (srt l) (Ys _) (yL ordR l);exact ⟨h1,fun x=>(h2 x).trans (zJ l).mem_iff⟩
theorem gy (l:List Row):(jb l).Nodup:=(wC l).1.imp fun h e=>by rw [e,yi] at h;omega
def gkP (q:Qr) (rows:List Row):List Row:=if q.exprs.length=0 then [[]] else jb (rows.map (keyR q))
def gkR (q:Qr) (rows:List Row):List Row:=if q.exprs.length=0 then [[]] else focc (rows.map (keyR q))
def grP (q:Qr) (rows:List Row):List Row:=grpsR q rows (gkP q rows)
def grR (q:Qr) (rows:List Row):List Row:=grpsR q rows (gkR q rows)
theorem nodup_perm {a b:List Row} (ha:a.Nodup) (hb:b.Nodup) (h: ∀x,x∈a ↔ x∈b):a.Perm b:=(List.perm_ext_iff_of_nodup ha hb).2 h
theorem gk_perm (q:Qr) {a b:List Row} (h:a.Perm b):(gkP q a).Perm (gkP q b)/\(gkP q a).Perm (gkR q b):=by
 have hm:=h.map (keyR q);unfold gkP gkR
 split
 ·exact ⟨List.Perm.refl _,List.Perm.refl _⟩
 ·refine ⟨nodup_perm (gy _) (gy _) fun x=>?_,nodup_perm (gy _) (focc_nodup _) fun x=>?_⟩
  ·rw [(wC _).2,(wC _).2,hm.mem_iff]
  ·rw [(wC _).2,gm,hm.mem_iff]
theorem grPR_perm (q:Qr) (a b:List Row) (h:a.Perm b):(grP q a).Perm (grR q b):=grpsR_perm q h (gk_perm q h).2
def ansM (o:Option (List Row)):List Row×Int:=match o with
 | some l=>(srt l,0)
 | none=>([],8)
theorem ansM_rel {a b:Option (List Row)} (h:relO a b):ansM a=ansM b:=by
 cases a<;>cases b<;>simp only [relO] at h
 ·rfl
 ·simp only [ansM,srt_perm h]
theorem ans_PR (s:Sch) (i:Inst) (q:Qr):ansM (evQ grP s i q)=ansM (evQ grR s i q):=ansM_rel (evQ_perm grPR_perm (fun _=>List.Perm.refl _) q)
end
section
attribute [local simp, local push_cast] Ta yx yA yM vQ
theorem sizeL_append: ∀(a b:List Ex) (n:Int),sizeL n (a++b)=sizeL (sizeL n a) b
 | [],b,n=>rfl
 | e::a,b,n=>by simp only [YN,sizeL];exact sizeL_append a b _
theorem argsQ_nil:x7 []=[]:=rfl
theorem c_rqdepth: ∀q:Qr,OkQ q->ACall Tryz.prog 70 [aQ q] [] (num (yZ q)) []:=
 ku (p:=fun q=>OkQ q->ACall Tryz.prog 70 [aQ q] [] (num (yZ q)) []) fun q ih ho=>by
 have hq:=ho.one;have hkl:=hq.kids;rw [zW];refine zn mixed ttok Tryz.func70 Tryz.ntmps70 Tryz.results70 ?_;generalize hr:num (yZ q)=R;refine Zn ?_;refine zq mixed ttok 4 [1] [1] Zv Zw q.kids.length (fun _=>True) (fun n=>[(3,num (depthQs 0 (q.kids.take n)))]) (fun _=>[]) trivial ?_ ?_
 ·exact Ya (by simp [cst,depthQs,ends]) Xt Zh
 intro I hI n hn hi;refine Xs ?_;refine za (fun h=>?_) fun h=>?_
 ·have h':n<q.kids.length:=Zq h;have hw:=zh h' Za;have ht:=qG (q.kids.getD n default) (q.kids.take n) 0;exact MG
 exact KY
theorem c_rqsize: ∀q:Qr,OkQ q→ACall Tryz.prog 43 [aQ q] [] (num (vF q)) []:=
 ku (p:=fun q=>OkQ q->ACall Tryz.prog 43 [aQ q] [] (num (vF q)) []) fun q ih ho=>by
 have hq:=ho.one;have hel:=hq.exprs;have hal:=hq.aggs;have hrl:=hq.rows;have hkl:=hq.kids;rw [zW];refine zn mixed ttok Tryz.func43 Tryz.ntmps43 Tryz.results43 ?_;generalize hr:num (vF q)=R;obtain ⟨e4,he4⟩: ∃b,(q.op==4)=b:=⟨_,rfl⟩
 obtain ⟨e10,he10⟩: ∃b,(q.op==10)=b:=⟨_,rfl⟩
 obtain ⟨E1,hE1⟩: ∃l,(if (e4 || e10)=true then q.exprs else [])=l:=⟨_,rfl⟩
 obtain ⟨G,hG⟩: ∃l,(if e10=true then q.aggs else [])=l:=⟨_,rfl⟩
 obtain ⟨s0,hs0⟩: ∃s,(if (q.op==3 || q.op==5)=true then IntKind.i64.wrap (1+ve q.cond) else 1)=s:=⟨_,rfl⟩
 have hM:vF q=sizeQs (jn (sizeL (sizeL s0 E1) (x7 G)) q.rows) q.kids:=by
  have hx:sizeL 1 (xd q)=sizeL (sizeL s0 E1) (x7 G):=by
   unfold xd;rw [he4,he10,sizeL_append];subst hE1;subst hG;subst hs0;cases h35:(q.op==3 || q.op==5) with
   | true=>
     have h4:e4=false:=by rw [<-he4];simp only [Ul,beq_iff_eq] at h35;exact YO.2 (by omega)
     have h10:e10=false:=by rw [<-he10];simp only [Ul,beq_iff_eq] at h35;exact YO.2 (by omega)
     rw [h4,h10]
     rfl
   | false=>
     cases e10<;>cases e4<;>rfl
  rw [sizeQ_eq,hx]
 have hE1l:E1.length<=1000:=by
  rw [<-hE1]
  split
  ·exact hel
  ·exact Yj _
 have hGl:G.length<=1000:=by
  rw [<-hG]
  split
  ·exact hal
  ·exact Yj _
 have hE1x: ∀e∈E1,Ok12 e:=by
  rw [<-hE1]
  split
  ·exact hq.ex
  ·exact fun _ h=>by cases h
 have hGx: ∀a∈G,Ok12 a.arg:=by
  rw [<-hG]
  split
  ·exact hq.ag
  ·exact fun _ h=>by cases h
 have hc0:=c_size02 q.cond hq.cond;rw [yt] at hc0;simp -implicitDefEqProofs only [argT,he4,he10,↓zb,push_cast,simprocAttr,tt];refine za (fun h3=>?_) (fun h3=>za (fun h5=>?_) (fun h5=>?_))
 all_goals first
  | (rw [if_pos (Z4 h3)] at hs0
     refine zg [[0,0,0,0,0,6]] [] (hc0) ?_;simp -implicitDefEqProofs only [↓zb,push_cast,simprocAttr,tt])
  | (rw [if_pos (by rw [h3,h5];rfl)] at hs0
     refine zg [[0,0,0,0,0,6]] [] (hc0) ?_;simp -implicitDefEqProofs only [↓zb,push_cast,simprocAttr,tt])
  | rw [if_neg (by rw [h3,h5];decide)] at hs0
 all_goals
  refine zq mixed ttok 4 [1] [1] Zv Zw E1.length (fun _=>True) (fun n=>[(3,num (sizeL s0 (E1.take n)))]) (fun _=>[]) trivial ?_ ?_
  ·exact Ya (by simp [cst,sizeL,<-hs0,ends]) Xt Zh
  intro I hI n hn hi;simp -implicitDefEqProofs only [cst,vQ,he4,he10,↓zb,push_cast,simprocAttr,tt];cases hc:(e4 || e10)
  all_goals first
   | (have hEq:E1=q.exprs:=by rw [←hE1,hc];rfl
      subst hEq;refine za (fun h=>?_) (fun h=>?_)
      ·
       have h':n<q.exprs.length:=Zq h;have hw:=zh h' Za;have ht:=uC (q.exprs.getD n default) (q.exprs.take n) s0;rw [<-zy _ _ h'] at ht;have hcs:=c_size02 (q.exprs.getD n default) (hE1x _ (zk h'));rw [yt] at hcs;refine za (fun _=>?_) (fun g4=>za (fun _=>?_) (fun g10=>absurd hc (by rw [g4,g10];decide)))<;>
        (refine ⟨Zs,?_⟩
         refine zg [[0,0,0,0,0,6]] [] (hcs) ?_;refine Zf ?_;exact zp hI n rfl h' trivial (ZB hw ht) (ZB hw ht) (ZB hw ht) (ZB hw ht))
      have hnE:n=q.exprs.length:=Zp h)
   | (have hEq:E1=[]:=by rw [←hE1,hc];rfl
      subst hEq;have g4:e4=false:=by cases e4<;>first | rfl | cases hc
      have g10:e10=false:=by cases e10<;>first | rfl | (cases e4<;>cases hc)
      simp -implicitDefEqProofs only [g4,g10,↓zb,push_cast,simprocAttr,tt];have hnE:n=([]:List Ex).length:=Zc hn;refine za (fun h=>?_) (fun h=>?_))
 all_goals
  subst hnE;clear hI hn hi hc
  try rw [Yk]
  first | (simp only [sizeL] at hM ⊢;revert hM;generalize s0=s1;intro hM) | generalize sizeL s0 q.exprs=s1 at hM ⊢
  clear I h;refine zq mixed ttok 5 [1] [1] Zv Zw G.length (fun _=>True) (fun n=>[(3,num (sizeL s1 (x7 (G.take n))))]) (fun _=>[]) trivial ?_ ?_
  ·exact Ya (by simp [cst,sizeL,x7,ends]) Xt Zh
  intro I hI n hn hi;simp -implicitDefEqProofs only [cst,vQ,he10,↓zb,push_cast,simprocAttr,tt];cases e10
  all_goals first
   | (cases g10;done)
   | (have hEq:G=[]:=by rw [←hG];rfl
      subst hEq;refine Zf ?_;have hnE:n=([]:List Agg).length:=Zc hn;refine za (fun h=>?_) (fun h=>?_))
   | (have hEq:G=q.aggs:=by rw [←hG];rfl
      subst hEq;refine Zf ?_;refine za (fun h=>?_) (fun h=>?_)
      ·
       have h':n<q.aggs.length:=Zq h;have hw:=zh h' Za;have ht:x7 (q.aggs.take (n+1))=x7 (q.aggs.take n)++(if (q.aggs.getD n default).fn==1 then [] else [(q.aggs.getD n default).arg]):=by
        rw [<-argsQ_snoc,zy _ _ h']
       refine ⟨Zs,?_⟩;refine za (fun g=>?_) fun g=>?_
       ·have g':((q.aggs.getD n default).fn==1)=false:=by simpa [bne] using g
        rw [g',if_neg (by decide)] at ht
        have ht2:=uC (q.aggs.getD n default).arg (x7 (q.aggs.take n)) s1
        rw [<-ht] at ht2
        have hcs:=c_size02 (q.aggs.getD n default).arg (hGx _ (zk h'))
        rw [yt] at hcs
        refine ⟨(by first | omega | trivial | (refine ⟨?_,?_⟩<;>first | omega | trivial | (refine ⟨?_,?_⟩<;>first | omega | trivial | (refine ⟨?_,?_⟩<;>first | omega | trivial | rfl)))),?_⟩
        refine zg [[0,0,0,0,0,6]] [] (hcs) ?_
        simp -implicitDefEqProofs only [↓zb,push_cast,simprocAttr,tt]
        exact zp hI n rfl h' trivial (by simp [hw,ht2,vQ,ends]) (by simp [hw,ht2,vQ,ends]) (by simp [hw,ht2,vQ,ends]) (by simp [hw,ht2,vQ,ends])
       ·have g':((q.aggs.getD n default).fn==1)=true:=by simpa [bne] using g
        rw [g',if_pos rfl,List.append_nil] at ht
        exact zp hI n rfl h' trivial (by simp [hw,ht,vQ,ends]) (by simp [hw,ht,vQ,ends]) (by simp [hw,ht,vQ,ends]) (by simp [hw,ht,vQ,ends])
      have hnE:n=q.aggs.length:=Zp h)
 all_goals
  subst hnE;clear hI hn hi
  try rw [Yk]
  first | (simp only [sizeL,argsQ_nil] at hM ⊢;revert hM;generalize s1=s2;intro hM) | generalize sizeL s1 (x7 q.aggs)=s2 at hM ⊢
  clear I h;refine zq mixed ttok 6 [1] [1] Zv Zw q.rows.length (fun _=>True) (fun n=>[(3,num (jn s2 (q.rows.take n)))]) (fun _=>[]) trivial ?_ ?_
  ·exact Weak.keepL (by simp [cst,jn,ends]) (by simp [cst,vQ,ends]) (by simp [cst,ends])
  intro I hI n hn hi;refine Xs ?_;refine za (fun h=>?_) fun h=>?_
  ·have h':n<q.rows.length:=Zq h;have hw:=zh h' Za;have ht:=rowsW_snoc (q.rows.getD n default) (q.rows.take n) s2;rw [<-zy _ _ h'] at ht;refine ⟨Zs,?_⟩;exact Nj
  obtain rfl:n=q.rows.length:=Zp h;clear hI;rw [Yk];generalize jn s2 q.rows=s3 at hM ⊢;refine zq mixed ttok 7 [1] [1] Zv Zw q.kids.length (fun _=>True) (fun n=>[(3,num (sizeQs s3 (q.kids.take n)))]) (fun _=>[]) trivial ?_ ?_
  ·exact Ya (by simp [cst,sizeQs,ends]) Xt Zh
  intro I hI n hn hi;refine Xs ?_;refine za (fun h=>?_) fun h=>?_
  ·have h':n<q.kids.length:=Zq h;have hw:=zh h' Za;have ht:=qV (q.kids.getD n default) (q.kids.take n) s3;exact MG
  obtain rfl:n=q.kids.length:=Zp h;exact zm trivial (by rw [<-hr,hM,Yk];rfl) Zb
end
section
attribute [local simp, local push_cast] Ta yx yA yM zQ aAgg
theorem c_rsame0 (e:Ex) (hl:e.kids.length<=1000):ACall Tryz.prog 213 [aE e,aE e0] [] (boo (jJ e)) []:=by
 rw [yt,aE_e0];refine zn mixed ttok Tryz.func213 Tryz.ntmps213 Tryz.results213 ?_;generalize hr:boo (jJ e)=R;have he:ByteArray.empty.toList=[]:=ZZ;refine ZQ he ?_;unfold jJ at hr;refine za (fun h1=>?_) fun h1=>?_
 ·exact zm trivial (by rw [<-hr,show (e.op==0)=false by simpa [bne] using h1];rfl) Zb
 have g1:(e.op==0)=true:=by simpa [bne] using h1
 refine za (fun h2=>?_) fun h2=>?_
 ·exact zm trivial (by rw [<-hr,g1,show (e.type==0)=false by simpa [bne] using h2];rfl) Zb
 have g2:(e.type==0)=true:=by simpa [bne] using h2
 refine za (fun h3=>?_) fun h3=>?_
 ·exact zm trivial (by rw [<-hr,g1,g2,show (e.num==0)=false by simpa [bne] using h3];rfl) Zb
 have g3:(e.num==0)=true:=by simpa [bne] using h3
 refine za (fun h4=>?_) fun h4=>?_
 ·exact zm trivial (by rw [<-hr,g1,g2,g3,show (e.text.toList==[])=false by simpa using h4];rfl) Zb
 have g4:(e.text.toList==[])=true:=Zc h4;refine za (fun h5=>?_) fun h5=>?_
 ·exact zm trivial (by rw [<-hr,g1,g2,g3,g4,show (e.col==0)=false by simpa [bne] using h5];rfl) Zb
 have g5:(e.col==0)=true:=by simpa [bne] using h5
 refine za (fun h6=>?_) fun h6=>?_
 ·have h6': ¬e.kids.length=0:=by simp at h6;intro h;rw [List.length_eq_zero_iff] at h;exact h6 h
  exact zm trivial (by rw [<-hr,g1,g2,g3,g4,g5,show (e.kids.length==0)=false from YO.2 h6'];rfl) Zb
 have h6':e.kids.length=0:=by simp at h6;rw [h6];rfl
 refine zq mixed ttok 5 [2,3] [2,3] Zv Zw 0 (fun _=>True) (fun _=>[]) (fun _=>[]) trivial ?_ ?_
 ·exact Ya Zh Zh Zh
 intro I hI n hn hi;obtain rfl:n=0:=Za;simp -implicitDefEqProofs only [cst,h6',↓zb,push_cast,simprocAttr,tt];exact zm trivial (by rw [<-hr,g1,g2,g3,g4,g5,h6'];rfl) Zb
theorem c_zero4 (e:Ex) (hl:e.kids.length<=1000):ACall Tryz.prog 181 [aE e] [] (boo (jJ e)) []:=by
 have hc:=c_rsame0 e hl;rw [yt,aE_e0] at hc;rw [yt];refine zn mixed ttok Tryz.func181 Tryz.ntmps181 Tryz.results181 ?_;refine Zn ?_;refine zg [[0,0,0,0,0,6],[0,0,0,0,0,6]] [] (hc) ?_;refine Zf ?_;exact zm trivial rfl Zb
def kids4 (op:Int):Int:=if op=1\/op=2 then 0 else if op=5\/op=6\/op=7\/op=8 then 2 else 1
theorem c_kids4 (op:Int):ACall Tryz.prog 125 [num op] [] (num (kids4 op)) []:=by
 refine zn mixed ttok Tryz.func125 Tryz.ntmps125 Tryz.results125 ?_;generalize hr:num (kids4 op)=R;unfold kids4 at hr;refine Zn ?_
 repeat' first
  | exact zm trivial (by rw [<-hr];simp_all) Zb
  | (refine za (fun h=>?_) fun h=>?_<;>(try simp only [beq_iff_eq,YO] at h))
theorem c_cond4 (ts:List Int) (hts:ts.length<=1000000) (e:Ex) (ho:Ok12 e):ACall Tryz.prog 127 [ints ts,aE e] [] (num (uk ts e)) []:=by
 have hc:=c_rtype ts Za e ho;rw [yt] at hc ⊢;refine zn mixed ttok Tryz.func127 Tryz.ntmps127 Tryz.results127 ?_;generalize hr:num (uk ts e)=R;unfold uk at hr;refine Zn ?_;refine zg [[1],[0,0,0,0,0,6]] [] (hc) ?_;generalize yb (ownM ts) e=T at hr ⊢;refine ZW ?_;refine za (fun h1=>?_) fun h1=>?_
 ·have h1': ¬T.2=0:=by simpa using h1
  exact zm trivial (by rw [<-hr,if_neg (fun h=>h1' h.1)];rfl) (by simp [ends])
 have h1':T.2=0:=Zc h1
 refine za (fun h2=>?_) fun h2=>?_
 ·have h2': ¬T.1=2:=by simpa using h2
  exact zm trivial (by rw [<-hr,if_pos ⟨h1',h2'⟩];rfl) (by simp [ends])
 ·have h2':T.1=2:=by simpa using h2
  exact zm trivial (by rw [<-hr,if_neg (fun h=>h.2 h2'),h1'];rfl) (by simp [ends])
theorem c_ints4 (a b:List Int) (hl:a.length≤1000000):ACall Tryz.prog 131 [ints a,ints b] [] (boo (a==b)) []:=by
 refine zn mixed ttok Tryz.func131 Tryz.ntmps131 Tryz.results131 ?_;generalize hr:boo (a==b)=R;refine Zn ?_;refine za (fun h0=>?_) fun h0=>?_
 ·have h0': ¬a.length=b.length:=by simp at h0;omega
  have:(a==b)=false:=by
   cases h:a==b
   ·rfl
   ·rw [eq_of_beq h] at h0';exact absurd rfl h0'
  exact MI
 have h0':a.length=b.length:=by simp at h0;omega
 refine zq mixed ttok 5 [0,1] [] Zv Zw a.length (fun n=> ∀i,i<n->a.getD i default=b.getD i default) (fun _=>[]) (fun _=>[]) (fun i h=>absurd h (Yu _)) ?_ ?_
 ·exact Ya Zh Zh Zh
 intro I hI n hn hi;refine Zx ?_;refine za (fun h=>?_) fun h=>?_
 ·have h':n<a.length:=Zq h;have hw:=zh h' Za;refine ⟨Zs,?_⟩;refine ⟨Za,ze Zg,?_⟩;refine za (fun g=>?_) fun g=>?_
  ·have g':a.getD n default≠b.getD n default:=by simpa [bne] using g
   have:(a==b)=false:=by
    cases h2:a==b
    ·rfl
    ·rw [eq_of_beq h2] at g';exact absurd rfl g'
   exact MI
  ·have g':a.getD n default=b.getD n default:=by simpa [bne] using g
   exact M5
 obtain rfl:n=a.length:=Zp h;have:(a==b)=true:=by
  rw [beq_iff_eq];apply Uc;intro i;by_cases h:i<a.length
  ·have:=hi i h;rw [Yf,Yf,List.getElem?_eq_getElem h,List.getElem?_eq_getElem Za] at this;rw [List.getElem?_eq_getElem h,List.getElem?_eq_getElem Za];simpa using this
  ·rw [List.getElem?_eq_none Za,List.getElem?_eq_none Za]
 exact MI
def qZ (q:Qr):Bool:=
 ((decide (1≤q.op)&&decide (q.op≤10))&& !((((!q.table.toList==[])&&q.op !=1) || (q.kind !=0&&q.op !=5)) || (q.all&& !((q.op==6 || q.op==7) || q.op==8))))&&
   (!((((!jJ q.cond)&&q.op !=3)&&q.op !=5) || ((decide ((q.exprs.length:Int)>0)&&q.op !=4)&&q.op !=10))&&
    !(((decide ((q.aggs.length:Int)>0)&&q.op !=10) || (decide ((q.types.length:Int)>0)&&q.op !=2)) || (decide ((q.rows.length:Int)>0)&&q.op !=2)))
theorem c_plain4 (q:Qr) (hl:q.cond.kids.length<=1000):ACall Tryz.prog 124 [aQ q] [] (boo (qZ q)) []:=by
 have hc:=c_zero4 q.cond hl;rw [yt] at hc;rw [zW];refine zn mixed ttok Tryz.func124 Tryz.ntmps124 Tryz.results124 ?_;generalize hr:boo (qZ q)=R;have he:(ByteArray.mk #[]).toList=[]:=ZZ;refine ZQ he ?_;refine za (fun lo=>?_) fun lo=>?_
 ·exact zm trivial (by rw [<-hr,qZ,show decide (1<=q.op)=false from YS (by have:=Yd lo;omega)];rfl) Zb
 refine za (fun hi=>?_) fun hi=>?_
 ·exact zm trivial (by rw [<-hr,qZ,show decide (q.op<=10)=false from YS (by have:=Yd hi;omega),YI];rfl) Zb
 have ho:q.op=1\/q.op=2\/q.op=3\/q.op=4\/q.op=5\/q.op=6\/q.op=7\/q.op=8\/q.op=9\/q.op=10:=by
  have:=Yc lo;have:=Yc hi;omega
 clear lo hi;unfold qZ at hr;generalize hs:jJ q.cond=S at hr hc;rcases ho with h | h | h | h | h | h | h | h | h | h
 all_goals
  refine Zy h ?_
  repeat' first
   | exact zm trivial (by rw [<-hr,h];simp only [*];rfl) Zb
   | (refine zg [[0,0,0,0,0,6]] [] (hc) ?_
      simp -implicitDefEqProofs only [h,↓zb,push_cast,simprocAttr,tt])
   | (refine za (fun _=>?_) fun _=>?_)
theorem c_list4V (ts:List Int) (l:List Ex) (hts:ts.length<=1000000) (hl:l.length<=1000) (ho: ∀e∈l,Ok12 e) (h0:(wh ts l).2=0):
 ACall Tryz.prog 128 [ints ts,.d (.sl 6 (zd rE l)),.snil] [] (.tup [.vec 1000 l.length,num 0]) [(1000,.vec 3 1 (zd rI (l.map fun e=>(yb (ownM ts) e).1)) 0)]:=by
 have hall:=gV _ l h0;refine zn mixed ttok Tryz.func128 Tryz.ntmps128 Tryz.results128 ?_;refine Zn ?_;refine zq mixed ttok 8 [0,1] [] Zv Zw l.length (fun _=>True) (fun n=>[(2,.vec 500 n)]) (fun n=>[(500,.vec 3 1 (zd rI ((l.take n).map fun e=>(yb (ownM ts) e).1)) 0)]) trivial ?_ ?_
 ·exact (YU 2 500 3 1 rfl rfl).trans (Ya Zh Zh Zh)
 intro I hI n hn hi;have hl2:((l.take n).map fun e=>(yb (ownM ts) e).1).length=n:=Xu;refine Zx ?_;refine za (fun h=>?_) fun h=>?_
 ·have h':n<l.length:=Zq h;have hw:=zh h' Za;have hs:=wp (fun e=>(yb (ownM ts) e).1) l n h';refine ⟨Zs,?_⟩;refine zg [[1],[0,0,0,0,0,6]] [] (c_rtype ts Za _ (ho _ (zk h'))) ?_;exact N5
 exact Gl
theorem c_list4 (ts:List Int) (l:List Ex) (hts:ts.length<=1000000) (hl:l.length<=1000) (ho: ∀e∈l,Ok12 e):
 ACall Tryz.prog 128 [ints ts,.d (.sl 6 (zd rE l)),.snil] [] (z7 (wh ts l)) []:=by
 refine zn mixed ttok Tryz.func128 Tryz.ntmps128 Tryz.results128 ?_;generalize hr:z7 (wh ts l)=R;unfold wh at hr;refine Zn ?_;refine zq mixed ttok 8 [0,1] [] Zv Zw l.length (fun n=> ∀i,i<n->(yb (ownM ts) (l.getD i default)).2=0) (fun n=>[(2,.vec 500 n)]) (fun n=>[(500,.vec 3 1 (zd rI ((l.take n).map fun e=>(yb (ownM ts) e).1)) 0)]) (fun i h=>absurd h (Yu _)) ?_ ?_
 ·exact (YU 2 500 3 1 rfl rfl).trans (Ya Zh Zh Zh)
 intro I hI n hn hi;have hl2:((l.take n).map fun e=>(yb (ownM ts) e).1).length=n:=Xu;refine Zx ?_;refine za (fun h=>?_) fun h=>?_
 ·have h':n<l.length:=Zq h;have hw:=zh h' Za;have hs:=wp (fun e=>(yb (ownM ts) e).1) l n h';refine ⟨Zs,?_⟩;refine zg [[1],[0,0,0,0,0,6]] [] (c_rtype ts Za _ (ho _ (zk h'))) ?_;refine ZW ?_;refine za (fun g=>?_) fun g=>?_
  ·have g':(yb (ownM ts) (l.getD n default)).2≠0:=Zc g;rw [<-hr,gW (yb (ownM ts)) l n h' hi g',z7];exact Mg
  ·exact Nv
 obtain rfl:n=l.length:=Zp h;rw [<-hr,uD (yb (ownM ts)) l hi,Yk,z7];exact Mg
theorem c_join4 (a b:List Int) (q:Qr) (ha:a.length<=1000) (hb:b.length<=1000) (hq:OkQ1 q):ACall Tryz.prog 129 [ints a,ints b,aQ q] [] (z7 (joinM a b q)) []:=by
 rw [zW];refine zn mixed ttok Tryz.func129 Tryz.ntmps129 Tryz.results129 ?_;generalize hr:z7 (joinM a b q)=R;have hwl:IntKind.i64.wrap ((a.length:Int)+b.length)=(a.length:Int)+b.length:=zt Za Za;have hab:(a++b).length=a.length+b.length:=Yb;unfold joinM at hr;refine Zn ?_;simp only [hwl];refine za (fun k1=>?_) fun k1=>?_
 ·rw [←hr,if_pos (.inl (Yd k1)),z7];exact Mg
 refine za (fun k2=>?_) fun k2=>?_
 ·rw [←hr,if_pos (.inr (Yd k2)),z7];exact Mg
 rw [if_neg (fun h=>h.elim (Yc k1) (Yc k2))] at hr;refine za (fun k3=>?_) fun k3=>?_
 ·have k3':(a++b).length>24:=Zq k3;rw [<-hr,if_pos k3',z7];exact Mg
 have k3': ¬(a++b).length>24:=Zp k3;rw [if_neg k3'] at hr;have hcd:=c_cond4 (a++b) Za q.cond hq.cond;rw [yt] at hcd;have hra:zd rI (a++b)=zd rI a++zd rI b:=by unfold zd;rw [YE]
 unfold ints at hcd;rw [hra] at hcd;refine ⟨Za,Za,?_⟩;refine zg [[1],[0,0,0,0,0,6]] [] (hcd) ?_;refine Zf ?_;refine za (fun k4=>?_) fun k4=>?_
 ·exact Hk
 have k4': ¬uk (a++b) q.cond≠0:=Zc k4;rw [if_neg k4'] at hr;refine za (fun k5=>?_) fun k5=>?_
 ·have k5':q.kind=5:=Zc k5;rw [<-hr,if_pos (.inl k5'),z7];exact Mg
 have k5': ¬q.kind=5:=Zc k5;refine za (fun k6=>?_) fun k6=>?_
 ·have k6':q.kind=6:=Zc k6;rw [<-hr,if_pos (.inr k6'),z7];exact Mg
 have k6': ¬q.kind=6:=Zc k6;rw [<-hr,if_neg (fun h=>h.elim k5' k6'),z7,ints,hra];exact Mg
theorem MF{p:Prop}(h:p:=by
 exact zp hI n rfl h' (fun i h2=>if h3:i=n then by rw [h3];exact hgo _ hA else hi i Za) (ZG hw hs hl2 (Yt hn)) (ZG hw hs hl2 (Yt hn)) (ZG hw hs hl2 (Yt hn)) (ZG hw hs hl2 (Yt hn))):p:=h
theorem Ha{p:Prop}(h:p:=by
 rw [hA] at hs;refine ⟨⟨hl2.symm,by rw [hl2];omega⟩,?_⟩;exact MF):p:=h
theorem c_group4 (ts:List Int) (q:Qr) (hts:ts.length≤1000000) (hq:OkQ1 q):ACall Tryz.prog 130 [ints ts,aQ q] [] (z7 (kL ts q)) []:=by
 have hel:=hq.exprs;have hal:=hq.aggs;rw [zW];refine zn mixed ttok Tryz.func130 Tryz.ntmps130 Tryz.results130 ?_;generalize hr:z7 (kL ts q)=R;have hwr:IntKind.i64.wrap ((q.exprs.length:Nat)+(q.aggs.length:Nat):Int)=((q.exprs.length+q.aggs.length:Nat):Int):=Z9;unfold kL at hr;refine Zn ?_;rw [hwr];have hM:(vG (x3 ts) q.aggs).1.length<=q.aggs.length:=by
  unfold vG;split
  ·simp
  ·simp
 refine za (fun k1=>?_) fun k1=>?_
 ·exact GW
 have k1': ¬q.exprs.length+q.aggs.length<1:=Zp k1;refine za (fun k2=>?_) fun k2=>?_
 ·exact GV
 have k2': ¬q.exprs.length+q.aggs.length>24:=Zp k2;rw [if_neg (fun h=>h.elim k1' k2')] at hr;by_cases hc0:(wh ts q.exprs).2=0
 ·rw [if_neg (fun h=>h hc0)] at hr;have hcv:(wh ts q.exprs).1=q.exprs.map fun e=>(yb (ownM ts) e).1:=by
   rw [wh,uD _ _ (gV _ _ hc0)]
  rw [hcv] at hr;refine xl [(1000,700)] (vb _ _) (c_list4V ts q.exprs hts hel hq.ex hc0) (by simp [yt,ends,bs]) (ZU bs) (by simp [yt,ends]) ZV ?_;refine Zf ?_;refine zq mixed ttok 9 [0,3] [3] Zv Zw q.aggs.length (fun n=> ∀i,i<n->(x3 ts (q.aggs.getD i default)).2=0) (fun n=>[(7,.vec 700 (q.exprs.length+n))]) (fun n=>[(700,.vec 3 1 (zd rI ((q.exprs.map fun e=>(yb (ownM ts) e).1)++(q.aggs.take n).map fun e=>(x3 ts e).1)) 0)]) (fun i h=>absurd h (Yu _)) ?_ ?_
  ·exact Ya Zh Zh Zh
  intro I hI n hn hi;have hl2:((q.exprs.map fun e=>(yb (ownM ts) e).1)++(q.aggs.take n).map fun e=>(x3 ts e).1).length=q.exprs.length+n:=by rw [Yb,Y2,Y2,Yh];omega
  refine Zx ?_;refine za (fun h=>?_) fun h=>?_
  ·have h':n<q.aggs.length:=Zq h;have hw:=zh h' Za;have hs:=wp (fun e=>(x3 ts e).1) q.aggs n h';refine ⟨Zs,?_⟩;have hbad: ∀e,e≠0->x3 ts (q.aggs.getD n default)=(0,e)->z7 ([],e)=R:=fun e he hA=>by
    have hb:=gW (x3 ts) q.aggs n h' hi (by rw [hA];exact he);rw [<-hr,hb,hA,if_pos he]
   have hok:=hq.ag _ (zk h');have hcz:=c_zero4 (q.aggs.getD n default).arg (Y3 hok.kids Za);have hct:=c_rtype ts Za (q.aggs.getD n default).arg hok;rw [yt] at hcz hct;generalize hG:q.aggs.getD n default=G at hbad hok hcz hct hs ⊢;refine za (fun f1=>?_) fun f1=>?_
   ·rw [←hbad 1 Zi (by rw [x3,if_pos (.inl (Yd f1))]),z7];exact Mg
   refine za (fun f2=>?_) fun f2=>?_
   ·rw [←hbad 1 Zi (by rw [x3,if_pos (.inr (.inl (Yd f2)))]),z7];exact Mg
   have f1': ¬G.fn<1:=Yc f1;have f2': ¬G.fn>6:=Yc f2;refine za (fun f3=>?_) fun f3=>?_
   ·have f3':G.fn=1:=eq_of_beq f3;refine zg [[0,0,0,0,0,6]] [] (hcz) ?_;refine Zf ?_;refine za (fun z=>?_) fun z=>?_
    ·have z':jJ G.arg=false:=Zc z;rw [<-hbad 1 Zi (by rw [x3,if_pos (.inr (.inr ⟨f3',z'⟩))]),z7];exact Mg
    have z':jJ G.arg=true:=Zc z;have hA:x3 ts G=(1,0):=by rw [x3,if_neg (by rw [z'];simp;omega),if_pos f3']
    refine za (fun g=>absurd f3' (by simpa [bne] using g)) (fun _=>?_)
    rw [hA] at hs
    refine ⟨⟨hl2.symm,by rw [hl2];omega⟩,?_⟩
    exact zp hI n rfl h' (fun i h2=>if h3:i=n then by rw [h3,hG,hA] else hi i Za) (ZG hw hs hl2 (Yt hn)) (ZG hw hs hl2 (Yt hn)) (ZG hw hs hl2 (Yt hn)) (ZG hw hs hl2 (Yt hn))
   have f3': ¬G.fn=1:=beq_eq_false_iff_ne.1 f3
   refine za (fun _=>?_) (fun g=>absurd (by simpa [bne] using g) f3')
   refine zg [[1],[0,0,0,0,0,6]] [] (hct) ?_;obtain ⟨T,hT⟩: ∃T,yb (ownM ts) G.arg=T:=⟨_,rfl⟩
   have hA:x3 ts G=if T.2≠0 then (0,T.2) else if G.fn=5\/G.fn=6 then (T.1,0) else if G.fn=4/\T.1≠1 then (0,4) else (1,0):=by
    rw [x3,if_neg (fun h=>h.elim f1' fun h=>h.elim f2' fun h=>f3' h.1),if_neg f3',hT]
   rw [hT];refine ZW ?_;refine za (fun k1=>?_) fun k1=>?_
   ·have k1':T.2≠0:=Zc k1;rw [<-hbad T.2 k1' (by rw [hA,if_pos k1']),z7];exact Mg
   have k1': ¬T.2≠0:=Zc k1;rw [if_neg k1'] at hA;have hgo: ∀v,x3 ts G=(v,0)->(x3 ts (q.aggs.getD n default)).2=0:=fun v h=>by rw [hG,h]
   refine za (fun k4=>?_) fun k4=>?_
   ·have k4':G.fn=4:=eq_of_beq k4;rw [if_neg Za] at hA;refine za (fun k5=>?_) fun k5=>?_
    ·have k5':T.1≠1:=by simpa [bne] using k5
     rw [<-hbad 4 Zi (by rw [hA,if_pos ⟨k4',k5'⟩]),z7];exact Mg
    ·have k5':T.1=1:=by simpa [bne] using k5
     rw [if_neg (fun h=>h.2 k5')] at hA
     rw [hA] at hs
     refine za (fun g=>absurd (eq_of_beq g) (by omega)) (fun _=>za (fun g=>absurd (eq_of_beq g) (by omega)) (fun _=>?_))
     refine ⟨⟨hl2.symm,Z2 hl2⟩,?_⟩
     exact MF
   have k4': ¬G.fn=4:=YO.1 k4;refine za (fun k5=>?_) fun k5=>?_
   ·have k5':G.fn=5:=eq_of_beq k5;rw [if_pos (.inl k5')] at hA;exact Ha
   have k5': ¬G.fn=5:=YO.1 k5;refine za (fun k6=>?_) fun k6=>?_
   ·have k6':G.fn=6:=eq_of_beq k6;rw [if_pos (.inr k6')] at hA;exact Ha
   have k6': ¬G.fn=6:=YO.1 k6;rw [if_neg (fun h=>h.elim k5' k6'),if_neg (fun h=>k4' h.1)] at hA;rw [hA] at hs;refine ⟨⟨hl2.symm,Z2 hl2⟩,?_⟩;exact MF
  ·exact GA
 ·have hb:wh ts q.exprs=([],(wh ts q.exprs).2):=Kj;have hcl:=c_list4 ts q.exprs hts hel hq.ex;unfold z7 at hcl;refine xl [] (vb _ _) (hcl) (by simp [yt,ends,bs]) (ZU bs) (by simp [yt,ends]) ZV ?_;refine Zf ?_;exact GZ
theorem Kb{p:Prop}(h:p:=by
 have h1:(t==1)=false:=YO.2 Za;have h2:(t==2)=false:=YO.2 Za;have h3:(t==3)=false:=YO.2 Za;rw [xf,h1,h2,h3];rfl):p:=h
theorem isType_low {t:Int} (h:t<1):xf t=false:=Kb
theorem isType_high {t:Int} (h:t>3):xf t=false:=Kb
theorem isType_mid {t:Int} (h1: ¬t<1) (h3: ¬t>3):xf t=true:=by
 have:t=1\/t=2\/t=3:=Za;rcases this with rfl | rfl | rfl<;>rfl
def gI (q:Qr):List Int×Int:=if xm q≠0 then ([],xm q) else (q.types,0)
theorem c_values4 (q:Qr) (hq:OkQ1 q):ACall Tryz.prog 126 [aQ q] [] (z7 (gI q)) []:=by
 have htl:=hq.types;have hrl:=hq.rows;rw [zW];refine zn mixed ttok Tryz.func126 Tryz.ntmps126 Tryz.results126 ?_;generalize hr:z7 (gI q)=R;have h4:xm q=4->z7 ([],4)=R:=fun h=>by rw [<-hr,gI,h];rfl
 refine Zn ?_;refine za (fun k1=>?_) fun k1=>?_
 ·have k1':q.types.length<1:=Zq k1;rw [<-h4 (by rw [xm,if_pos (.inl (by omega))]),z7];exact Mg
 have k1': ¬q.types.length<1:=Zp k1;refine za (fun k2=>?_) fun k2=>?_
 ·have k2':q.types.length>24:=Zq k2;rw [<-h4 (by rw [xm,if_pos (.inr (.inl k2'))]),z7];exact Mg
 have k2': ¬q.types.length>24:=Zp k2;refine zq mixed ttok 4 [1] [1] Zv Zw q.types.length (fun n=> ∀i,i<n->xf (q.types.getD i default)=true) (fun _=>[]) (fun _=>[]) (fun i h=>absurd h (Yu _)) ?_ ?_
 ·exact Ya Zh Zh Zh
 intro I hI n hn hi;refine Zx ?_;refine za (fun h=>?_) fun h=>?_
 ·have h':n<q.types.length:=Zq h;have hw:=zh h' Za;refine ⟨Zs,?_⟩;have hany:xf (q.types.getD n default)=false->xm q=4:=fun hb=>by
   rw [xm,if_pos (.inr (.inr (U4.2 ⟨_,zk h',Z4 hb⟩)))]
  refine za (fun g1=>?_) fun g1=>?_
  ·rw [←h4 (hany (isType_low (Yd g1))),z7];exact Mg
  refine ⟨Za,?_⟩;refine za (fun g2=>?_) fun g2=>?_
  ·rw [←h4 (hany (isType_high (Yd g2))),z7];exact Mg
  have g':=isType_mid (Yc g1) (Yc g2);exact M5
 obtain rfl:n=q.types.length:=Zp h;have hty:(q.types.any fun t=> !xf t)=false:=by
  rw [List.any_eq_false];intro t ht;obtain ⟨i,h1,rfl⟩:=uS ht;rw [hi i h1];decide
 clear hI h hn hi I;have hV:xm q=ferr (xn q.types) q.rows:=by rw [xm,if_neg (fun h=>h.elim (by omega) fun h=>h.elim k2' fun h=>by rw [hty] at h;cases h)]
 have hbad: ∀e n,e≠0->n<q.rows.length->(∀i,i<n->xn q.types (q.rows.getD i default)=0)->xn q.types (q.rows.getD n default)=e->z7 ([],e)=R:=fun e n he hn hi hx=>by
  have:=xV (xn q.types) q.rows n hn hi (by rw [hx];exact he);rw [<-hr,gI,hV,this,hx,if_pos he]
 refine zq mixed ttok 5 [1] [1] Zv Zw q.rows.length (fun n=> ∀i,i<n->xn q.types (q.rows.getD i default)=0) (fun _=>[]) (fun _=>[]) (fun i h=>absurd h (Yu _)) ?_ ?_
 ·exact Ya Zh Zh Zh
 intro I hI n hn hi;refine Zx ?_;refine za (fun h=>?_) fun h=>?_
 ·have h':n<q.rows.length:=Zq h;have hw:=zh h' Za;refine ⟨Zs,ze Zg,?_⟩;refine za (fun g=>?_) fun g=>?_
  ·have g':(q.rows.getD n default).length≠q.types.length:=fun e=>by rw [e,bne_self_eq_false] at g;cases g
   rw [<-hbad 9 n Zi h' hi (by rw [xn,if_pos g']),z7];exact Mg
  have g':(q.rows.getD n default).length=q.types.length:=by
   cases h3:(((q.rows.getD n default).length:Int)==(q.types.length:Int)) with
   | true=>have:=eq_of_beq h3;omega
   | false=>rw [bne,h3] at g;cases g
  have hI1:=hI;refine zq mixed ttok 6 [1,5] [1] Zv Zw q.types.length (fun m=> ∀j,j<m->vE q.types (q.rows.getD n default) j=false) (fun _=>[]) (fun _=>[]) (fun i h=>absurd h (Yu _)) ?_ ?_
  ·exact Ya Zh Zh Zh
  intro J hJ m hm hj;refine Zx ?_;refine za (fun f=>?_) fun f=>?_
  ·have f':m<q.types.length:=Zq f;have hw2:=zh f' Za;have hrb:vE q.types (q.rows.getD n default) m=true->z7 ([],4)=R:=fun hb=>hbad 4 n Zi h' hi (by
    rw [xn,if_neg (fun h=>h g'),if_pos (U4.2 ⟨m,UC.2 Za,hb⟩)])
   unfold vE at hrb;have hgo:vE q.types (q.rows.getD n default) m=(!zO ((q.rows.getD n default).getD m default) || (((q.rows.getD n default).getD m default).kind !=0&&((q.rows.getD n default).getD m default).kind !=q.types.getD m default)):=rfl;have hcv:=qm ((q.rows.getD n default).getD m default);generalize (q.rows.getD n default).getD m default=v at hrb hgo hcv ⊢;refine ⟨Zs,Za,?_⟩;refine zg [[0,0,0]] [] (hcv) ?_;refine Zf ?_;refine za (fun b1=>?_) fun b1=>?_
   ·rw [←hrb (Z4 b1),z7];refine ⟨ze Zg,?_⟩;exact Mg
   refine za (fun b2=>?_) fun b2=>?_
   ·refine ⟨Za,ze Zg,?_⟩;refine za (fun b3=>?_) fun b3=>?_
    ·rw [←hrb (by rw [b1,b2,b3];rfl),z7];exact Mg
    ·exact zp hJ m rfl f' (fun j h2=>if h3:j=m then by rw [h3,hgo,b1,b2,b3];rfl else hj j Za) (Ze hw2) (Ze hw2) (Ze hw2) (Ze hw2)
   ·refine ⟨ze Zg,?_⟩;exact zp hJ m rfl f' (fun j h2=>if h3:j=m then by rw [h3,hgo,b1,b2];rfl else hj j Za) (Ze hw2) (Ze hw2) (Ze hw2) (Ze hw2)
  obtain rfl:m=q.types.length:=Zp f;have hrow:xn q.types (q.rows.getD n default)=0:=by
   rw [xn,if_neg (fun h=>h g'),if_neg];rw [U4];rintro ⟨j,h1,h2⟩;rw [hj j (by have:=UC.1 h1;omega)] at h2;cases h2
  exact zp hI n rfl h' (fun i h2=>if h3:i=n then by rw [h3];exact hrow else hi i Za) (Ze hw) (Ze hw) (Ze hw) (Ze hw)
 obtain rfl:n=q.rows.length:=Zp h;have hz:xm q=0:=by rw [hV];exact yQ _ _ hi
 rw [<-hr,gI,hz,if_neg (fun h=>h rfl),z7];exact Mg
def has (o:FmD) (w:ByteArray):Bool:=Lib.contains (kH o.uses).data.toList (kH w).data.toList
theorem has_tab:(List.range 11).all (fun n=>decide (n=0) || ([(⟨#[116,97,98,108,101]⟩:ByteArray),⟨#[107,105,110,100]⟩,⟨#[97,108,108]⟩,⟨#[99,111,110,100]⟩,⟨#[101,120,112,114,115]⟩,⟨#[97,103,103,115]⟩,⟨#[116,121,112,101,115]⟩,⟨#[114,111,119,115]⟩].map (has (fmTab.getD n default))==
 [n==1,n==5,(n==6 || n==7) || n==8,n==3 || n==5,n==4 || n==10,n==10,n==2,n==2]))=true:=by decide+kernel
theorem fm_cases {op:Int} (h:isFm op=true): ∃n:Nat,op=n/\n<11/\n≠0:=by
 simp only [isFm,Yy,Yg] at h;exact ⟨op.toNat,Za,Za,Za⟩
theorem plain_tab: ∀n∈List.range 11,n=0\/ ∀f1 f2 f3 f4 f5 f6 f7 f8:Bool,
 ((!(f1&& !(n==1)))&&((!(f2&& !(n==5)))&&((!(f3&& !((n==6 || n==7) || n==8)))&&((!(f4&& !(n==3 || n==5)))&&((!(f5&& !(n==4 || n==10)))&&((!(f6&& !(n==10)))&&((!(f7&& !(n==2)))&&((!(f8&& !(n==2)))&&true))))))))=
 (!(((f1&&n !=1) || (f2&&n !=5)) || (f3&& !((n==6 || n==7) || n==8)))&&
 (!(((f4&&n !=3)&&n !=5) || ((f5&&n !=4)&&n !=10))&& !(((f6&&n !=10) || (f7&&n !=2)) || (f8&&n !=2)))):=by decide+kernel
theorem plain_eq (q:Qr):qZ q=(isFm q.op&&vo q (y9 q.op)):=by
 cases h:isFm q.op with
 | false=>
   have h':isFm q.op=false:=h;have h2:(decide (1<=q.op)&&decide (q.op<=10))=false:=h';rw [qZ,h2];rfl
 | true=>
 have h2:(decide (1<=q.op)&&decide (q.op<=10))=true:=h;obtain ⟨n,hn,h11,h0⟩:=fm_cases h;have ht:=all_range.1 has_tab n h11;rw [YS h0,Yx] at ht;have ht:=eq_of_beq ht;simp only [Y0,U7,List.cons.injEq,and_true] at ht;obtain ⟨t1,t2,t3,t4,t5,t6,t7,t8⟩:=ht;have hf:y9 q.op=fmTab.getD n default:=by rw [y9,if_pos h,fmAt,hn,YA]
 have hb: ∀f w,badU (fmTab.getD n default) (w,f)=(f&& !has (fmTab.getD n default) w):=fun _ _=>rfl;have e: ∀k:Nat,((n:Int)==(k:Int))=(n==k):=fun k=>by
  cases h3:n==k
  ·exact YO.2 (by have:=YO.1 h3;omega)
  ·exact beq_iff_eq.2 (by have:=eq_of_beq h3;omega)
 rw [hf,Yo];unfold vo uq qZ;rw [h2];simp only [List.all_cons,List.all_nil,hb,t1,t2,t3,t4,t5,t6,t7,t8,Yo];have hp:=(plain_tab n (UC.2 h11)).resolve_left h0;rw [hp];have e1:=e 1;have e2:=e 2;have e3:=e 3;have e4:=e 4;have e5:=e 5;have e6:=e 6;have e7:=e 7;have e8:=e 8;have e10:=e 10;simp only [Int.cast_ofNat_Int] at e1 e2 e3 e4 e5 e6 e7 e8 e10;simp only [hn,bne,e1,e2,e3,e4,e5,e6,e7,e8,e10]
theorem kids_eq {op:Int} (h:isFm op=true):kids4 op=(y9 op).kids:=by
 obtain ⟨n,rfl,h11,h0⟩:=fm_cases h;have:n=1\/n=2\/n=3\/n=4\/n=5\/n=6\/n=7\/n=8\/n=9\/n=10:=Za;rcases this with rfl | rfl | rfl | rfl | rfl | rfl | rfl | rfl | rfl | rfl<;>rfl
theorem c_typed4 (s:Sch) (hs:SmallS s): ∀q:Qr,OkQ q→ACall Tryz.prog 71 [aS s,aQ q] [] (z7 (typQ s q)) []:=
 ku (p:=fun q=>OkQ q->ACall Tryz.prog 71 [aS s,aQ q] [] (z7 (typQ s q)) []) fun q ih ho=>by
 have hq:=ho.one;have hkl:=hq.kids;have hsl:=hs.len;rw [zW];refine zn mixed ttok Tryz.func71 Tryz.ntmps71 Tryz.results71 ?_;generalize hr:z7 (typQ s q)=R;refine Zn ?_;refine zq mixed ttok 7 [2,3] [2,3] Zv Zw q.kids.length (fun n=> ∀i,i<n->(typQ s (q.kids.getD i default)).2=0) (fun n=>[(6,.vec 500 n)]) (fun n=>[(500,.vec 22 1 (zd rIs (kidT s q n)) 0)]) (fun i h=>absurd h (Yu _)) ?_ ?_
 ·exact (Weak.nilL 6 500 22 1 rfl rfl).trans (Weak.keepL (by simp [cst,ends]) (by simp [cst,kidT,zd,ends]) (by simp [cst,ends]))
 intro I hI n hn hi;have hl2:(kidT s q n).length=n:=by rw [kidT,Y2,Yh];omega
 refine Zx ?_;refine za (fun h=>?_) fun h=>?_
 ·have h':n<q.kids.length:=Zq h;have hw:=zh h' Za;have hst:=wp (fun k=>(typQ s k).1) q.kids n h';have hc:=ih _ (zk h') (ho.kid (zk h'));rw [zW] at hc;refine ⟨Zs,?_⟩;refine zg [[6],[0,0,0,0,0,0,0,0,0,6,6,7,1,1,15]] [] (hc) ?_;refine Xf ?_;refine ⟨ze Zg,?_⟩;exact Gw
 obtain rfl:n=q.kids.length:=Zp h;clear hI;have hf:ferr Prod.snd (q.kids.map (typQ s))=0:=Ww;have hT:kidT s q q.kids.length=(q.kids.map (typQ s)).map Prod.fst:=by rw [kidT,Yk,Ux];rfl
 have hM:typQ s q=ownQ s q (kidT s q q.kids.length):=by rw [gJ s q,typQK,if_pos hf,hT]
 have hks: ∀l∈kidT s q q.kids.length,l.length<=1000:=fun l hl=>by
  exact KW
 rw [hM] at hr;clear hM hT hf hi;generalize kidT s q q.kids.length=ks at hr hks hl2 ⊢;have hg: ∀i,(ks.getD i default).length<=1000:=fun i=>by
  by_cases h:i<ks.length
  ·exact hks _ (zk h)
  ·exact JW
 rw [<-hl2];have hcp:=c_plain4 q (Y3 hq.cond.kids Za);rw [zW,plain_eq] at hcp;refine zg [[0,0,0,0,0,0,0,0,0,6,6,7,1,1,15]] [] (hcp) ?_;refine Zf ?_;unfold ownQ at hr;refine za (fun k1=>?_) fun k1=>?_
 ·have k1':isFm q.op=false∨vo q (y9 q.op)=false:=by
   cases h1:isFm q.op with
   | false=>exact .inl rfl
   | true=>
     cases h2:vo q (y9 q.op) with
     | false=>exact .inr rfl
     | true=>rw [h1,h2] at k1;cases k1
  rw [<-hr,if_pos k1',z7];exact Mg
 have k0:(isFm q.op&&vo q (y9 q.op))=true:=by
  cases h:(isFm q.op&&vo q (y9 q.op)) with
  | true=>rfl
  | false=>rw [h] at k1;cases k1
 have k1':isFm q.op=true:=by
  cases h1:isFm q.op with
  | true=>rfl
  | false=>rw [h1] at k0;cases k0
 have k2:vo q (y9 q.op)=true:=by
  cases h1:vo q (y9 q.op) with
  | true=>rfl
  | false=>rw [h1,YI] at k0;cases k0
 rw [if_neg (by rw [k1',k2];simp)] at hr;refine zg [[0]] [] (c_kids4 q.op) ?_;rw [kids_eq k1'];refine Zf ?_;refine za (fun k3=>?_) fun k3=>?_
 ·exact GX
 have k3': ¬(ks.length:Int)≠(y9 q.op).kids:=Zc k3;rw [if_neg k3'] at hr;have k3'':(ks.length:Int)=(y9 q.op).kids:=Zc k3;refine za (fun o1=>?_) fun o1=>?_
 ·have o1':q.op=1:=Zc o1;have hkn:(y9 q.op).kids=0:=Z4 o1';rw [if_pos o1'] at hr;refine zg [[6],[0]] [] (c_rfind s q.table Za) ?_;have hlt:=xU (fun t:Tbl=>t.name.toList==q.table.toList) s;have hbd:byT s q.table=fidx (fun t:Tbl=>t.name.toList==q.table.toList) s:=rfl;rw [<-hbd] at hlt;generalize byT s q.table=b at hr hlt ⊢;by_cases hb:b≥0
  ·have hb2:(if 0>b then (0:Int) else b)=b:=if_neg Za;have hb3:decide (b≥0)=true:=YV hb;rw [if_pos hb] at hr;simp -implicitDefEqProofs only [yj,hb2,hb3,↓zb,push_cast,simprocAttr,tt];refine ⟨⟨hb,Za⟩,?_⟩;have hm:=zk (l:=s) (n:=b.toNat) Za;have hct:=vr (s.getD b.toNat default) (by have:=(hs.tab _ hm).cols;omega);exact GM
  ·exact GL
 have o1': ¬q.op=1:=Zc o1;rw [if_neg o1'] at hr;refine za (fun o2=>?_) fun o2=>?_
 ·have o2':q.op=2:=Zc o2;have hkn:(y9 q.op).kids=0:=Z4 o2';rw [if_pos o2'] at hr;have hv:=c_values4 q hq;rw [zW] at hv;unfold z7 at hv;refine zg [[0,0,0,0,0,0,0,0,0,6,6,7,1,1,15]] [] (hv) ?_;refine Zf ?_;rw [<-hr,z7];unfold gI;exact Mg
 have o2': ¬q.op=2:=Zc o2;rw [if_neg o2'] at hr;refine za (fun o3=>?_) fun o3=>?_
 ·have o3':q.op=3:=Zc o3;have hkn:(y9 q.op).kids=1:=Z4 o3';rw [if_pos o3'] at hr;have hk1:ks.length=1:=Za;have hcd:=c_cond4 (ks.getD 0 default) (Y3 (hg 0) Za) q.cond hq.cond;exact Gv
 have o3': ¬q.op=3:=Zc o3;rw [if_neg o3'] at hr;refine za (fun o4=>?_) fun o4=>?_
 ·have o4':q.op=4:=Zc o4;have hkn:(y9 q.op).kids=1:=Z4 o4';rw [if_pos o4'] at hr;have hk1:ks.length=1:=Za;have hel:=hq.exprs;refine za (fun g1=>?_) fun g1=>?_
  ·have g1':q.exprs.length=0:=Zq g1;rw [<-hr,if_pos (.inl g1'),z7];exact Mg
  have g1': ¬q.exprs.length=0:=Zp g1;refine za (fun g2=>?_) fun g2=>?_
  ·exact Hb
  have g2': ¬q.exprs.length>24:=Zp g2;rw [if_neg (fun h=>h.elim g1' g2')] at hr;refine ⟨Za,Za,?_⟩;have hcl:=c_list4 (ks.getD 0 default) q.exprs (Y3 (hg 0) Za) hel hq.ex;unfold z7 at hcl;refine xl [] (vb _ _) (hcl) (by simp [yt,ends,bs]) (ZU bs) (by simp [yt,ends]) ZV ?_;refine Zf ?_;refine ⟨ze Zg,?_⟩;rw [<-hr,z7];exact Mg
 have o4': ¬q.op=4:=Zc o4;rw [if_neg o4'] at hr;refine za (fun o5=>?_) fun o5=>?_
 ·have o5':q.op=5:=Zc o5;have hkn:(y9 q.op).kids=2:=Z4 o5';rw [if_pos o5'] at hr;have hk1:ks.length=2:=Za;refine ⟨Za,Za,Za,Za,?_⟩;have hj:=c_join4 (ks.getD 0 default) (ks.getD 1 default) q (hg 0) (hg 1) hq;exact Hn
 have o5': ¬q.op=5:=Zc o5;rw [if_neg o5'] at hr;refine za (fun o10=>?_) fun o10=>?_
 ·have o10':q.op=10:=Zc o10;have hkn:(y9 q.op).kids=1:=Z4 o10';rw [if_pos o10'] at hr;have hk1:ks.length=1:=Za;refine ⟨Za,Za,?_⟩;have hj:=c_group4 (ks.getD 0 default) q (Y3 (hg 0) Za) hq;exact Ho
 have o10': ¬q.op=10:=Zc o10;rw [if_neg o10'] at hr;refine za (fun o9=>?_) fun o9=>?_
 ·have o9':q.op=9:=Zc o9;have hkn:(y9 q.op).kids=1:=Z4 o9';exact GS
 have o9': ¬q.op=9:=Zc o9;have o678:q.op=6\/q.op=7\/q.op=8:=by
  simp only [isFm,Yy,Yg] at k1';omega
 have hkn:(y9 q.op).kids=2:=by rcases o678 with h | h | h<;>rw [h]<;>rfl
 have hk1:ks.length=2:=Za;rw [if_pos o678] at hr;refine ⟨Za,Za,Za,Za,?_⟩;refine zg [[1],[1]] [] (c_ints4 (ks.getD 0 default) (ks.getD 1 default) (Y3 (hg 0) Za)) ?_;exact Gu
theorem GU{p:Prop}(h:p:=by
 refine Zf ?_;rw [<-hr];exact Mg):p:=h
theorem c_Type4 (s:Sch) (hs:SmallS s) (q:Qr) (ho:OkQ q):ACall Tryz.prog 37 [aS s,aQ q] [] (z7 (wJ s q)) []:=by
 have h1:=c_rqsize q ho;have h2:=c_rqdepth q ho;have h3:=c_typed4 s hs q ho;rw [zW] at h1 h2 h3 ⊢;refine zn mixed ttok Tryz.func37 Tryz.ntmps37 Tryz.results37 ?_;generalize hr:z7 (wJ s q)=R;unfold wJ at hr;refine Zn ?_;refine zg [[0,0,0,0,0,0,0,0,0,6,6,7,1,1,15]] [] (h1) ?_;refine Zf ?_;refine za (fun k1=>?_) fun k1=>?_
 ·rw [←hr,if_pos (Yd k1),z7];exact Mg
 rw [if_neg (Yc k1)] at hr;refine zg [[0,0,0,0,0,0,0,0,0,6,6,7,1,1,15]] [] (h2) ?_;refine Zf ?_;refine za (fun k2=>?_) fun k2=>?_
 ·rw [←hr,if_pos (Yd k2),z7];exact Mg
 rw [if_neg (Yc k2)] at hr;unfold z7 at h3 hr;refine zg [[6],[0,0,0,0,0,0,0,0,0,6,6,7,1,1,15]] [] (h3) ?_;exact GU
end
section
attribute [local simp, local push_cast] Ta aRow rRow aAgg
inductive OkX:Ex->Prop
 | mk (e:Ex) (h:i64 e.num) (ht:e.text.size<=9223372036854775807) (hk: ∀k∈e.kids,OkX k):OkX e
theorem OkX.num {e:Ex} (h:OkX e):i64 e.num:=by cases h;assumption
theorem OkX.text {e:Ex} (h:OkX e):e.text.size<=9223372036854775807:=by cases h;assumption
theorem OkX.kid {e k:Ex} (h:OkX e) (hk:k∈e.kids):OkX k:=by cases h with | mk _ _ _ h2=>exact h2 k hk
theorem gh:i64 0:=⟨Zi,Zi⟩
theorem i64_1:i64 1:=⟨Zi,Zi⟩
theorem qi:ByteArray.empty.size<=9223372036854775807:=Yj _
theorem xh:okV zl:=⟨gh,qi⟩
theorem qy (b:Bool):okV (ofV b):=by
 cases b
 ·exact ⟨gh,qi⟩
 ·exact ⟨i64_1,qi⟩
theorem kU {l:List Val} (h: ∀v∈l,okV v) (n:Nat):okV (l.getD n default):=by
 by_cases hn:n<l.length
 ·exact h _ (zk hn)
 ·rw [Yf,List.getElem?_eq_none Za];exact ⟨gh,qi⟩
theorem okV_int {n:Int} (h:i64 n):okV ⟨1,n,ByteArray.empty⟩:=⟨h,qi⟩
theorem okV_validI (n:Int):okV (vc ⟨1,n,ByteArray.empty⟩):=by
 unfold vc
 split
 ·rename_i h;have:=uA h rfl;unfold okN at this;simp only at this;exact okV_int ⟨Za,Za⟩
 ·exact xh
theorem okV_validT (s:ByteArray):okV (vc ⟨3,0,s⟩):=by
 unfold vc
 split
 ·rename_i h;have:=jE h rfl;exact ⟨gh,by simp only at this ⊢;omega⟩
 ·exact xh
theorem okV_arith (op:Int) (a b:Val):okV (u6 op a b):=by
 unfold u6
 split
 ·exact xh
 split
 ·split
  ·exact okV_validI _
  ·exact xh
 split
 ·exact okV_validT _
 ·exact xh
theorem okV_equal (a b:Val):okV (yY a b):=by unfold yY;split<;>first | exact xh | exact qy _
theorem okV_less (a b:Val):okV (vL a b):=by unfold vL;split<;>first | exact xh | exact qy _
theorem okV_not (a:Val):okV (notM a):=by unfold notM;split<;>first | exact xh | exact qy _
theorem okV_and (a b:Val):okV (andM a b):=by unfold andM;split<;>(try split)<;>first | exact xh | exact qy _
theorem okV_or (a b:Val):okV (orM a b):=by unfold orM;split<;>(try split)<;>first | exact xh | exact qy _
theorem okV_in (v:Val): ∀(l:List Val) (out:Val),okV out->okV (inM v out l)
 | [],_,h=>h
 | x::l,out,_=>okV_in v l _ (okV_or _ _)
theorem xB {c:Prop} [Decidable c] {a b:Val} (ha:okV a) (hb:okV b):okV (if c then a else b):=by
 split
 ·exact ha
 ·exact hb
theorem okV_apply (op:Int) (l:List Val) (h: ∀v∈l,okV v):okV (zB op l):=by
 have h0:=kU h 0;have h1:=kU h 1;unfold zB;refine xB (okV_arith _ _ _) (xB (okV_arith _ _ _) (xB (xB (okV_int ⟨Za,?_⟩) xh) ?_))
 ·have:=h0.2;omega
 refine xB (okV_equal _ _) (xB (okV_not _) (xB (okV_less _ _) (xB (okV_not _) (xB (okV_less _ _) (xB (okV_not _) (xB (qy _) (xB (qy _) (xB (okV_and _ _) (xB (okV_or _ _) ?_)))))))));exact xB (okV_not _) (xB (qy _) (xB (xB h1 h0) (xB (okV_in _ _ _ (qy _)) xh)))
theorem okV_eval (row:List Val) (hrow: ∀v∈row,okV v): ∀e:Ex,OkX e->okV (zG row e):=
 jY (p:=fun e=>OkX e→okV (zG row e)) fun e ih ho=>by
  have hk: ∀v∈e.kids.map (zG row),okV v:=fun v hv=>by
   obtain ⟨k,hk,rfl⟩:=Yv.1 hv;exact ih k hk (ho.kid hk)
  rw [wM];unfold yf
  split
  ·exact xh
  split
  ·exact okV_int ho.num
  split
  ·exact ⟨ho.num,qi⟩
  split
  ·exact ⟨gh,ho.text⟩
  split
  ·split
   ·exact kU hrow _
   ·exact xh
  split
  ·split
   ·exact kU hk _
   ·exact kU hk _
  ·exact okV_apply _ _ hk
theorem okV_vals (e:Ex) (rows:List Row) (he:OkX e) (hr: ∀r∈rows,∀v∈r,okV v): ∀v∈y6 e rows,okV v:=by
 intro v hv;have:=(Uj.1 hv).1;obtain ⟨r,h1,rfl⟩:=Yv.1 this;exact okV_eval r (hr r h1) e he
end
end Go.Proofs.YtnmibokjpedkiaaGreatDoor
