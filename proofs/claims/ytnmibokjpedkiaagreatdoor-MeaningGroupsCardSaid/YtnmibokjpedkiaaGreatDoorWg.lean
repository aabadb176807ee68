/- Groups of a query have one row for each key, and their counts add up: a proof over an abstract machine of our own (part Wg) -/
import Derived.Test.YtnmibokjpedkiaaGreatDoorWf
set_option maxRecDepth 100000
set_option maxHeartbeats 4000000
set_option linter.all false
namespace Go.Proofs.YtnmibokjpedkiaaGreatDoor
section
open Go.Am
attribute [local simp, local push_cast] num boo str ints aV aTab zx aS aT aC aRow rRow
def okC (q:Qr) (r:Row):Bool:=y7 (y9 r q.cond)==1
def okJ (q:Qr) (r t:Row):Bool:=y7 (y9 (r++t) q.cond)==1
def nulls (n:Nat):Row:=List.replicate n zu
def tailJ (q:Qr) (w:Nat) (f:Bool) (r:Row):List Row:=
 if f=false/\(q.kind=2\/q.kind=4) then [r++nulls w] else if (f=true/\q.kind=5)\/(f=false/\q.kind=6) then [r] else []
def joinL (q:Qr) (w:Nat) (b:List Row) (r:Row):List Row:=
 (if q.kind<5 then (b.filter (okJ q r)).map (r++ ·) else [])++tailJ q w (b.any (okJ q r)) r
def joinR (q:Qr) (w:Nat) (a b:List Row):List Row:=
 if q.kind=3\/q.kind=4 then (b.filter fun t=> !(a.any fun r=>okJ q r t)).map (nulls w++ ·) else []
def jnM (q:Qr) (w0 w1:Nat) (a b:List Row):List Row:=a.flatMap (joinL q w1 b)++joinR q w0 a b
def keyR (q:Qr) (r:Row):Row:=q.exprs.map (y9 r)
def wz (q:Qr) (rows:List Row):List Val:=q.aggs.map fun a=>aggM a.fn a.arg rows
def grpsR (q:Qr) (rows:List Row) (keys:List Row):List Row:=keys.map fun k=>k++wz q (rows.filter fun r=>cmpR (keyR q r) k==0)
abbrev GF:=Qr->List Row->List Row
def outM (gr:GF) (s:Sch) (i:Inst) (q:Qr) (w0 w1:Nat) (k0 k1:List Row):List Row:=
 if q.op=1 then i.getD (byT s q.table).toNat default
 else if q.op=2 then q.rows
 else if q.op=3 then k0.filter (okC q)
 else if q.op=4 then k0.map (keyR q)
 else if q.op=5 then jnM q w0 w1 k0 k1
 else if q.op=6 then uU (jb q.all) k0 k1
 else if q.op=7 then uU (exceptT q.all) k0 k1
 else if q.op=8 then uU (interT q.all) k0 k1
 else if q.op=9 then j4 k0
 else if q.op=10 then gr q k0
 else []
def evOp (gr:GF) (s:Sch) (i:Inst) (q:Qr) (ks:List (List Row)):Option (List Row):=
 if q.op=5/\50000<(ks.getD 0 []).length * (ks.getD 1 []).length then none
 else if 1000<(outM gr s i q (typQ s (q.kids.getD 0 default)).1.length (typQ s (q.kids.getD 1 default)).1.length (ks.getD 0 []) (ks.getD 1 [])).length then none
 else some (outM gr s i q (typQ s (q.kids.getD 0 default)).1.length (typQ s (q.kids.getD 1 default)).1.length (ks.getD 0 []) (ks.getD 1 []))
def allO {α:Type}:List (Option α)->Option (List α)
 | []=>some []
 | none::_=>none
 | some x::l=>(allO l).map (x:: ·)
mutual
def evQ (gr:GF) (s:Sch) (i:Inst):Qr->Option (List Row)
 | .mk a b c d e f g h t ks=>(allO (evQs gr s i ks)).bind (evOp gr s i (.mk a b c d e f g h t ks))
def evQs (gr:GF) (s:Sch) (i:Inst):List Qr->List (Option (List Row))
 | []=>[]
 | q::l=>evQ gr s i q::evQs gr s i l
end
theorem evQs_eq (gr:GF) (s:Sch) (i:Inst): ∀l,evQs gr s i l=l.map (evQ gr s i)
 | []=>rfl
 | q::l=>by rw [evQs,evQs_eq gr s i l];rfl
theorem evQ_eq (gr:GF) (s:Sch) (i:Inst) (q:Qr):evQ gr s i q=(allO (q.kids.map (evQ gr s i))).bind (evOp gr s i q):=by cases q;rw [evQ,evQs_eq];rfl
theorem valsM_perm (e:Ex) {a b:List Row} (h:a.Perm b):(yN e a).Perm (yN e b):=(h.map _).filter _
theorem sortV_perm2 {a b:List Val} (h:a.Perm b):sortV a=sortV b:=
 ((j8 a).trans (h.trans (j8 b).symm)).eq_of_pairwise (fun x y _ _ h1 h2=>leM_anti x y h1 h2) (qC a) (qC b)
theorem aggM_perm (fn:Int) (e:Ex) {a b:List Row} (h:a.Perm b):aggM fn e a=aggM fn e b:=by
 unfold aggM
 rw [sortV_perm2 (valsM_perm e h),h.length_eq]
theorem aggsR_perm (q:Qr) {a b:List Row} (h:a.Perm b):wz q a=wz q b:=by
 unfold wz
 exact List.map_congr_left fun a _=>aggM_perm _ _ h
def addK (acc:List Row) (k:Row):List Row:=if acc.any (fun x=>cmpR x k==0)=true then acc else acc++[k]
theorem asc_cons {x:Row} {l:List Row} (h:Asc leR (x::l)):(∀y∈l,leR x y=true)/\Asc leR l:=List.pairwise_cons.1 h
theorem drop_gt: ∀(l:List Row) (r:Row),Asc leR l→(∀y∈l,leR r y=true)→(∀y∈l.drop (cntR r l),cmpR r y<0)∧(∀y∈l.take (cntR r l),y=r)
 | [],r,_,_=>by simp
 | x::l,r,h,hr=>by
   obtain ⟨h1,h2⟩:=asc_cons h
   rw [xH]
   split
   ·rename_i hx
    have:=(vd x r).1 hx
    subst this
    obtain ⟨g1,g2⟩:=drop_gt l x h2 h1
    exact ⟨by simpa using g1,by simpa using g2⟩
   ·rename_i hx
    refine ⟨fun y hy=>?_,by simp⟩
    have hlt:cmpR r x<0:=by
     have a1:=(uh r x).1 (hr x (by simp))
     by_cases e:cmpR r x=0
     ·have:=(vd r x).1 e
      subst this
      exact absurd (yz r) hx
     ·omega
    simp only [List.drop_zero,List.mem_cons] at hy
    rcases hy with rfl | hy
    ·exact hlt
    ·have a1:=(uh x y).1 (h1 y hy)
     by_cases e:cmpR x y=0
     ·rw [<-(vd x y).1 e];exact hlt
     ·exact qw _ _ _ hlt (by omega)
theorem grp_heads: ∀(n:Nat) (X:List Row),X.length<=n->Asc leR X->((grpM X []).map (·.row)).Pairwise (fun a b=>cmpR a b<0)/\ ∀x,x∈(grpM X []).map (·.row) ↔ x∈X
 | n,[],_,_=>by simp [grpM_nil]
 | 0,x::X,h,_=>by simp at h
 | n+1,x::X,h,ha=>by
   obtain ⟨h1,h2⟩:=asc_cons ha
   have hp:yh (x::X) []=x:=rfl
   rw [vn (by simp),hp]
   have hall: ∀y∈x::X,leR x y=true:=fun y hy=>by
    rcases List.mem_cons.1 hy with rfl | hy
    ·exact (uh _ _).2 (by rw [yz];omega)
    ·exact h1 y hy
   obtain ⟨d1,d2⟩:=drop_gt (x::X) x ha hall
   have hc:0<cntR x (x::X):=by rw [xH,if_pos (yz x)];omega
   obtain ⟨g1,g2⟩:=grp_heads n ((x::X).drop (cntR x (x::X))) (by simp at h ⊢;omega) (List.Pairwise.sublist (List.drop_sublist _ _) ha)
   simp only [List.drop_nil,List.map_cons]
   refine ⟨List.pairwise_cons.2 ⟨fun y hy=>d1 y ((g2 y).1 hy),g1⟩,fun y=>?_⟩
   rw [List.mem_cons,g2]
   constructor
   ·rintro (rfl | hy)
    ·simp
    ·exact List.mem_of_mem_drop hy
   ·intro hy
    rw [<-List.take_append_drop (cntR x (x::X)) (x::X),List.mem_append] at hy
    exact hy.elim (fun q=> .inl (d2 y q)) .inr
theorem xt (l:List Row):(j4 l).Pairwise (fun a b=>cmpR a b<0)/\ ∀x,x∈j4 l ↔ x∈l:=by
 rw [distM_eq]
 obtain ⟨h1,h2⟩:=grp_heads _ (srt l) (Nat.le_refl _) (yO ordR l)
 exact ⟨h1,fun x=>(h2 x).trans (zS l).mem_iff⟩
theorem distM_nodup (l:List Row):(j4 l).Nodup:=(xt l).1.imp fun h e=>by rw [e,yz] at h;omega
def gkP (q:Qr) (rows:List Row):List Row:=if q.exprs.length=0 then [[]] else j4 (rows.map (keyR q))
def grP (q:Qr) (rows:List Row):List Row:=grpsR q rows (gkP q rows)
def ansM (o:Option (List Row)):List Row×Int:=match o with
 | some l=>(srt l,0)
 | none=>([],8)
end
section
open Go.Am
attribute [local simp, local push_cast] num boo str ints aV aTab zx aS aT aC yQ wW wu vQ
end
section
open Go.Am
attribute [local simp, local push_cast] num boo str ints aV aTab zx aS aT aC yQ wW wu zO aAgg
def vk (q:Qr):Bool:=
 ((decide (1≤q.op)&&decide (q.op≤10))&& !((((!q.table.toList==[])&&q.op !=1) || (q.kind !=0&&q.op !=5)) || (q.all&& !((q.op==6 || q.op==7) || q.op==8))))&&
   (!((((!uM q.cond)&&q.op !=3)&&q.op !=5) || ((decide ((q.exprs.length:Int)>0)&&q.op !=4)&&q.op !=10))&&
    !(((decide ((q.aggs.length:Int)>0)&&q.op !=10) || (decide ((q.types.length:Int)>0)&&q.op !=2)) || (decide ((q.rows.length:Int)>0)&&q.op !=2)))
end
section
open Go.Am
attribute [local simp, local push_cast] num boo str ints aV aTab zx aS aT aC yQ wW wu zO aAgg
end
section
open Go.Am
attribute [local simp, local push_cast] num boo str ints aV aTab zx aS aT aC yQ wW wu zO aAgg
end
section
open Go.Am
attribute [local simp, local push_cast] num boo str ints aV aTab zx aS aT aC yQ wW wu zO aAgg
def has (o:FmD) (w:ByteArray):Bool:=Lib.contains (jc o.uses).data.toList (jc w).data.toList
theorem has_tab:(List.range 11).all (fun n=>decide (n=0) || ([(⟨#[116,97,98,108,101]⟩:ByteArray),⟨#[107,105,110,100]⟩,⟨#[97,108,108]⟩,⟨#[99,111,110,100]⟩,⟨#[101,120,112,114,115]⟩,⟨#[97,103,103,115]⟩,⟨#[116,121,112,101,115]⟩,⟨#[114,111,119,115]⟩].map (has (fmTab.getD n default))==
 [n==1,n==5,(n==6 || n==7) || n==8,n==3 || n==5,n==4 || n==10,n==10,n==2,n==2]))=true:=by decide+kernel
theorem fm_cases {op:Int} (h:isFm op=true): ∃n:Nat,op=n/\n<11/\n≠0:=by
 simp only [isFm,Bool.and_eq_true,decide_eq_true_eq] at h
 exact ⟨op.toNat,by omega,by omega,by omega⟩
theorem plain_tab: ∀n∈List.range 11,n=0\/ ∀f1 f2 f3 f4 f5 f6 f7 f8:Bool,
 ((!(f1&& !(n==1)))&&((!(f2&& !(n==5)))&&((!(f3&& !((n==6 || n==7) || n==8)))&&((!(f4&& !(n==3 || n==5)))&&((!(f5&& !(n==4 || n==10)))&&((!(f6&& !(n==10)))&&((!(f7&& !(n==2)))&&((!(f8&& !(n==2)))&&true))))))))=
 (!(((f1&&n !=1) || (f2&&n !=5)) || (f3&& !((n==6 || n==7) || n==8)))&&
 (!(((f4&&n !=3)&&n !=5) || ((f5&&n !=4)&&n !=10))&& !(((f6&&n !=10) || (f7&&n !=2)) || (f8&&n !=2)))):=by decide+kernel
theorem plain_eq (q:Qr):vk q=(isFm q.op&&vX q (yZ q.op)):=by
 cases h:isFm q.op with
 | false=>
   have h':isFm q.op=false:=h
   have h2:(decide (1<=q.op)&&decide (q.op<=10))=false:=h'
   rw [vk,h2]
   rfl
 | true=>
 have h2:(decide (1<=q.op)&&decide (q.op<=10))=true:=h
 obtain ⟨n,hn,h11,h0⟩:=fm_cases h
 have ht:=all_range.1 has_tab n h11
 rw [decide_eq_false h0,Bool.false_or] at ht
 have ht:=eq_of_beq ht
 simp only [List.map_cons,List.map_nil,List.cons.injEq,and_true] at ht
 obtain ⟨t1,t2,t3,t4,t5,t6,t7,t8⟩:=ht
 have hf:yZ q.op=fmTab.getD n default:=by rw [yZ,if_pos h,fmAt,hn,Int.toNat_natCast]
 have hb: ∀f w,badU (fmTab.getD n default) (w,f)=(f&& !has (fmTab.getD n default) w):=fun _ _=>rfl
 have e: ∀k:Nat,((n:Int)==(k:Int))=(n==k):=fun k=>by
  cases h3:n==k
  ·exact beq_eq_false_iff_ne.2 (by have:=beq_eq_false_iff_ne.1 h3;omega)
  ·exact beq_iff_eq.2 (by have:=eq_of_beq h3;omega)
 rw [hf,Bool.true_and]
 unfold vX wR vk
 rw [h2]
 simp only [List.all_cons,List.all_nil,hb,t1,t2,t3,t4,t5,t6,t7,t8,Bool.true_and]
 have hp:=(plain_tab n (List.mem_range.2 h11)).resolve_left h0
 rw [hp]
 have e1:=e 1
 have e2:=e 2
 have e3:=e 3
 have e4:=e 4
 have e5:=e 5
 have e6:=e 6
 have e7:=e 7
 have e8:=e 8
 have e10:=e 10
 simp only [Int.cast_ofNat_Int] at e1 e2 e3 e4 e5 e6 e7 e8 e10
 simp only [hn,bne,e1,e2,e3,e4,e5,e6,e7,e8,e10]
end
section
open Go.Am
attribute [local simp, local push_cast] num boo str ints aV aTab zx aS aT aC aRow rRow aAgg
inductive OkX:Ex->Prop
 | mk (e:Ex) (h:i64 e.num) (ht:e.text.size<=9223372036854775807) (hk: ∀k∈e.kids,OkX k):OkX e
theorem OkX.num {e:Ex} (h:OkX e):i64 e.num:=by cases h;assumption
theorem OkX.text {e:Ex} (h:OkX e):e.text.size<=9223372036854775807:=by cases h;assumption
theorem OkX.kid {e k:Ex} (h:OkX e) (hk:k∈e.kids):OkX k:=by cases h with | mk _ _ _ h2=>exact h2 k hk
theorem i64_0:i64 0:=⟨by decide,by decide⟩
theorem i64_1:i64 1:=⟨by decide,by decide⟩
theorem j3:ByteArray.empty.size<=9223372036854775807:=Nat.zero_le _
theorem yD:okV zu:=⟨i64_0,j3⟩
theorem jG (b:Bool):okV (ofV b):=by
 cases b
 ·exact ⟨i64_0,j3⟩
 ·exact ⟨i64_1,j3⟩
theorem jo {l:List Val} (h: ∀v∈l,okV v) (n:Nat):okV (l.getD n default):=by
 by_cases hn:n<l.length
 ·exact h _ (zk hn)
 ·rw [List.getD_eq_getElem?_getD,List.getElem?_eq_none (by omega)]
  exact ⟨i64_0,j3⟩
theorem qL {n:Int} (h:i64 n):okV ⟨1,n,ByteArray.empty⟩:=⟨h,j3⟩
theorem okV_validI (n:Int):okV (kb ⟨1,n,ByteArray.empty⟩):=by
 unfold kb
 split
 ·rename_i h
  have:=valid_num h rfl
  unfold okN at this
  simp only at this
  exact qL ⟨by omega,by omega⟩
 ·exact yD
theorem okV_validT (s:ByteArray):okV (kb ⟨3,0,s⟩):=by
 unfold kb
 split
 ·rename_i h
  have:=qe h rfl
  exact ⟨i64_0,by simp only at this ⊢;omega⟩
 ·exact yD
theorem okV_arith (op:Int) (a b:Val):okV (qx op a b):=by
 unfold qx
 split
 ·exact yD
 split
 ·split
  ·exact okV_validI _
  ·exact yD
 split
 ·exact okV_validT _
 ·exact yD
theorem okV_equal (a b:Val):okV (vp a b):=by unfold vp;split<;>first | exact yD | exact jG _
theorem okV_less (a b:Val):okV (km a b):=by unfold km;split<;>first | exact yD | exact jG _
theorem okV_not (a:Val):okV (notM a):=by unfold notM;split<;>first | exact yD | exact jG _
theorem okV_and (a b:Val):okV (andM a b):=by unfold andM;split<;>(try split)<;>first | exact yD | exact jG _
theorem okV_or (a b:Val):okV (orM a b):=by unfold orM;split<;>(try split)<;>first | exact yD | exact jG _
theorem okV_in (v:Val): ∀(l:List Val) (out:Val),okV out->okV (inM v out l)
 | [],_,h=>h
 | x::l,out,_=>okV_in v l _ (okV_or _ _)
theorem yX {c:Prop} [Decidable c] {a b:Val} (ha:okV a) (hb:okV b):okV (if c then a else b):=by
 split
 ·exact ha
 ·exact hb
theorem okV_apply (op:Int) (l:List Val) (h: ∀v∈l,okV v):okV (zJ op l):=by
 have h0:=jo h 0
 have h1:=jo h 1
 unfold zJ
 refine yX (okV_arith _ _ _) (yX (okV_arith _ _ _) (yX (yX (qL ⟨by omega,?_⟩) yD) ?_))
 ·have:=h0.2
  omega
 refine yX (okV_equal _ _) (yX (okV_not _) (yX (okV_less _ _) (yX (okV_not _) (yX (okV_less _ _) (yX (okV_not _) (yX (jG _) (yX (jG _) (yX (okV_and _ _) (yX (okV_or _ _) ?_)))))))))
 exact yX (okV_not _) (yX (jG _) (yX (yX h1 h0) (yX (okV_in _ _ _ (jG _)) yD)))
theorem okV_eval (row:List Val) (hrow: ∀v∈row,okV v): ∀e:Ex,OkX e->okV (y9 row e):=
 jL (p:=fun e=>OkX e→okV (y9 row e)) fun e ih ho=>by
  have hk: ∀v∈e.kids.map (y9 row),okV v:=fun v hv=>by
   obtain ⟨k,hk,rfl⟩:=List.mem_map.1 hv
   exact ih k hk (ho.kid hk)
  rw [evalM_eq]
  unfold evalK
  split
  ·exact yD
  split
  ·exact qL ho.num
  split
  ·exact ⟨ho.num,j3⟩
  split
  ·exact ⟨i64_0,ho.text⟩
  split
  ·split
   ·exact jo hrow _
   ·exact yD
  split
  ·split
   ·exact jo hk _
   ·exact jo hk _
  ·exact okV_apply _ _ hk
theorem okV_vals (e:Ex) (rows:List Row) (he:OkX e) (hr: ∀r∈rows,∀v∈r,okV v): ∀v∈yN e rows,okV v:=by
 intro v hv
 have:=(List.mem_filter.1 hv).1
 obtain ⟨r,h1,rfl⟩:=List.mem_map.1 this
 exact okV_eval r (hr r h1) e he
end
end Go.Proofs.YtnmibokjpedkiaaGreatDoor
