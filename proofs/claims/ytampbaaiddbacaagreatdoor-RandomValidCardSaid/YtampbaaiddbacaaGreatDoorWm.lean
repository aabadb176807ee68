/- What random makes of a tape is valid, of its types, and not too large: a proof over an abstract machine of our own (part Wm) -/
import Derived.Test.YtampbaaiddbacaaGreatDoorWg
import Derived.Test.YtampbaaiddbacaaGreatDoorWf
import Derived.Test.YtampbaaiddbacaaGreatDoorWe
import Derived.Test.YtampbaaiddbacaaGreatDoorLe
set_option maxRecDepth 100000
set_option maxHeartbeats 4000000
set_option linter.all false
namespace Go.Proofs.YtampbaaiddbacaaGreatDoor
section
open Go.Am
attribute [local simp, local push_cast] num boo str ints aV aTab zA aS aT aC aRow rRow rTab rC rB vT zG kU
theorem c_primary (T:Tbl) (c:Int) (hp:T.primary.length≤1000):ACall Tryz.prog 37 [aT T,num c] [] (boo (T.primary.contains c)) []:=by
 refine zp mixed ttok Tryz.func37 Tryz.ntmps37 Tryz.results37 ?_
 generalize hr:boo (T.primary.contains c)=R
 simp -implicitDefEqProofs only [argT,↓zb,push_cast,simprocAttr,tte]
 refine zn mixed ttok 10 [1,8,9] [] (by simp only [z6,ends,push_cast,simprocAttr];rfl) (by simp only [zB,zo,ends,push_cast,simprocAttr];rfl) T.primary.length (fun n=> ∀i,i<n->T.primary.getD i default≠c) (fun _=>[]) (fun _=>[]) (fun i h=>absurd h (Nat.not_lt_zero _)) ?_ ?_
 ·exact Weak.keepL (by simp [cst,ends]) (by simp [cst,ends]) (by simp [cst,ends])
 intro I hI n hn hi
 simp -implicitDefEqProofs only [cst,↓zb,push_cast,simprocAttr,tte]
 refine za (fun h=>?_) fun h=>?_
 ·simp only [decide_eq_true_eq] at h
  have h':n<T.primary.length:=by omega
  have hw:=zj h' (by omega)
  refine ⟨(by first | omega | trivial | (refine ⟨?_,?_⟩<;>first | omega | trivial | (refine ⟨?_,?_⟩<;>first | omega | trivial | (refine ⟨?_,?_⟩<;>first | omega | trivial | rfl)))),?_⟩
  refine za (fun g=>?_) fun g=>?_
  ·have hc:T.primary.contains c=true:=by
    rw [List.contains_iff_mem]
    have:=zi h'
    rwa [beq_iff_eq.1 g] at this
   exact zk trivial (by rw [<-hr,hc];rfl) (by simp [ends])
  ·have g':T.primary.getD n default≠c:=by simpa using g
   exact zl hI n rfl h' (fun i h2=>if h3:i=n then by rw [h3];exact g' else hi i (by omega)) (by simp [hw,ends]) (by simp [hw,ends]) (by simp [hw,ends]) (by simp [hw,ends])
 ·simp only [decide_eq_false_iff_not] at h
  obtain rfl:n=T.primary.length:=by omega
  have hc:T.primary.contains c=false:=by
   cases hq:T.primary.contains c with
   | false=>rfl
   | true=>
     obtain ⟨i,hi2,he⟩:=jE (List.contains_iff_mem.1 hq)
     exact absurd he (hi i hi2)
  exact zk trivial (by rw [<-hr,hc];rfl) (by simp [ends])
def isKey (T:Tbl) (c:Nat):Bool:=(T.columns.getD c default).type==1&&T.primary.contains (c:Int)
def cellR (xs:List Int) (T:Tbl) (m c p:Nat):Val×Nat:=
 if isKey T c=true then (⟨1,m,ByteArray.empty⟩,p) else yx xs (T.columns.getD c default).type (T.columns.getD c default).nullable p
def rowR (xs:List Int) (T:Tbl) (m p:Nat):Nat->Row×Nat
 | 0=>([],p)
 | c+1=>((rowR xs T m p c).1++[(cellR xs T m c (rowR xs T m p c).2).1],(cellR xs T m c (rowR xs T m p c).2).2)
theorem rowR_len (xs:List Int) (T:Tbl) (m p:Nat): ∀c,(rowR xs T m p c).1.length=c
 | 0=>rfl
 | c+1=>by simp [rowR,rowR_len xs T m p c]
def rowF (xs:List Int) (s:Sch) (n:Nat) (x:Inst×Nat):Row×Nat:=rowR xs (s.getD n default) (x.1.getD n default).length x.2 (s.getD n default).columns.length
def qv (xs:List Int) (s:Sch) (n:Nat) (x:Inst×Nat):Inst×Nat:=
 (if xi s (x.1.set n (x.1.getD n default++[(rowF xs s n x).1]))=true then x.1.set n (x.1.getD n default++[(rowF xs s n x).1]) else x.1,(rowF xs s n x).2)
def xw (xs:List Int) (s:Sch) (n:Nat) (x:Inst×Nat):Nat->Inst×Nat
 | 0=>x
 | k+1=>qv xs s n (xw xs s n x k)
def tabR (xs:List Int) (s:Sch) (rows:Int) (n:Nat) (x:Inst×Nat):Inst×Nat:=xw xs s n (x.1,x.2+1) (drawn xs x.2 (rows+1)).toNat
def vc (xs:List Int) (s:Sch) (rows:Int) (ord:List Int) (x:Inst×Nat):Nat->Inst×Nat
 | 0=>x
 | j+1=>tabR xs s rows (ord.getD j default).toNat (vc xs s rows ord x j)
def kX (xs:List Int) (s:Sch) (rows:Int):Inst:=(vc xs s rows (xt s) (xn s.length,0) (xt s).length).1
structure SoFar (s:Sch) (i:Inst) (b:Nat):Prop where
 len:i.length=s.length
 few: ∀t∈i,t.length<=b
 row: ∀t∈i,∀r∈t,r.length<=1000
theorem SoFar.small {s:Sch} {i:Inst} {b:Nat} (h:SoFar s i b) (hs:s.length<=1000) (hb:b<=1000):SmallI i:=
 ⟨by rw [h.len];exact hs,fun t ht=>Nat.le_trans (h.few t ht) hb,h.row⟩
theorem SoFar.mono {s:Sch} {i:Inst} {b c:Nat} (h:SoFar s i b) (hb:b<=c):SoFar s i c:=⟨h.len,fun t ht=>Nat.le_trans (h.few t ht) hb,h.row⟩
theorem SoFar.add {s:Sch} {i:Inst} {b n:Nat} (h:SoFar s i b) (hn:n<i.length) {r:Row} (hr:r.length<=1000):SoFar s (i.set n (i.getD n default++[r])) (b+1):=by
 have hm:=zi hn
 refine ⟨by rw [List.length_set];exact h.len,fun t ht=>?_,fun t ht q hq=>?_⟩
 ·rcases List.mem_or_eq_of_mem_set ht with h2 | rfl
  ·have:=h.few t h2;omega
  ·have:=h.few _ hm
   rw [List.length_append];simp only [List.length_cons,List.length_nil];omega
 ·rcases List.mem_or_eq_of_mem_set ht with h2 | rfl
  ·exact h.row t h2 q hq
  ·rcases List.mem_append.1 hq with h3 | h3
   ·exact h.row _ hm q h3
   ·rw [List.mem_singleton.1 h3];exact hr
theorem stepR_far {xs:List Int} {s:Sch} (hS:SmallS s) {n:Nat} (hn:n<s.length) {x:Inst×Nat} {b:Nat} (h:SoFar s x.1 b):SoFar s (qv xs s n x).1 (b+1):=by
 unfold qv
 simp only
 split
 ·refine h.add (by rw [h.len];exact hn) ?_
  rw [rowF,rowR_len]
  exact (hS.tab _ (zi hn)).cols
 ·exact h.mono (by omega)
theorem kT {xs:List Int} {s:Sch} (hS:SmallS s) {n:Nat} (hn:n<s.length) {x:Inst×Nat} {b:Nat} (h:SoFar s x.1 b): ∀k,SoFar s (xw xs s n x k).1 (b+k)
 | 0=>h
 | k+1=>stepR_far hS hn (kT hS hn h k)
theorem tabR_far {xs:List Int} {s:Sch} (hS:SmallS s) {rows:Int} (h0:0<=rows) (h40:rows<=40) {n:Nat} (hn:n<s.length) {x:Inst×Nat} {b:Nat} (h:SoFar s x.1 b):SoFar s (tabR xs s rows n x).1 (b+40):=by
 have hd:=zv xs x.2 (n:=rows+1) (by omega)
 exact (kT hS hn (x:=(x.1,x.2+1)) h _).mono (by omega)
theorem tabsR_far {xs:List Int} {s:Sch} (hS:SmallS s) {rows:Int} (h0:0<=rows) (h40:rows<=40) {ord:List Int} (ho: ∀x∈ord,0<=x/\x<s.length) {x:Inst×Nat} {b:Nat} (h:SoFar s x.1 b): ∀j,j<=ord.length->SoFar s (vc xs s rows ord x j).1 (b+40 * j)
 | 0,_=>h
 | j+1,hj=>by
   have:=ho _ (zi (show j<ord.length by omega))
   exact (tabR_far hS h0 h40 (by omega) (tabsR_far hS h0 h40 ho h j (by omega))).mono (by omega)
theorem order_in {s:Sch} (h:xC s=0):(∀x∈xt s,0≤x∧x<s.length)∧(xt s).length=s.length:=by
 unfold xC at h
 have ho:orderOk s=true:=by
  cases hq:orderOk s with
  | true=>rfl
  | false=>rw [hq] at h;simp at h
 rw [xt,if_pos ho]
 refine ⟨?_,vD s _⟩
 have key: ∀n,n<=s.length-> ∀x∈picks s n,0<=x/\x<s.length:=by
  intro n
  induction n with
  | zero=>intro _ x hx;simp [picks] at hx
  | succ n ih=>
    intro hn x hx
    rw [picks,List.mem_append,List.mem_singleton] at hx
    rcases hx with hx | rfl
    ·exact ih (by omega) x hx
    ·have h1:=of_decide_eq_true (List.all_eq_true.1 ho n (List.mem_range.2 (by omega)))
     have h2:=wg (xM s (picks s n)) (List.range s.length)
     rw [List.length_range] at h2
     exact ⟨h1,h2⟩
 exact key _ (Nat.le_refl _)
theorem valid_parts {s:Sch} (h:yq s=0):s.length<=6/\xC s=0:=by
 unfold yq at h
 split at h
 ·cases h
 rename_i h1
 split at h
 ·rename_i h2;exact absurd h h2
 split at h
 ·rename_i h3;exact absurd h h3
 ·exact ⟨by omega,h⟩
end
section
open Go.Am
attribute [local simp, local push_cast] num boo str ints aV aTab zA aS aT aC aRow rRow rTab rC rB vT zG kU
theorem Weak.nilsL {t:List (Nat×A)} {o:List (Nat×Ob)} (q n:Nat) (hq:lookO o q=some (.var (List.replicate n .snil))):
 Weak (SL.mk t o).st (SL.mk t ((q,.var (List.replicate n (.d (.sl 1 []))))::o)).st:=by
 have key: ∀k,k<=n->Weak (SL.mk t o).st ⟨lookT t,put (lookO o) q (some (.var (List.replicate k (.d (.sl 1 []))++List.replicate (n-k) .snil)))⟩:=by
  intro k
  induction k with
  | zero=>
    intro _
    have:put (lookO o) q (some (.var (List.replicate 0 (.d (.sl 1 []))++List.replicate (n-0) .snil)))=lookO o:=by
     funext j
     simp only [put]
     split
     ·rename_i h;rw [h,hq];simp
     ·rfl
    rw [this]
    exact fun _ _ _ _ h=>h
  | succ k ih=>
    intro hk
    refine (ih (by omega)).trans ?_
    have hr:List.replicate (n-k) A.snil= .snil::List.replicate (n-(k+1)) .snil:=by
     rw [show n-k=(n-(k+1))+1 by omega,List.replicate_succ]
    rw [hr]
    have hl:(List.replicate k (A.d (.sl 1 []))).length=k:=by simp
    have h1:=Weak.frzCell (s:=⟨lookT t,put (lookO o) q (some (.var (List.replicate k (.d (.sl 1 []))++ .snil::List.replicate (n-(k+1)) .snil)))⟩) q k 1 (cs:=List.replicate k (.d (.sl 1 []))++ .snil::List.replicate (n-(k+1)) .snil) (c:= .snil) (ye _ _ _) (get_at hl) rfl trivial (by simp [upds])
    simp only [upds,set_at hl] at h1
    have e:put (put (lookO o) q (some (.var (List.replicate k (.d (.sl 1 []))++ .snil::List.replicate (n-(k+1)) .snil)))) q (some (.var (List.replicate k (.d (.sl 1 []))++ .d (.sl 1 [])::List.replicate (n-(k+1)) .snil)))=put (lookO o) q (some (.var (List.replicate (k+1) (.d (.sl 1 []))++List.replicate (n-(k+1)) .snil))):=by
     funext j
     simp only [put]
     split
     ·simp [List.replicate_succ',List.append_assoc]
     ·rfl
    rw [e] at h1
    exact h1
 have:=key n (Nat.le_refl _)
 rw [Nat.sub_self,List.replicate_zero,List.append_nil,xu] at this
 exact this
theorem emptyI_tabs (n:Nat):(xn n).map tabC=List.replicate n (.d (.sl 1 [])):=by simp [xn,tabC,ze]
theorem qV {dom:Nat->Bool} (x:D): ∀n:Nat,closedL dom (List.replicate n (.d x))=true
 | 0=>rfl
 | n+1=>by rw [List.replicate_succ,closedL,qV x n];rfl
theorem emptyI_far (s:Sch):SoFar s (xn s.length) 0:=by
 refine ⟨by simp [xn],fun t ht=>?_,fun t ht r hr=>?_⟩
 ·rw [(List.mem_replicate.1 ht).2];simp
 ·rw [(List.mem_replicate.1 ht).2] at hr;simp at hr
def tR (rows:Int) (ord:List Int):List (Nat×A):=[(2,num rows),(3,.ptr 3 0),(6,.ptr 6 0),(9,.ptr 33 0),(10,.ptr 10 0),(44,ints ord),(45,.d (.lit (.int .i64 ord.length)))]
def oR (xs:List Int) (s:Sch) (cs:List A) (p:Nat):List (Nat×Ob):=[(3,vS s),(6,.var [.snil]),(10,.var [.vs 37 s.length]),(37,.var cs),(33,zG xs p)]
def S30 (xs:List Int) (s:Sch) (rows:Int) (ord:List Int) (x:Inst×Nat) (j:Nat):SL:=⟨(46,.d (.lit (.int .i64 j)))::tR rows ord,oR xs s (x.1.map tabC) x.2⟩
def T30 (xs:List Int) (s:Sch) (rows:Int) (ord:List Int) (x:Inst×Nat) (j n M k:Nat):SL:=
 ⟨(54,.d (.lit (.int .i64 k)))::(53,.d (.lit (.int .i64 M)))::(14,.d (.lit (.int .i64 n)))::(46,.d (.lit (.int .i64 j)))::tR rows ord,oR xs s (x.1.map tabC) x.2⟩
def C30 (xs:List Int) (s:Sch) (rows:Int) (ord:List Int) (i:Inst) (j n M k:Nat) (T:Tbl) (r:Row×Nat) (c:Nat):SL:=
 ⟨(63,.d (.lit (.int .i64 c)))::(15,.vec 500 c)::(61,.d (.sl 3 (ze rC T.columns)))::(62,.d (.lit (.int .i64 T.columns.length)))::(54,.d (.lit (.int .i64 k)))::(53,.d (.lit (.int .i64 M)))::(14,.d (.lit (.int .i64 n)))::(46,.d (.lit (.int .i64 j)))::tR rows ord,
  (500,.vec 45 3 (ze rV r.1) 0)::oR xs s (i.map tabC) r.2⟩
theorem c_rinst {xs:List Int} {s:Sch} {rows:Int} (hx: ∀x∈xs,i64 x) (hS:SmallS s) (hv:yq s=0) (h0:0≤rows) (h40:rows≤40):
 ACall Tryz.prog 7 [aS s,ints xs,num rows] [] (.tup [zA (kX (xs.take 400) s rows),num 0]) []:=by
 obtain ⟨hs6,hoe⟩:=valid_parts hv
 obtain ⟨hoi,hol⟩:=order_in hoe
 have hG:=u5 hv
 refine zp mixed ttok Tryz.func7 Tryz.ntmps7 Tryz.results7 ?_
 have hsl:=hS.len
 simp -implicitDefEqProofs only [argT,↓zb,push_cast,simprocAttr,tte]
 refine zd [[6]] [] (c_svalid s hS) ?_
 simp -implicitDefEqProofs only [hv,↓zb,push_cast,simprocAttr,tte]
 have d1:decide (rows<0)=false:=decide_eq_false (by omega)
 have d2:decide (rows>40)=false:=decide_eq_false (by omega)
 simp -implicitDefEqProofs only [d1,d2,↓zb,push_cast,simprocAttr,tte]
 refine zd [[1]] [(9,33)] (c10 (xs:=xs)) ?_
 have hx:=kd hx
 generalize xs.take 400=xs at hx ⊢
 simp -implicitDefEqProofs only [↓zb,push_cast,simprocAttr,tte]
 refine ⟨by omega,?_⟩
 have hO:=c_order s (by omega) (fun t h=>(hS.tab t h).fors) (fun t ht f hf=>by have:=(hG.fors t ht f hf).2.2.1;omega)
 rw [hoe] at hO
 have hM:kX xs s rows=(vc xs s rows (xt s) (xn s.length,0) (xt s).length).1:=rfl
 rw [hM]
 generalize xt s=ord at hO hoi hol
 refine zd [[6]] [] (hO) ?_
 simp -implicitDefEqProofs only [↓zb,push_cast,simprocAttr,tte]
 refine loopx_weak ?_
 refine yc mixed ttok (fun j:Nat=>S30 xs s rows ord (vc xs s rows ord (xn s.length,0) j) j) (fun j=>ord.length-j) (fun j=>j<=ord.length) 0 (Nat.zero_le _) ?_ ?_
 ·exact (Weak.nilsL 37 s.length rfl).trans (Weak.keepL (by simp [S30,tR,oR,ends]) (by simp [S30,oR,vS,vc,emptyI_tabs,qV,ends]) (by simp [S30,oR,ends]))
 intro I hI j hj
 have hfar:=tabsR_far (xs:=xs) hS h0 h40 hoi (x:=(xn s.length,0)) (b:=0) (emptyI_far s) j hj
 have hsucc:vc xs s rows ord (xn s.length,0) (j+1)=tabR xs s rows (ord.getD j default).toNat (vc xs s rows ord (xn s.length,0) j):=rfl
 simp -implicitDefEqProofs only [S30,tR,oR,vS,↓zb,push_cast,simprocAttr,tte]
 refine za (fun h=>?_) fun h=>?_
 rotate_left
 ·have hjj:j=ord.length:=by have:=of_decide_eq_false h;omega
  subst hjj
  generalize (vc xs s rows ord (xn s.length,0) ord.length).1=i at hfar ⊢
  have hil:=hfar.len
  have hxs:i.map tabC=(i.map fun t=>(.sl 1 (ze rRow t):D)).map .d:=by simp [tabC]
  have hrt:((i.map fun t=>(.sl 1 (ze rRow t):D)).map fun x=>[x])=ze rTab i:=by rw [List.map_map];rfl
  rw [hxs]
  refine ⟨⟨[(6,.ptr 6 0),(10,.ptr 10 0)],[(6,.var [.snil]),(10,.var [.d (.sl 1 (ze rTab i))])]⟩,?_,?_⟩
  ·rw [←hrt]
   exact Weak.keepVsCell 10 (q:=37) (n:=s.length) (xs:=i.map fun t=>(.sl 1 (ze rRow t):D)) rfl rfl rfl rfl (by simp [hil]) (by simp [ends]) (by simp [vS,vI,ends]) (by simp [ends])
  simp -implicitDefEqProofs only [↓zb,push_cast,simprocAttr,tte]
  exact zm [[1],[]] rfl (by simp) (by simp) rfl rfl trivial (by simp [ends])
 have h':j<ord.length:=by have:=of_decide_eq_true h;omega
 have hw:=zj h' (by omega)
 obtain ⟨n,hn⟩: ∃n:Nat,ord.getD j default=n:=⟨(ord.getD j default).toNat,by have:=hoi _ (zi h');omega⟩
 have hns:n<s.length:=by have:=hoi _ (zi h');omega
 rw [hn,Int.toNat_natCast] at hsucc
 generalize vc xs s rows ord (xn s.length,0) j=x at hfar hsucc ⊢
 have wm:IntKind.i64.wrap (rows+1)=rows+1:=zJ (by omega) (by omega)
 simp only [hn,wm]
 refine ⟨by omega,?_⟩
 refine zd [[],[]] [(1000,33)] (c13 (n:=rows+1) (p:=x.2) hx (by omega) (by omega)) ?_
 have hd:=zv xs x.2 (n:=rows+1) (by omega)
 simp -implicitDefEqProofs only [↓zb,push_cast,simprocAttr,tte]
 obtain ⟨M,hM⟩: ∃M:Nat,drawn xs x.2 (rows+1)=M:=⟨(drawn xs x.2 (rows+1)).toNat,by omega⟩
 rw [tabR,hM,Int.toNat_natCast] at hsucc
 rw [hM] at hd ⊢
 have hTm:=zi hns
 have hsm:=hS.tab _ hTm
 refine yc mixed ttok (fun k:Nat=>T30 xs s rows ord (xw xs s n (x.1,x.2+1) k) j n M k) (fun k=>M-k) (fun k=>k<=M) 0 (Nat.zero_le _) ?_ ?_
 ·exact Weak.keepL (by simp [T30,tR,oR,ends]) (by simp [T30,oR,vS,xw,yV,ends]) (by simp [T30,oR,ends])
 intro J hJ k hk
 have hfk:=kT (xs:=xs) hS hns (x:=(x.1,x.2+1)) hfar k
 have hsk:xw xs s n (x.1,x.2+1) (k+1)=qv xs s n (xw xs s n (x.1,x.2+1) k):=rfl
 simp -implicitDefEqProofs only [T30,tR,oR,vS,↓zb,push_cast,simprocAttr,tte]
 refine za (fun g=>?_) fun g=>?_
 rotate_left
 ·have hkk:k=M:=by have:=of_decide_eq_false g;omega
  subst hkk
  exact zw hI (j+1) h' (by show ord.length-(j+1)<ord.length-j;omega) (Weak.keepL (by simp [S30,tR,oR,hw,ends]) (by simp [S30,oR,vS,hsucc,yV,ends]) (by simp [S30,oR,ends]))
 have g':k<M:=by have:=of_decide_eq_true g;omega
 have hwk:=zj g' (by omega)
 generalize xw xs s n (x.1,x.2+1) k=y at hfk hsk ⊢
 have hyn:n<y.1.length:=by rw [hfk.len];exact hns
 have hyl:=hfk.few _ (zi hyn)
 have hyr:=hfk.row _ (zi hyn)
 have hgt:=get_tab hyn
 refine ⟨⟨by omega,by omega⟩,?_⟩
 have hrf:rowF xs s n y=rowR xs (s.getD n default) (y.1.getD n default).length y.2 (s.getD n default).columns.length:=rfl
 obtain ⟨T,hT⟩: ∃T,s.getD n default=T:=⟨_,rfl⟩
 rw [hT] at hrf hsm
 rw [hT]
 have hcl:=hsm.cols
 have hsk2:qv xs s n y=(if xi s (y.1.set n (y.1.getD n default++[(rowF xs s n y).1]))=true then y.1.set n (y.1.getD n default++[(rowF xs s n y).1]) else y.1,(rowF xs s n y).2):=rfl
 rw [hsk2] at hsk
 clear hsk2
 generalize rowF xs s n y=rF at hrf hsk
 obtain ⟨old,hold⟩: ∃old,y.1.getD n default=old:=⟨_,rfl⟩
 rw [hold] at hrf hsk hyl hyr hgt
 rw [tabC] at hgt
 refine yc mixed ttok (fun c:Nat=>C30 xs s rows ord y.1 j n M k T (rowR xs T old.length y.2 c) c) (fun c=>T.columns.length-c) (fun c=>c<=T.columns.length) 0 (Nat.zero_le _) ?_ ?_
 ·exact (Weak.nilL 15 500 45 3 rfl rfl).trans (Weak.keepL (by simp [C30,tR,oR,ends]) (by simp [C30,oR,vS,rowR,ze,yV,ends]) (by simp [C30,oR,ends]))
 intro L hL c hc
 have hrl:=rowR_len xs T old.length y.2 c
 simp -implicitDefEqProofs only [C30,tR,oR,vS,↓zb,push_cast,simprocAttr,tte]
 refine za (fun g2=>?_) fun g2=>?_
 ·have g2':c<T.columns.length:=by have:=of_decide_eq_true g2;omega
  have hwc:=zj g2' (by omega)
  refine ⟨⟨by omega,by omega⟩,?_⟩
  have hrs:rowR xs T old.length y.2 (c+1)=((rowR xs T old.length y.2 c).1++[(cellR xs T old.length c (rowR xs T old.length y.2 c).2).1],(cellR xs T old.length c (rowR xs T old.length y.2 c).2).2):=rfl
  generalize rowR xs T old.length y.2 c=r at hrl hrs ⊢
  simp only [hT]
  refine za (fun ht=>?_) fun ht=>?_
  ·refine ⟨⟨by omega,by omega⟩,?_⟩
   refine zd [[],[]] [] (c_primary T (c:Int) hsm.prim) ?_
   simp -implicitDefEqProofs only [hgt,↓zb,push_cast,simprocAttr,tte]
   refine za (fun hp=>?_) fun hp=>?_
   ·have hk1:isKey T c=true:=by rw [isKey,ht,hp];rfl
    rw [cellR,if_pos hk1] at hrs
    refine ⟨⟨by omega,by omega⟩,⟨by omega,by omega⟩,?_⟩
    exact zw hL (c+1) g2' (by show T.columns.length-(c+1)<T.columns.length-c;omega) (Weak.keepL (by simp [C30,tR,oR,hwc,hrl,ends]) (by simp [C30,oR,vS,hrs,hrl,ze,rV,yV,ends]) (by simp [C30,oR,ends]))
   ·have hk1: ¬isKey T c=true:=by rw [isKey,ht,hp];decide
    rw [cellR,if_neg hk1] at hrs
    refine zd [[],[],[]] [(1000,33)] (c18 (typ:=(T.columns.getD c default).type) (nl:=(T.columns.getD c default).nullable) (p:=r.2) hx) ?_
    simp -implicitDefEqProofs only [↓zb,push_cast,simprocAttr,tte]
    refine ⟨⟨by omega,by omega⟩,?_⟩
    generalize hvv:yx xs (T.columns.getD c default).type (T.columns.getD c default).nullable r.2=vv at hrs
    exact zw hL (c+1) g2' (by show T.columns.length-(c+1)<T.columns.length-c;omega) (Weak.keepL (by simp [C30,tR,oR,hwc,hrl,ends]) (by simp [C30,oR,vS,hrs,hrl,ze,rV,yV,ends]) (by simp [C30,oR,ends]))
  ·have hk1: ¬isKey T c=true:=by rw [isKey,ht,Bool.false_and];decide
   rw [cellR,if_neg hk1] at hrs
   refine zd [[],[],[]] [(1000,33)] (c18 (typ:=(T.columns.getD c default).type) (nl:=(T.columns.getD c default).nullable) (p:=r.2) hx) ?_
   simp -implicitDefEqProofs only [↓zb,push_cast,simprocAttr,tte]
   refine ⟨⟨by omega,by omega⟩,?_⟩
   generalize hvv:yx xs (T.columns.getD c default).type (T.columns.getD c default).nullable r.2=vv at hrs
   exact zw hL (c+1) g2' (by show T.columns.length-(c+1)<T.columns.length-c;omega) (Weak.keepL (by simp [C30,tR,oR,hwc,hrl,ends]) (by simp [C30,oR,vS,hrs,hrl,ze,rV,yV,ends]) (by simp [C30,oR,ends]))
 have g2':c=T.columns.length:=by have:=of_decide_eq_false g2;omega
 subst g2'
 rw [<-hrf] at hrl ⊢
 clear hL L
 simp -implicitDefEqProofs only [hgt,↓zb,push_cast,simprocAttr,tte]
 rw [List.take_length]
 refine ⟨⟨by omega,by omega⟩,⟨by omega,by omega⟩,hrl.symm,by omega,⟨by omega,by omega⟩,by simp;omega,zg (by kernel_rfl),?_⟩
 have htt:n<(y.1.map tabC).length:=by rw [List.length_map];exact hyn
 have hset:List.take n (y.1.map tabC)++[A.vec 116 (old.length+1)]++List.drop (n+1) (y.1.map tabC)=(y.1.map tabC).set n (.vec 116 (old.length+1)):=by
  rw [List.set_eq_take_append_cons_drop,if_pos htt,List.append_assoc,List.singleton_append]
 have hap:ze rRow old++[[D.sl 3 (ze rV rF.1)]]=ze rRow (old++[rF.1]):=by simp [ze,rRow]
 rw [hset,hap]
 have hsa:=fun (h2:Nat->Option Ob) (e fz:Nat)=>seen_args (h2:=h2) (s:=s) (i:=y.1) (k:=n) (q:=37) (o:=116) (m:=old.length+1) (e:=e) (fz:=fz) (tab:=old++[rF.1]) hyn
 have hfar2:SoFar s (y.1.set n (old++[rF.1])) (0+40 * j+k+1):=by
  have:=hfk.add hyn (r:=rF.1) (by omega)
  rwa [hold] at this
 have hv2:=c_validI s (y.1.set n (old++[rF.1])) hS (hfar2.small hS.len (by omega))
 rw [hfk.len] at hsa
 refine callx_seen [37,116] hv2 (fun h2 hh=>hsa h2 _ _ ((hh 37 (by simp)).trans rfl) ((hh 116 (by simp)).trans rfl) (by simp)) ?_
 have hgs:((y.1.map tabC).set n (.vec 116 (old.length+1)))[n]? =some (.vec 116 (old.length+1)):=by rw [List.getElem?_set_self htt]
 have hss: ∀a,((y.1.map tabC).set n (.vec 116 (old.length+1))).set n a=(y.1.map tabC).set n a:=fun a=>by rw [List.set_set]
 have hts:List.take n ((y.1.map tabC).set n (A.vec 116 (old.length+1)))++[tabC old]++List.drop (n+1) ((y.1.map tabC).set n (A.vec 116 (old.length+1)))=y.1.map tabC:=by
  have e:((y.1.map tabC).set n (A.vec 116 (old.length+1))).set n (tabC old)=y.1.map tabC:=by
   rw [hss]
   have:(y.1.map tabC)[n]? =some (tabC old):=by rw [hgt];rfl
   rw [List.getElem?_eq_getElem htt] at this
   rw [<-Option.some.inj this,List.set_getElem_self]
  rw [<-e]
  conv=>rhs;rw [List.set_eq_take_append_cons_drop,if_pos (by rw [List.length_set];exact htt)]
  rw [e,List.append_assoc,List.singleton_append]
 simp only [tabC] at hts
 cases hva:xi s (y.1.set n (old++[rF.1])) with
 | true=>
   rw [hva,if_pos rfl] at hsk
   simp -implicitDefEqProofs only [↓zb,push_cast,simprocAttr,tte]
   refine zw hJ (k+1) g' (by show M-(k+1)<M-k;omega) ?_
   refine (Weak.frzCellL 37 n 1 rfl hgs rfl (by simp [zc]) rfl).trans ?_
   rw [hss]
   have hst:(y.1.map tabC).set n (.d (.sl 1 (ze rRow (old++[rF.1]))))=(y.1.set n (old++[rF.1])).map tabC:=by rw [List.map_set,tabC]
   rw [hst]
   have hsk1:(xw xs s n (x.1,x.2+1) (k+1)).1=y.1.set n (old++[rF.1]):=by rw [hsk]
   have hsk2:(xw xs s n (x.1,x.2+1) (k+1)).2=rF.2:=by rw [hsk]
   have hclt: ∀dom:Nat->Bool,closedL dom ((y.1.set n (old++[rF.1])).map tabC)=true:=fun dom=>yV _
   rw [<-hsk1] at hclt ⊢
   generalize hyy:(xw xs s n (x.1,x.2+1) (k+1)).1.map tabC=cs at hclt ⊢
   exact Weak.keepL (by simp [T30,tR,oR,hwk,ends]) (by simp [T30,oR,vS,hyy,hsk2,hclt,ends]) (by simp [T30,oR,ends])
 | false=>
   rw [hva,if_neg (by decide)] at hsk
   simp -implicitDefEqProofs only [↓zb,push_cast,simprocAttr,tte]
   refine ⟨⟨by omega,by omega⟩,by rw [List.length_set];omega,?_⟩
   rw [hts]
   have hsk1:(xw xs s n (x.1,x.2+1) (k+1)).1=y.1:=by rw [hsk]
   have hsk2:(xw xs s n (x.1,x.2+1) (k+1)).2=rF.2:=by rw [hsk]
   have hclt: ∀dom:Nat->Bool,closedL dom (y.1.map tabC)=true:=fun dom=>yV _
   refine zw hJ (k+1) g' (by show M-(k+1)<M-k;omega) ?_
   rw [<-hsk1] at hclt ⊢
   generalize hyy:(xw xs s n (x.1,x.2+1) (k+1)).1.map tabC=cs at hclt ⊢
   exact Weak.keepL (by simp [T30,tR,oR,hwk,ends]) (by simp [T30,oR,vS,hyy,hsk2,hclt,ends]) (by simp [T30,oR,ends])
end
end Go.Proofs.YtampbaaiddbacaaGreatDoor
