/- Groups of a query have one row for each key, and their counts add up: a proof over an abstract machine of our own (part Wn) -/
import Derived.Test.YtnmibokjpedkiaaGreatDoorWm
import Derived.Test.YtnmibokjpedkiaaGreatDoorWl
set_option maxRecDepth 100000
set_option maxHeartbeats 4000000
set_option linter.all false
namespace Go.Proofs.YtnmibokjpedkiaaGreatDoor
section
open Go.Am
attribute [local simp, local push_cast] num boo str ints aV aTab zx aS aT aC yg
def wA (k:Int):Int:=if (4:Int)<(y5 k).length then 4 else (y5 k).length
def smallM (xs:List Int) (k:Int) (nl:Bool) (p:Nat):Val:=
 if nl=true then (y5 k).getD (drawn xs p (wA k)).toNat default else (y5 k).getD (1+drawn xs p (wA k-1)).toNat default
theorem nSmall_le {k:Int} (hk:k=1\/k=2\/k=3):3<=wA k/\wA k<=4/\wA k<=(y5 k).length:=by
 have:=qn hk
 unfold wA
 split<;>omega
theorem c_msmall {xs:List Int} {k:Int} {nl:Bool} {p:Nat} (hx:ua xs) (hk:k=1\/k=2\/k=3) (hp:p<=4000000000000000000):
 ACall Tryz.prog 29 [.ptr 1000 0,num k,boo nl] [(1000,yg xs p)] (aV (smallM xs k nl p)) [(1000,yg xs (p+1))]:=by
 refine zl mixed ttok Tryz.func29 Tryz.ntmps29 Tryz.results29 ?_
 generalize hr:aV (smallM xs k nl p)=R
 simp -implicitDefEqProofs only [argT,↓zb,push_cast,simprocAttr,tte]
 refine ze [[]] [] (c_mvalues k) ?_
 have hl:=nSmall_le hk
 simp -implicitDefEqProofs only [↓zb,push_cast,simprocAttr,tte]
 rw [show (if (4:Int)<(y5 k).length then (4:Int) else (y5 k).length)=wA k from rfl]
 refine za (fun h=>?_) fun h=>?_
 ·refine ze [[],[]] [(1000,1000)] (zX (n:=wA k) (p:=p) hx (by omega) (by omega) hp) ?_
  have hd:=zw xs p (n:=wA k) (by omega)
  simp -implicitDefEqProofs only [↓zb,push_cast,simprocAttr,tte]
  refine ⟨by omega,?_⟩
  refine zt [0,0,0] rfl (by simp) (by simp [zc]<;>omega) ?_ (by first | rfl | simp [ends] | (subst_vars;simp [ends])) (by simp [ends]) (by simp [ends])
  rw [<-hr,smallM,if_pos h];rfl
 ·have e1:IntKind.i64.wrap (wA k-1)=wA k-1:=zm (by omega) (by omega)
  simp only [e1]
  refine ze [[],[]] [(1000,1000)] (zX (n:=wA k-1) (p:=p) hx (by omega) (by omega) hp) ?_
  have hd:=zw xs p (n:=wA k-1) (by omega)
  have e2:IntKind.i64.wrap (1+drawn xs p (wA k-1))=1+drawn xs p (wA k-1):=zm (by omega) (by omega)
  simp -implicitDefEqProofs only [↓zb,push_cast,simprocAttr,tte,e2]
  refine ⟨by omega,?_⟩
  refine zt [0,0,0] rfl (by simp) (by simp [zc]<;>omega) ?_ (by first | rfl | simp [ends] | (subst_vars;simp [ends])) (by simp [ends]) (by simp [ends])
  rw [<-hr,smallM,if_neg (by rw [h];decide)];rfl
end
section
open Go.Am
attribute [local simp, local push_cast] num boo str ints aV aTab zx aS aT aC aRow rRow rTab rC vT yg
def rowS (xs:List Int) (cols:List Col) (p j:Nat):List Val:=(List.range j).map fun j=>smallM xs (cols.getD j default).type true (p+j)
def rowI (xs:List Int) (cols:List Col) (p k:Nat):Row:=if 0<drawn xs (p+cols.length) 8 then (rowS xs cols p cols.length).set 0 ⟨1,k+1,ByteArray.empty⟩ else rowS xs cols p cols.length
def tabI (xs:List Int) (cols:List Col) (p n:Nat):Tab2:=(List.range n).map fun k=>rowI xs cols (p+k * (cols.length+1)) k
def yb (xs:List Int) (most:Int) (s:Sch) (p:Nat):Nat->Inst×Nat
 | 0=>([],p)
 | i+1=>((yb xs most s p i).1++[tabI xs (s.getD i default).columns ((yb xs most s p i).2+1) (drawn xs (yb xs most s p i).2 (most+1)).toNat],
    (yb xs most s p i).2+1+(drawn xs (yb xs most s p i).2 (most+1)).toNat * ((s.getD i default).columns.length+1))
def qV (xs:List Int) (most:Int) (s:Sch) (p:Nat):Inst×Nat:=yb xs most s p s.length
theorem rowS_succ (xs:List Int) (cols:List Col) (p j:Nat):rowS xs cols p (j+1)=rowS xs cols p j++[smallM xs (cols.getD j default).type true (p+j)]:=by simp [rowS,List.range_succ]
theorem ki (xs:List Int) (cols:List Col) (p j:Nat):(rowS xs cols p j).length=j:=by simp [rowS]
theorem rowI_len (xs:List Int) (cols:List Col) (p k:Nat):(rowI xs cols p k).length=cols.length:=by
 unfold rowI;split
 ·rw [List.length_set,ki]
 ·exact ki ..
theorem tabI_succ (xs:List Int) (cols:List Col) (p n:Nat):tabI xs cols p (n+1)=tabI xs cols p n++[rowI xs cols (p+n * (cols.length+1)) n]:=by simp [tabI,List.range_succ]
theorem tabI_len (xs:List Int) (cols:List Col) (p n:Nat):(tabI xs cols p n).length=n:=by simp [tabI]
theorem jK (xs:List Int) (most:Int) (s:Sch) (p:Nat): ∀i,(yb xs most s p i).1.length=i
 | 0=>rfl
 | i+1=>by rw [yb,List.length_append,jK xs most s p i];rfl
theorem instTo_q (xs:List Int) {most:Int} (hm:0<=most) (hm2:most<=100) {s:Sch} (hc: ∀T∈s,T.columns.length<=1000) (p:Nat): ∀i,i<=s.length->(yb xs most s p i).2<=p+200000 * i
 | 0,_=>by simp [yb]
 | i+1,h=>by
   have ih:=instTo_q xs hm hm2 hc p i (by omega)
   have hd:=zw xs (yb xs most s p i).2 (n:=most+1) (by omega)
   have hcl:=hc _ (zk (show i<s.length by omega))
   have:(drawn xs (yb xs most s p i).2 (most+1)).toNat * ((s.getD i default).columns.length+1)<=100 * 1001:=Nat.mul_le_mul (by omega) (by omega)
   rw [yb]
   simp only
   omega
def tabC (t:Tab2):A:= .d (.sl 1 (zd rRow t))
theorem get_at {D E:List A} {a:A} {i:Nat} (h:D.length=i):(D++a::E)[i]? =some a:=by subst h;simp
theorem take_at {D E:List A} {a:A} {i:Nat} (h:D.length=i):(D++a::E).take i=D:=by subst h;simp
theorem drop_at {D E:List A} {a:A} {i:Nat} (h:D.length=i):(D++a::E).drop (i+1)=E:=by subst h;simp
theorem set_at {D E:List A} {a b:A} {i:Nat} (h:D.length=i):(D++a::E).set i b=D++b::E:=by subst h;simp
theorem xV {dom:Nat->Bool}: ∀(D E:List A),closedL dom (D++E)=(closedL dom D&&closedL dom E)
 | [],E=>by simp [closedL]
 | a::D,E=>by simp [closedL,xV D E,Bool.and_assoc]
theorem gh {dom:Nat->Bool}: ∀(ts:Inst),closedL dom (ts.map tabC)=true
 | []=>rfl
 | t::ts=>by rw [List.map_cons,closedL,gh ts];rfl
theorem jP {dom:Nat->Bool}: ∀(n:Nat),closedL dom (List.replicate n .snil)=true
 | 0=>rfl
 | n+1=>by rw [List.replicate_succ,closedL,jP n];rfl
theorem set_row (row:List Val) (v:Val) (h:1<=row.length):(zd rV row).set 0 (.lit (.int .i64 v.kind):: .lit (.int .i64 v.num):: .lit (.string v.text)::List.drop 3 ((zd rV row).getD 0 []))=zd rV (row.set 0 v):=by
 cases row with
 | nil=>simp at h
 | cons x l=>simp [zd,rV]
def tI (most:Int):List (Nat×A):=[(0,.ptr 1000 0),(2,num most),(4,.ptr 4 0),(6,.ptr 6 0),(7,.ptr 7 0)]
def oI (xs:List Int) (s:Sch) (cs:List A) (q:Nat):List (Nat×Ob):=[(4,vS s),(6,.var [.snil]),(7,.var [.vs 16 s.length]),(16,.var cs),(1000,yg xs q)]
def S4 (xs:List Int) (most:Int) (s:Sch) (cs:List A) (q i:Nat):SL:=⟨(8,.d (.lit (.int .i64 i)))::tI most,oI xs s cs q⟩
def R4 (xs:List Int) (most:Int) (s:Sch) (D E:List A) (i n:Nat) (rows:Tab2) (q k:Nat):SL:=
 ⟨(10,.d (.lit (.int .i64 k)))::(9,.d (.lit (.int .i64 n)))::(8,.d (.lit (.int .i64 i)))::tI most,(600,.vec 53 1 (zd rRow rows) 0)::oI xs s (D++ .vec 600 k::E) q⟩
def C4 (xs:List Int) (most:Int) (s:Sch) (D E:List A) (i n:Nat) (rows:Tab2) (q k:Nat) (row:List Val) (j:Nat):SL:=
 ⟨(12,.d (.lit (.int .i64 j)))::(11,.vec 601 j)::(10,.d (.lit (.int .i64 k)))::(9,.d (.lit (.int .i64 n)))::(8,.d (.lit (.int .i64 i)))::tI most,
  (601,.vec 71 3 (zd rV row) 0)::(600,.vec 53 1 (zd rRow rows) 0)::oI xs s (D++ .vec 600 k::E) q⟩
theorem c_minst {xs:List Int} {s:Sch} {p:Nat} {most:Int} (hx:ua xs) (hm:0<=most) (hm2:most<=100) (hS:SmallS s) (hT: ∀T∈s,1<=T.columns.length/\ ∀c∈T.columns,c.type=1\/c.type=2\/c.type=3) (hp:p<=1000000000):
 ACall Tryz.prog 10 [.ptr 1000 0,aS s,num most] [(1000,yg xs p)] (zx (qV xs most s p).1) [(1000,yg xs (qV xs most s p).2)]:=by
 refine zl mixed ttok Tryz.func10 Tryz.ntmps10 Tryz.results10 ?_
 have hsl:=hS.len
 have hcl: ∀T∈s,T.columns.length<=1000:=fun T h=>(hS.tab T h).cols
 simp -implicitDefEqProofs only [argT,↓zb,push_cast,simprocAttr,tte]
 refine ⟨by omega,?_⟩
 refine z7 mixed ttok (fun i:Nat=>S4 xs most s ((yb xs most s p i).1.map tabC++List.replicate (s.length-i) .snil) (yb xs most s p i).2 i) (fun i=>s.length-i) (fun i=>i<=s.length) 0 (Nat.zero_le _) ?_ ?_
 ·exact Weak.keepL (by simp [S4,tI,oI,ends]) (by simp [S4,oI,vS,yb,jP,ends]) (by simp [S4,oI,ends])
 intro I hI i hi
 simp -implicitDefEqProofs only [S4,tI,oI,vS,↓zb,push_cast,simprocAttr,tte]
 refine za (fun h=>?_) fun h=>?_
 rotate_left
 ·have hii:i=s.length:=by have:=of_decide_eq_false h;omega
  subst hii
  have hM:qV xs most s p=yb xs most s p s.length:=rfl
  rw [Nat.sub_self,List.replicate_zero,List.append_nil,hM]
  have hrl:=jK xs most s p s.length
  generalize yb xs most s p s.length=r at hrl
  refine ret_vs1 (q:=16) (n:=s.length) (xs:=r.1.map fun t=> .sl 1 (zd rRow t)) trivial ?_ rfl ?_ ?_ ?_ ?_
  ·simp only [lookO]
   rw [List.map_map];rfl
  ·rw [List.length_map,hrl]
  ·simp [zd,rTab]
  ·simp [ends]
  ·simp [ends]
 have h':i<s.length:=by have:=of_decide_eq_true h;omega
 have hw:=zh h' (by omega)
 have hlen:=jK xs most s p i
 have hq:=instTo_q xs hm hm2 hcl p i hi
 have hd:=zw xs (yb xs most s p i).2 (n:=most+1) (by omega)
 have wm:IntKind.i64.wrap (most+1)=most+1:=zm (by omega) (by omega)
 simp only [wm]
 refine ze [[],[]] [(1000,1000)] (zX (n:=most+1) (p:=(yb xs most s p i).2) hx (by omega) (by omega) (by omega)) ?_
 simp -implicitDefEqProofs only [↓zb,push_cast,simprocAttr,tte]
 have hTm:=zk h'
 obtain ⟨hc1,hc2⟩:=hT _ hTm
 have hcl1:=hcl _ hTm
 have hD:((yb xs most s p i).1.map tabC).length=i:=by rw [List.length_map,hlen]
 have hcs:(yb xs most s p i).1.map tabC++List.replicate (s.length-i) A.snil=(yb xs most s p i).1.map tabC++ .snil::List.replicate (s.length-(i+1)) .snil:=by
  rw [show s.length-i=(s.length-(i+1))+1 by omega,List.replicate_succ]
 have hnext:yb xs most s p (i+1)=((yb xs most s p i).1++[tabI xs (s.getD i default).columns ((yb xs most s p i).2+1) (drawn xs (yb xs most s p i).2 (most+1)).toNat],
  (yb xs most s p i).2+1+(drawn xs (yb xs most s p i).2 (most+1)).toNat * ((s.getD i default).columns.length+1)):=rfl
 rw [hcs]
 obtain ⟨n,hn⟩: ∃n:Nat,drawn xs (yb xs most s p i).2 (most+1)=n:=⟨(drawn xs (yb xs most s p i).2 (most+1)).toNat,by omega⟩
 rw [hn,Int.toNat_natCast] at hnext
 rw [hn] at hd ⊢
 have hcD: ∀dom:Nat->Bool,closedL dom ((yb xs most s p i).1.map tabC)=true:=fun _=>gh _
 have hcE: ∀dom:Nat->Bool,closedL dom (List.replicate (s.length-(i+1)) A.snil)=true:=fun _=>jP _
 have hEq:List.replicate (s.length-(i+1)) A.snil=List.replicate (s.length-(i+1)) A.snil:=rfl
 generalize hDD:(yb xs most s p i).1.map tabC=D at hD hcD ⊢
 generalize hEE:List.replicate (s.length-(i+1)) A.snil=E at hcE ⊢
 generalize (yb xs most s p i).2=q at hq hnext ⊢
 generalize hTT:s.getD i default=T at hnext hTm hc1 hc2 hcl1
 refine z7 mixed ttok (fun k:Nat=>R4 xs most s D E i n (tabI xs T.columns (q+1) k) (q+1+k * (T.columns.length+1)) k) (fun k=>n-k) (fun k=>k<=n) 0 (Nat.zero_le _) ?_ ?_
 ·refine (Weak.nilCellL 16 i 600 53 1 rfl (get_at hD) rfl).trans ?_
  rw [set_at hD]
  exact Weak.keepL (by simp [R4,tI,oI,ends]) (by simp [R4,oI,vS,tabI,zd,xV,hcD,hcE,ends]) (by simp [R4,oI,ends])
 intro J hJ k hk
 simp -implicitDefEqProofs only [R4,tI,oI,vS,↓zb,push_cast,simprocAttr,tte]
 refine za (fun g=>?_) fun g=>?_
 rotate_left
 ·have hkk:k=n:=by have:=of_decide_eq_false g;omega
  subst hkk
  have hfin:(yb xs most s p (i+1)).1.map tabC++List.replicate (s.length-(i+1)) A.snil=D++tabC (tabI xs T.columns (q+1) k)::E:=by rw [hnext,hEE];simp [hDD]
  have hq2:(yb xs most s p (i+1)).2=q+1+k * (T.columns.length+1):=by rw [hnext]
  refine zq hI (i+1) h' (by show s.length-(i+1)<s.length-i;omega) ?_
  refine (Weak.frzCellL 16 i 1 rfl (get_at hD) rfl (by simp [zc,tabI_len]) rfl).trans ?_
  rw [set_at hD,hfin,hq2]
  exact Weak.keepL (by simp [S4,tI,oI,hw,ends]) (by simp [S4,oI,vS,tabC,xV,hcD,hcE,closedL,ends]) (by simp [S4,oI,ends])
 have g':k<n:=by have:=of_decide_eq_true g;omega
 have hwk:=zh g' (by omega)
 have hkm:k * (T.columns.length+1)<=100 * 1001:=Nat.mul_le_mul (by omega) (by omega)
 have hts:=tabI_succ xs T.columns (q+1) k
 generalize hP:q+1+k * (T.columns.length+1)=P at hts ⊢
 have hPb:P<=100000000000:=by omega
 generalize hrows:tabI xs T.columns (q+1) k=rows at hts ⊢
 have hrl:rows.length=k:=by rw [<-hrows,tabI_len]
 refine z7 mixed ttok (fun j:Nat=>C4 xs most s D E i n rows (P+j) k (rowS xs T.columns P j) j) (fun j=>T.columns.length-j) (fun j=>j<=T.columns.length) 0 (Nat.zero_le _) ?_ ?_
 ·refine (Weak.nilL 11 601 71 3 rfl rfl).trans ?_
  exact Weak.keepL (by simp [C4,tI,oI,ends]) (by simp [C4,oI,vS,rowS,zd,xV,closedL,hcD,hcE,ends]) (by simp [C4,oI,ends])
 intro M hM j hj
 simp -implicitDefEqProofs only [C4,tI,oI,vS,↓zb,push_cast,simprocAttr,tte]
 refine ⟨(by first | omega | trivial | (refine ⟨?_,?_⟩<;>first | omega | trivial | (refine ⟨?_,?_⟩<;>first | omega | trivial | (refine ⟨?_,?_⟩<;>first | omega | trivial | rfl)))),?_⟩
 rw [hTT]
 refine za (fun g2=>?_) fun g2=>?_
 ·have g2':j<T.columns.length:=by have:=of_decide_eq_true g2;omega
  have hwj:=zh g2' (by omega)
  have hrs:=rowS_succ xs T.columns P j
  refine ⟨(by first | omega | trivial | (refine ⟨?_,?_⟩<;>first | omega | trivial | (refine ⟨?_,?_⟩<;>first | omega | trivial | (refine ⟨?_,?_⟩<;>first | omega | trivial | rfl)))),(by first | omega | trivial | (refine ⟨?_,?_⟩<;>first | omega | trivial | (refine ⟨?_,?_⟩<;>first | omega | trivial | (refine ⟨?_,?_⟩<;>first | omega | trivial | rfl)))),?_⟩
  have hk1:=hc2 _ (zk g2')
  refine ze [[],[],[]] [(1000,1000)] (c_msmall (k:=(T.columns.getD j default).type) (nl:=true) (p:=P+j) hx hk1 (by omega)) ?_
  simp -implicitDefEqProofs only [↓zb,push_cast,simprocAttr,tte]
  refine ⟨by rw [ki];omega,?_⟩
  exact zq hM (j+1) g2' (by show T.columns.length-(j+1)<T.columns.length-j;omega) (Weak.keepL (by simp [C4,tI,oI,hwj,ki,ends]) (by simp [C4,oI,vS,hrs,zd,xV,closedL,hcD,hcE,Nat.add_assoc,ends]) (by simp [C4,oI,ends]))
 have hjj:j=T.columns.length:=by have:=of_decide_eq_false g2;omega
 subst hjj
 have hrl2:=ki xs T.columns P T.columns.length
 refine ze [[],[]] [(1000,1000)] (zX (n:=8) (p:=P+T.columns.length) hx (by omega) (by omega) (by omega)) ?_
 have h8:=zw xs (P+T.columns.length) (n:=8) (by omega)
 simp -implicitDefEqProofs only [get_at hD,take_at hD,drop_at hD,set_at hD,↓zb,push_cast,simprocAttr,tte]
 have hPn:q+1+(k+1) * (T.columns.length+1)=P+T.columns.length+1:=by rw [Nat.succ_mul];omega
 have hDl:i+1<=(D++A.vec 600 k::E).length:=by simp [hD]
 refine za (fun g8=>?_) fun g8=>?_
 ·have hrI:rowI xs T.columns P k=(rowS xs T.columns P T.columns.length).set 0 ⟨1,k+1,ByteArray.empty⟩:=by rw [rowI,if_pos (of_decide_eq_true g8)]
  have hset:=set_row (rowS xs T.columns P T.columns.length) ⟨1,k+1,ByteArray.empty⟩ (by omega)
  have hk1:IntKind.i64.wrap ((k:Int)+1)=(k:Int)+1:=zm (by omega) (by omega)
  simp only at hset
  rw [hk1,hset]
  refine ⟨⟨by omega,hrl2.symm⟩,⟨hrl2.symm,by omega⟩,⟨by omega,by omega⟩,by rw [zc,List.length_set,hrl2],⟨hrl.symm,by omega⟩,⟨by omega,by omega⟩,hDl,zf (by kernel_rfl),?_⟩
  exact zq hJ (k+1) g' (by show n-(k+1)<n-k;omega) (Weak.keepL (by simp [R4,tI,oI,hrl,ends]) (by simp [R4,oI,vS,hts,hrI,hPn,hrl,zd,xV,closedL,hcD,hcE,ends]) (by simp [R4,oI,ends]))
 ·have hrI:rowI xs T.columns P k=rowS xs T.columns P T.columns.length:=by rw [rowI,if_neg (of_decide_eq_false g8)]
  refine ⟨⟨by omega,by omega⟩,by rw [hrl2],⟨hrl.symm,by omega⟩,⟨by omega,by omega⟩,hDl,zf (by kernel_rfl),?_⟩
  exact zq hJ (k+1) g' (by show n-(k+1)<n-k;omega) (Weak.keepL (by simp [R4,tI,oI,hwk,hrl,ends]) (by simp [R4,oI,vS,hts,hrI,hPn,hrl,zd,xV,closedL,hcD,hcE,ends]) (by simp [R4,oI,ends]))
end
section
open Go.Am
attribute [local simp, local push_cast] num boo str ints aV aTab zx aS aT aC
structure Made (ts:List Int) (d:Nat) (t:Int) (e:Ex):Prop where
 typ:typG (ownM ts) e=(t,0)
 dep:0<=xu e/\xu e<=d
 size:0<=yP e/\3 * yP e+1<=((4 ^ d:Nat):Int)
 okx:OkX e
 ok12:Ok12 e
structure MadeL (ts:List Int) (d:Nat) (l:List Int) (ks:List Ex):Prop where
 typ:ks.map (typG (ownM ts))=l.map fun u=>(u,(0:Int))
 dep: ∀k∈ks,(0<=xu k/\xu k<=d)/\0<=yP k/\3 * yP k+1<=((4 ^ d:Nat):Int)
 okx: ∀k∈ks,OkX k/\Ok12 k
theorem MadeL.len {ts:List Int} {d:Nat} {l:List Int} {ks:List Ex} (h:MadeL ts d l ks):ks.length=l.length:=by have:=congrArg List.length h.typ;simpa using this
theorem MadeL.nil {ts:List Int} {d:Nat}:MadeL ts d [] []:=⟨rfl,fun k h=>absurd h (by simp),fun k h=>absurd h (by simp)⟩
theorem MadeL.cons {ts:List Int} {d:Nat} {t:Int} {l:List Int} {e:Ex} {ks:List Ex} (h:Made ts d t e) (h2:MadeL ts d l ks):MadeL ts d (t::l) (e::ks):=
 ⟨by rw [List.map_cons,List.map_cons,h.typ,h2.typ],fun k hk=>by
  rcases List.mem_cons.1 hk with rfl | hk
  ·exact ⟨h.dep,h.size⟩
  ·exact h2.dep k hk,fun k hk=>by
  rcases List.mem_cons.1 hk with rfl | hk
  ·exact ⟨h.okx,h.ok12⟩
  ·exact h2.okx k hk⟩
theorem MadeL.app {ts:List Int} {d:Nat} {l m:List Int} {ks js:List Ex} (h:MadeL ts d l ks) (h2:MadeL ts d m js):MadeL ts d (l++m) (ks++js):=
 ⟨by rw [List.map_append,List.map_append,h.typ,h2.typ],fun k hk=>(List.mem_append.1 hk).elim (h.dep k) (h2.dep k),fun k hk=>(List.mem_append.1 hk).elim (h.okx k) (h2.okx k)⟩
theorem sizeL_le {s:Int} (h0:0<=s): ∀(ks:List Ex) (n:Int),0<=n->n+ks.length * s<=1000000000000->(∀k∈ks,0<=yP k/\yP k<=s)->0<=sizeL n ks/\sizeL n ks<=n+ks.length * s
 | [],n,hn,_,_=>by simp [sizeL];exact hn
 | k::ks,n,hn,hb,hk=>by
   obtain ⟨k0,k1⟩:=hk k (by simp)
   have e:(((k::ks).length:Nat):Int) * s=ks.length * s+s:=by
    rw [List.length_cons]
    push_cast
    rw [Int.add_mul,Int.one_mul]
   have hp:0<=(ks.length:Int) * s:=Int.mul_nonneg (by omega) h0
   rw [e] at hb ⊢
   rw [sizeL,zm (by omega) (by omega)]
   have:=sizeL_le h0 ks (n+yP k) (by omega) (by omega) fun x hx=>hk x (by simp [hx])
   omega
theorem depthL_le {d:Int}: ∀(ks:List Ex) (n:Int),0<=n->n<=d->(∀k∈ks,0<=xu k/\xu k<=d)->0<=depthL n ks/\depthL n ks<=d
 | [],n,hn,hd,_=>by rw [depthL];exact ⟨hn,hd⟩
 | k::ks,n,hn,hd,hk=>by
   obtain ⟨k0,k1⟩:=hk k (by simp)
   rw [depthL]
   exact depthL_le ks _ (by split<;>omega) (by split<;>omega) fun x hx=>hk x (by simp [hx])
theorem made_node {ts:List Int} {d:Nat} (hd:d<=9) {t op ty n c:Int} {b:ByteArray} {ks:List Ex} {ks':List Int} (h:MadeL ts d ks' ks) (hl:ks'.length<=4) (hn:i64 n) (hb:b.size<=9223372036854775807)
 (ho:ownM ts (.mk op ty n b c ks) ks'=(t,0)):Made ts (d+1) t (.mk op ty n b c ks):=by
 have hP:4 ^ d<=4 ^ 9:=Nat.pow_le_pow_right (by omega) hd
 have hP0:0<4 ^ d:=Nat.pow_pos (by omega)
 have hs:(4:Nat) ^ (d+1)=4 * 4 ^ d:=by rw [Nat.pow_succ];omega
 rw [show (4:Nat) ^ 9=262144 from rfl] at hP
 have hlen:=h.len
 obtain ⟨hk,h1,hx⟩:=h
 refine ⟨?_,?_,?_,⟨_,hn,hb,fun k hk=>(hx k hk).1⟩,⟨_,by show ks.length<=12;omega,fun k hk=>(hx k hk).2⟩⟩
 ·rw [uL]
  show typK (ownM ts) _ (ks.map (typG (ownM ts)))=_
  rw [hk]
  have he: ∀l:List Int,ferr Prod.snd (l.map fun u=>(u,(0:Int)))=0:=fun l=>yA _ _ fun i hi=>by
   have:=zk hi
   obtain ⟨u,_,hu⟩:=List.mem_map.1 this
   rw [<-hu]
  rw [typK,if_pos (he _),List.map_map]
  rw [show (Prod.fst∘fun u:Int=>(u,(0:Int)))=id from rfl,List.map_id]
  exact ho
 ·rw [depthW_eq]
  have:=depthL_le (d:=(d:Int)) ks 0 (by omega) (by omega) fun k hk=>(h1 k hk).1
  show 0<=IntKind.i64.wrap (depthL 0 ks+1)/\IntKind.i64.wrap (depthL 0 ks+1)<=_
  rw [zm (by omega) (by omega)]
  push_cast
  omega
 ·rw [sizeW_eq]
  rw [hs]
  generalize (4:Nat) ^ d=P at hP hP0 h1
  have hl':((ks.length:Nat):Int)<=4:=by omega
  have hm:(ks.length:Int) * ((((P:Nat):Int)-1) / 3)<=4 * (((P:Int)-1) / 3):=Int.mul_le_mul_of_nonneg_right hl' (by omega)
  have:=sizeL_le (s:=((P:Int)-1) / 3) (by omega) ks 1 (by omega) (by omega) fun k hk=>by have:=(h1 k hk).2;omega
  show 0<=sizeL 1 ks/\3 * sizeL 1 ks+1<=_
  push_cast
  omega
theorem Made.mono {ts:List Int} {d d':Nat} {t:Int} {e:Ex} (h:Made ts d t e) (hd:d<=d'):Made ts d' t e:=by
 have hP:4 ^ d<=4 ^ d':=Nat.pow_le_pow_right (by omega) hd
 obtain ⟨h1,h2,h3,h4,h5⟩:=h
 exact ⟨h1,by omega,by omega,h4,h5⟩
theorem clean_op {op:Int} (h:6<=op) (ks:List Ex):zR (.mk op 0 0 ByteArray.empty 0 ks)=true:=by
 have h1: ¬op=1:=by omega
 have h2: ¬op=2:=by omega
 have h3: ¬op=3:=by omega
 have h4: ¬op=4:=by omega
 have h5: ¬op=5:=by omega
 simp [zR,okF,noT,noN,noX,noC,Ex.op,Ex.type,Ex.num,Ex.text,Ex.col,h1,h2,h3,h4,h5,ByteArray.toList_eq]
def opOk (op:Int) (l:List Int) (t:Int):Bool:=
 isOp op&&decide (6<=op)&&(((l.length:Int)==(yl op).kids) || ((op==28)&&decide ((l.length:Int)>(yl op).kids)))&&fitM (yl op) l&&
  (if ((yl op).own==0)=true then l.getD (l.length-1) default==t else (yl op).own==t)
theorem own_op {ts:List Int} {op t:Int} {l:List Int} {ks:List Ex} (h:opOk op l t=true) (hl:ks.length=l.length):ownM ts (.mk op 0 0 ByteArray.empty 0 ks) l=(t,0):=by
 unfold opOk at h
 simp only [Bool.and_eq_true,decide_eq_true_eq] at h
 obtain ⟨⟨⟨⟨h1,h2⟩,h3⟩,h4⟩,h5⟩:=h
 have hc:yM (.mk op 0 0 ByteArray.empty 0 ks)=true:=by
  unfold yM
  simp only [Ex.op,Ex.kids,hl,h1,h3,Bool.true_and]
 have n5:(op==5)=false:=beq_eq_false_iff_ne.2 (by omega)
 have n1:(op==1)=false:=beq_eq_false_iff_ne.2 (by omega)
 unfold ownM
 simp only [Ex.op,h1,clean_op h2,hc,h4,n5,n1,Bool.not_true,Bool.or_self,Bool.false_and,Bool.false_eq_true,if_false]
 split at h5
 ·rename_i ho
  exact (if_pos ho).trans (by rw [eq_of_beq h5])
 ·rename_i ho
  exact (if_neg ho).trans (by rw [eq_of_beq h5])
theorem xR {ts:List Int} {d:Nat} (hd:d<=9) {op t:Int} {l:List Int} {r:List Ex×Nat} (h:opOk op l t=true) (hl:l.length<=4) (hm:MadeL ts d l r.1):Made ts (d+1) t (mkE op r).1:=
 made_node hd hm hl ⟨by decide,by decide⟩ (Nat.zero_le _) (own_op h hm.len)
section
variable {xs ts:List Int} {d:Nat} {f:Int->Nat->Ex×Nat} (hf: ∀t p,Kn t->Made ts d t (f t p).1)
include hf
theorem qS {x:Int} (hx:Kn x) (p:Nat):MadeL ts d [x] (oneM f x p).1:= .cons (hf x _ hx) .nil
theorem jv {x:Int} (hx:Kn x) (p:Nat):MadeL ts d [x,x] (twoM f x p).1:= .cons (hf x _ hx) (.cons (hf x _ hx) .nil)
theorem made_three {x:Int} (hx:Kn x) (p:Nat):MadeL ts d [2,x,x] (yd f x p).1:= .cons (hf 2 _ (.inr (.inl rfl))) (.cons (hf x _ hx) (.cons (hf x _ hx) .nil))
theorem made_more {x:Int} (hx:Kn x) (p:Nat): ∀m,MadeL ts d (List.replicate m x) (yx f x p m).1
 | 0=> .nil
 | m+1=>by
   rw [List.replicate_succ',yx]
   exact (made_more hx p m).app (.cons (hf x _ hx) .nil)
theorem made_bool (hd:d<=9) {x:Int} (hx:Kn x) (p:Nat):Made ts (d+1) 2 (jY xs f x p).1:=by
 have h6:=zw xs p (n:=6) (by omega)
 have h2:=zw xs (p+1) (n:=2) (by omega)
 have h7:=zw xs (p+1) (n:=7) (by omega)
 have k2:Kn 2:= .inr (.inl rfl)
 unfold jY
 split
 ·refine xR hd ?_ (by simp) (jv hf k2 _)
  generalize drawn xs (p+1) 2=n at h2 ⊢
  have:n=0\/n=1:=by omega
  rcases this with rfl | rfl<;>decide
 split
 ·refine xR hd ?_ (by simp) (qS hf k2 _)
  generalize drawn xs (p+1) 2=n at h2 ⊢
  have:n=0\/n=1:=by omega
  rcases this with rfl | rfl<;>decide
 split
 ·refine xR hd ?_ (by simp) (qS hf hx _)
  rcases hx with rfl | rfl | rfl<;>decide
 split
 ·have h3:=zw xs (twoM f x (p+1)).2 (n:=3) (by omega)
  have hm:=(jv hf hx (p+1)).app (made_more hf hx ((twoM f x (p+1)).2+1) (drawn xs (twoM f x (p+1)).2 3).toNat)
  refine xR (r:=inE xs f x (p+1)) hd ?_ ?_ hm
  ·generalize drawn xs (twoM f x (p+1)).2 3=n at h3 ⊢
   have:n=0\/n=1\/n=2:=by omega
   rcases this with rfl | rfl | rfl<;>rcases hx with rfl | rfl | rfl<;>decide
  ·rw [List.length_append,List.length_replicate]
   show 2+_<=4
   omega
 ·refine xR hd ?_ (by simp) (jv hf hx _)
  generalize drawn xs (p+1) 7=n at h7 ⊢
  have:n=0\/n=1\/n=2\/n=3\/n=4\/n=5\/n=6:=by omega
  rcases this with rfl | rfl | rfl | rfl | rfl | rfl | rfl<;>rcases hx with rfl | rfl | rfl<;>decide
end
theorem kG:ByteArray.empty.toList=[]:=by simp [ByteArray.toList_eq]
theorem jw {ts:List Int} {t op ty n c:Int} {b:ByteArray} (hn:i64 n) (hb:b.size<=9223372036854775807) (ho:ownM ts (.mk op ty n b c []) []=(t,0)):Made ts 1 t (.mk op ty n b c []):=
 made_node (d:=0) (by omega) .nil (by simp) hn hb ho
theorem made_null (ts:List Int) {t:Int} (ht:Kn t):Made ts 1 t (.mk 1 t 0 ByteArray.empty 0 []):=by
 refine jw ⟨by decide,by decide⟩ (Nat.zero_le _) ?_
 rcases ht with rfl | rfl | rfl<;>(simp only [ownM,zR,okF,noT,noN,noX,noC,Ex.op,Ex.type,Ex.num,Ex.text,Ex.col,kG];rfl)
theorem made_int (ts:List Int) {n:Int} (h:n∈intsL):Made ts 1 1 (.mk 2 0 n ByteArray.empty 0 []):=by
 have hb: -1000000000000<=n/\n<=1000000000000:=by
  have: ∀n∈intsL, -1000000000000<=n/\n<=1000000000000:=by decide
  exact this n h
 refine jw ⟨by omega,by omega⟩ (Nat.zero_le _) ?_
 simp only [intsL,List.mem_cons,List.not_mem_nil,or_false] at h
 rcases h with rfl | rfl | rfl | rfl | rfl | rfl | rfl | rfl | rfl | rfl | rfl | rfl<;>(simp only [ownM,zR,okF,zF,noT,noN,noX,noC,Ex.op,Ex.type,Ex.num,Ex.text,Ex.col,kG];rfl)
theorem made_bo (ts:List Int) {n:Int} (h:n=0\/n=1):Made ts 1 2 (.mk 3 0 n ByteArray.empty 0 []):=by
 refine jw ⟨by omega,by omega⟩ (Nat.zero_le _) ?_
 rcases h with rfl | rfl<;>(simp only [ownM,zR,okF,zF,noT,noN,noX,noC,Ex.op,Ex.type,Ex.num,Ex.text,Ex.col,kG];rfl)
theorem made_text (ts:List Int) {b:ByteArray} (h:b∈textsL):Made ts 1 3 (.mk 4 0 0 b 0 []):=by
 have hb:b.size<=24:=by
  simp only [textsL,List.mem_cons,List.not_mem_nil,or_false] at h
  rcases h with rfl | rfl | rfl | rfl | rfl | rfl | rfl<;>decide
 refine jw ⟨by decide,by decide⟩ (by omega) ?_
 simp only [textsL,List.mem_cons,List.not_mem_nil,or_false] at h
 rcases h with rfl | rfl | rfl | rfl | rfl | rfl | rfl<;>simp [ownM,isOp,zR,okF,zF,kd,noT,noN,noX,noC,Ex.op,Ex.type,Ex.num,Ex.text,Ex.col,ByteArray.toList_eq]<;>decide
theorem made_const (ts:List Int) {k:Int} (hk:Kn k) {v:Val} (hv:v∈y5 k):Made ts 1 k (qv v k):=by
 unfold y5 at hv
 rcases List.mem_cons.1 hv with rfl | hv
 ·exact made_null ts hk
 rcases hk with rfl | rfl | rfl
 ·rw [if_pos rfl] at hv
  obtain ⟨n,hn,rfl⟩:=List.mem_map.1 hv
  exact made_int ts hn
 ·rw [if_neg (by decide),if_pos rfl] at hv
  simp only [List.mem_cons,List.not_mem_nil,or_false] at hv
  rcases hv with rfl | rfl
  ·exact made_bo ts (.inl rfl)
  ·exact made_bo ts (.inr rfl)
 ·rw [if_neg (by decide),if_neg (by decide),if_pos rfl] at hv
  obtain ⟨n,hn,rfl⟩:=List.mem_map.1 hv
  exact made_text ts hn
theorem cols_mem {types:List Int} {typ c:Int} (h:c∈cols types typ): ∃j:Nat,c=j/\j<types.length/\types.getD j 0=typ:=by
 unfold cols j5 at h
 obtain ⟨j,hj,rfl⟩:=List.mem_map.1 h
 obtain ⟨h1,h2⟩:=List.mem_filter.1 hj
 exact ⟨j,rfl,List.mem_range.1 h1,by simpa using h2⟩
theorem made_col {ts:List Int} {j:Nat} {typ:Int} (h2:j<ts.length) (h4:ts.getD j default=typ) (ht:xk typ=true):Made ts 1 typ (.mk 5 0 0 ByteArray.empty (j:Int) []):=by
 refine jw ⟨by decide,by decide⟩ (Nat.zero_le _) ?_
 have hcl:zR (.mk 5 0 0 ByteArray.empty (j:Int) [])=true:=by simp only [zR,okF,noT,noN,noX,noC,Ex.op,Ex.type,Ex.num,Ex.text,Ex.col,kG];rfl
 have hcn:yM (.mk 5 0 0 ByteArray.empty (j:Int) [])=true:=rfl
 have hfi:fitM (yl 5) []=true:=rfl
 have g:(((5:Int)==5)&&(decide ((j:Int)<0) || decide ((j:Int)≥ts.length)))=false:=by rw [decide_eq_false (by omega),decide_eq_false (by omega)];rfl
 have g2:((((5:Int)==5)&& !xk (ts.getD ((j:Int)).toNat default)) || !fitM (yl 5) [])=false:=by rw [Int.toNat_natCast,h4,ht,hfi];rfl
 show (if (!isOp 5 || !zR (.mk 5 0 0 ByteArray.empty (j:Int) []))=true then ((0,1):Int×Int) else if (!yM (.mk 5 0 0 ByteArray.empty (j:Int) []))=true then (0,9) else if (((5:Int)==5)&&(decide ((j:Int)<0) || decide ((j:Int)≥ts.length)))=true then (0,3)
  else if ((((5:Int)==5)&& !xk (ts.getD ((j:Int)).toNat default)) || !fitM (yl 5) [])=true then (0,4) else (ts.getD ((j:Int)).toNat default,0))=_
 rw [hcl,hcn,g,g2,Int.toNat_natCast,h4]
 rfl
theorem made_pick (xs ts:List Int) {k:Int} (hk:Kn k) (p:Nat):Made ts 1 k (wv xs ts k p).1:=by
 have hd:=zw xs p (n:=((cols ts k).length:Int)+2) (by omega)
 unfold wv
 split
 ·have hm:(cols ts k).getD (drawn xs p ((cols ts k).length+2)).toNat default∈cols ts k:=zk (by omega)
  obtain ⟨j,h1,h2,h3⟩:=cols_mem hm
  show Made ts 1 k (.mk 5 0 0 ByteArray.empty ((cols ts k).getD (drawn xs p ((cols ts k).length+2)).toNat default) [])
  rw [h1]
  exact made_col h2 h3 (by rcases hk with rfl | rfl | rfl<;>rfl)
 ·have hl:=qn hk
  have hd2:=zw xs (p+1) (n:=((y5 k).length:Int)) (by omega)
  refine made_const ts hk ?_
  unfold qd
  rw [if_pos rfl]
  exact zk (by omega)
theorem made_expr (xs ts:List Int): ∀(d:Nat),d≤9→ ∀(k:Int),Kn k→ ∀(p:Nat),Made ts (d+1) k (xe xs ts (d+1) k p).1
 | 0,_,k,hk,p=>made_pick xs ts hk p
 | d+1,hd,k,hk,p=>by
   have hf: ∀t p,Kn t->Made ts (d+1) t (xe xs ts (d+1) t p).1:=fun t p h=>made_expr xs ts d (by omega) t h p
   have h5:=zw xs (p+2) (n:=5) (by omega)
   have h3:=zw xs (p+2) (n:=3) (by omega)
   show Made ts (d+1+1) k (ye xs ts (xe xs ts (d+1)) k p).1
   unfold ye
   split
   ·exact (made_pick xs ts hk _).mono (by omega)
   split
   ·exact xR (by omega) (by rcases hk with rfl | rfl | rfl<;>decide) (by simp) (made_three hf hk _)
   split
   ·exact xR (by omega) (by rcases hk with rfl | rfl | rfl<;>decide) (by simp) (jv hf hk _)
   split
   ·rename_i h1
    subst h1
    split
    ·refine xR (by omega) ?_ (by simp) (jv hf hk _)
     generalize drawn xs (p+2) 5=n at h5 ⊢
     have:n=0\/n=1\/n=2\/n=3\/n=4:=by omega
     rcases this with rfl | rfl | rfl | rfl | rfl<;>decide
    split
    ·exact xR (by omega) (by decide) (by simp) (qS hf hk _)
    ·exact xR (by omega) (by decide) (by simp) (qS hf (.inr (.inr rfl)) _)
   split
   ·rename_i h1
    subst h1
    exact xR (by omega) (by decide) (by simp) (jv hf hk _)
   ·rename_i h1 h2
    have e:k=2:=by rcases hk with rfl | rfl | rfl<;>first | rfl | exact absurd rfl h1 | exact absurd rfl h2
    subst e
    exact made_bool hf (by omega) (by omega) _
theorem made_typeM {ts:List Int} {d:Nat} {t:Int} {e:Ex} (hd:d<=4) (h:Made ts d t e):zW (ownM ts) e=(t,0):=by
 have hP:4 ^ d<=4 ^ 4:=Nat.pow_le_pow_right (by omega) hd
 rw [show (4:Nat) ^ 4=256 from rfl] at hP
 have h1:=h.size
 have h2:=h.dep
 unfold zW
 rw [if_neg (by omega),if_neg (by omega),h.typ]
end
section
open Go.Am
attribute [local simp, local push_cast] num boo str ints aV aTab zx aS aT aC
def zE:Ex:= .mk 0 0 0 ByteArray.empty 0 []
def x5 (name:ByteArray):Qr:= .mk 1 name 0 false zE [] [] [] [] []
def grpQ (key:Ex) (name:ByteArray):Qr:= .mk 10 ByteArray.empty 0 false zE [key] [⟨1,zE⟩] [] [] [x5 name]
def vF (key:Ex) (name:ByteArray):Qr:= .mk 4 ByteArray.empty 0 false zE [key] [] [] [] [x5 name]
def disQ (key:Ex) (name:ByteArray):Qr:= .mk 9 ByteArray.empty 0 false zE [] [] [] [] [vF key name]
theorem qE:uM zE=true:=by simp only [uM,zE,Ex.op,Ex.type,Ex.num,Ex.text,Ex.col,Ex.kids,kG];rfl
theorem clean_of {q:Qr} (h:vk q=true): ¬(isFm q.op=false\/vX q (yZ q.op)=false):=by
 rw [plain_eq,Bool.and_eq_true] at h
 rw [h.1,h.2];simp
theorem scan_plain (b:ByteArray):vk (x5 b)=true:=by
 have h:uM (x5 b).cond=true:=qE
 unfold vk
 rw [h]
 simp [x5,Qr.op,Qr.table,Qr.kind,Qr.all,Qr.exprs,Qr.aggs,Qr.types,Qr.rows]
theorem grp_plain (k:Ex) (b:ByteArray):vk (grpQ k b)=true:=by
 have h:uM (grpQ k b).cond=true:=qE
 unfold vk
 rw [h]
 simp [grpQ,kG,Qr.op,Qr.table,Qr.kind,Qr.all,Qr.exprs,Qr.aggs,Qr.types,Qr.rows]
theorem proj_plain (k:Ex) (b:ByteArray):vk (vF k b)=true:=by
 have h:uM (vF k b).cond=true:=qE
 unfold vk
 rw [h]
 simp [vF,kG,Qr.op,Qr.table,Qr.kind,Qr.all,Qr.exprs,Qr.aggs,Qr.types,Qr.rows]
theorem dis_plain (k:Ex) (b:ByteArray):vk (disQ k b)=true:=by
 have h:uM (disQ k b).cond=true:=qE
 unfold vk
 rw [h]
 simp [disQ,kG,Qr.op,Qr.table,Qr.kind,Qr.all,Qr.exprs,Qr.aggs,Qr.types,Qr.rows]
theorem valid_byT {s:Sch} (h:xm s=0) {n:Nat} (hn:n<s.length):byT s (s.getD n default).name=n:=by
 unfold xm at h
 split at h
 ·exact absurd h (by decide)
 split at h
 ·rename_i h1;exact absurd h h1
 rename_i h1
 have h2:=ferrN_zero (by simpa using h1:vb (y4 s) s.length=0) n hn
 unfold y4 at h2
 split at h2
 ·exact absurd h2 (by decide)
 split at h2
 ·exact absurd h2 (by decide)
 rename_i h3
 have h4:=kS (fun t:Tbl=>t.name.toList==(s.getD n default).name.toList) s n hn (by simp)
 unfold byT at h3 ⊢
 unfold vG at h3
 rw [if_neg (by omega)] at h3
 omega
theorem typ_scan {s:Sch} {b:ByteArray} {n:Nat} (h:byT s b=n):typQ s (x5 b)=(zL (s.getD n default),0):=by
 rw [kI]
 show q9 s (x5 b) []=_
 rw [q9,if_pos (show ferr Prod.snd ([]:List (List Int×Int))=0 from rfl)]
 unfold ownQ
 rw [if_neg (clean_of (scan_plain b)),if_neg (by rw [show (x5 b).op=1 from rfl];decide),if_pos (show (x5 b).op=1 from rfl)]
 rw [show (x5 b).table=b from rfl,h,if_pos (by omega)]
 rfl
theorem own_one {s:Sch} {q:Qr} {ts:List Int} {o:Int} (ho:q.op=o) (hp:vk q=true) (hf:(yZ o).kids=1) (h1:o≠1) (h2:o≠2):ownQ s q [ts]=
 (if o=3 then (if uE ts q.cond≠0 then ([],uE ts q.cond) else (ts,0))
 else if o=4 then (if q.exprs.length=0\/q.exprs.length>24 then ([],9) else wL ts q.exprs)
 else if o=5 then joinM ts default q
 else if o=10 then jf ts q
 else if o=6\/o=7\/o=8 then (if (ts==default)=true then (ts,0) else ([],4))
 else (ts,0)):=by
 subst ho
 unfold ownQ
 rw [if_neg (clean_of hp),if_neg (by rw [hf];simp),if_neg h1,if_neg h2]
 rfl
theorem typ_one {s:Sch} {q k:Qr} {ts:List Int} (hk:q.kids=[k]) (h:typQ s k=(ts,0)):typQ s q=ownQ s q [ts]:=by
 rw [kI,hk,List.map_cons,List.map_nil,h]
 rw [q9,if_pos (show ferr Prod.snd [(ts,(0:Int))]=0 from rfl)]
 rfl
theorem list_one {α:Type} {f:α->Int×Int} {x:α} {k:Int} (h:f x=(k,0)):wo f [x]=([k],0):=by
 unfold wo
 have hf:ferr (fun e=>(f e).2) [x]=0:=by simp [ferr,h]
 rw [if_pos hf]
 simp [h]
theorem cols_one {ts:List Int} {k:Int} {key:Ex} (h:zW (ownM ts) key=(k,0)):wL ts [key]=([k],0):=list_one h
theorem aggs_one (ts:List Int):wo (vi ts) [⟨1,zE⟩]=([1],0):=list_one (by unfold vi;rw [qE];rfl)
theorem group_one {ts:List Int} {q:Qr} {k:Int} {key:Ex} (h:zW (ownM ts) key=(k,0)) (he:q.exprs=[key]) (ha:q.aggs=[⟨1,zE⟩]):jf ts q=([k,1],0):=by
 unfold jf
 rw [he,ha,cols_one h,aggs_one]
 rfl
theorem typ_grp {s:Sch} {b:ByteArray} {n:Nat} {k:Int} {key:Ex} (h:byT s b=n) (hk:zW (ownM (zL (s.getD n default))) key=(k,0)):typQ s (grpQ key b)=([k,1],0):=by
 rw [typ_one (q:=grpQ key b) rfl (typ_scan h),own_one (q:=grpQ key b) (o:=10) rfl (grp_plain key b) (by decide) (by decide) (by decide)]
 rw [if_neg (by decide),if_neg (by decide),if_neg (by decide),if_pos rfl]
 exact group_one hk rfl rfl
theorem typ_proj {s:Sch} {b:ByteArray} {n:Nat} {k:Int} {key:Ex} (h:byT s b=n) (hk:zW (ownM (zL (s.getD n default))) key=(k,0)):typQ s (vF key b)=([k],0):=by
 rw [typ_one (q:=vF key b) rfl (typ_scan h),own_one (q:=vF key b) (o:=4) rfl (proj_plain key b) (by decide) (by decide) (by decide)]
 rw [if_neg (by decide),if_pos rfl]
 rw [show (vF key b).exprs=[key] from rfl,cols_one hk]
 rfl
theorem typ_dis {s:Sch} {b:ByteArray} {n:Nat} {k:Int} {key:Ex} (h:byT s b=n) (hk:zW (ownM (zL (s.getD n default))) key=(k,0)):typQ s (disQ key b)=([k],0):=by
 rw [typ_one (q:=disQ key b) rfl (typ_proj h hk),own_one (q:=disQ key b) (o:=9) rfl (dis_plain key b) (by decide) (by decide) (by decide)]
 rfl
theorem ul (b:ByteArray):ur (x5 b)=1:=by rw [kg];rfl
theorem depth_scan (b:ByteArray):vt (x5 b)=1:=by rw [depthQ_eq];rfl
theorem size_one {n:Int} {q:Qr} (h0:0<=n) (h1:0<=ur q) (h2:n+ur q<=1000):sizeQs n [q]=n+ur q:=by
 rw [sizeQs,sizeQs,zm (by omega) (by omega)]
theorem sizeE_one {e:Ex} (h0:0<=yP e) (h1:yP e<=900):sizeL 1 [e]=1+yP e:=by
 rw [sizeL,sizeL,zm (by omega) (by omega)]
theorem size_grp {key:Ex} (b:ByteArray) (h0:0<=yP key) (h1:yP key<=100):ur (grpQ key b)=yP key+2:=by
 rw [kg]
 show sizeQs (sizeL 1 [key]) [x5 b]=_
 rw [sizeE_one h0 (by omega),size_one (by omega) (by rw [ul];omega) (by rw [ul];omega),ul]
 omega
theorem size_proj {key:Ex} (b:ByteArray) (h0:0<=yP key) (h1:yP key<=100):ur (vF key b)=yP key+2:=by
 rw [kg]
 show sizeQs (sizeL 1 [key]) [x5 b]=_
 rw [sizeE_one h0 (by omega),size_one (by omega) (by rw [ul];omega) (by rw [ul];omega),ul]
 omega
theorem size_dis {key:Ex} (b:ByteArray) (h0:0<=yP key) (h1:yP key<=100):ur (disQ key b)=yP key+3:=by
 rw [kg]
 show sizeQs 1 [vF key b]=_
 have:=size_proj b h0 h1
 rw [size_one (by omega) (by omega) (by omega),this]
 omega
theorem depth_one {q k:Qr} {d:Int} (hk:q.kids=[k]) (h:vt k=d) (h0:0<d) (h1:d<1000):vt q=d+1:=by
 rw [depthQ_eq,hk,depthQs,depthQs,h,if_pos h0,zm (by omega) (by omega)]
theorem ev_scan {gr:GF} {s:Sch} {i:Inst} {b:ByteArray} {n:Nat} (h:byT s b=n) (hl:(i.getD n default).length<=1000):evQ gr s i (x5 b)=some (i.getD n default):=by
 rw [evQ_eq]
 show evOp gr s i (x5 b) []=_
 unfold evOp
 have ho: ∀w0 w1 k0 k1,outM gr s i (x5 b) w0 w1 k0 k1=i.getD n default:=fun w0 w1 k0 k1=>by
  unfold outM
  rw [if_pos (show (x5 b).op=1 from rfl),show (x5 b).table=b from rfl,h]
  rfl
 rw [if_neg (fun h=>by cases h.1),ho,if_neg (by omega)]
theorem ev_one {gr:GF} {s:Sch} {i:Inst} {q k:Qr} {rows out:List Row} (hk:q.kids=[k]) (h:evQ gr s i k=some rows) {o:Int} (hop:q.op=o) (h5:o≠5) (ho: ∀w0 w1,outM gr s i q w0 w1 rows []=out) (hl:out.length<=1000):evQ gr s i q=some out:=by
 rw [evQ_eq,hk,List.map_cons,List.map_nil,h]
 show evOp gr s i q [rows]=_
 unfold evOp
 rw [if_neg (fun h=>h5 (hop ▸ h.1))]
 show (if 1000<(outM gr s i q _ _ rows []).length then none else some (outM gr s i q _ _ rows []))=_
 rw [ho,if_neg (by omega)]
theorem nodup_le: ∀{a b:List Row},a.Nodup->(∀x∈a,x∈b)->a.length<=b.length
 | [],_,_,_=>Nat.zero_le _
 | x::a,b,hn,h=>by
   obtain ⟨h1,h2⟩:=List.nodup_cons.1 hn
   obtain ⟨l1,l2,rfl⟩:=List.append_of_mem (h x (by simp))
   have:=nodup_le (b:=l1++l2) h2 fun y hy=>by
    have h3:=h y (by simp [hy])
    simp only [List.mem_append,List.mem_cons] at h3 ⊢
    rcases h3 with h3 | rfl | h3
    ·exact .inl h3
    ·exact absurd hy h1
    ·exact .inr h3
   simp only [List.length_append,List.length_cons] at this ⊢
   omega
def kZ (key:Ex) (R:List Row):List Row:=R.map fun r=>[y9 r key]
def kys (key:Ex) (R:List Row):List Row:=j4 (kZ key R)
def cntG (key:Ex) (R:List Row) (k:Row):Nat:=(R.filter fun r=>cmpR [y9 r key] k==0).length
def u4 (key:Ex) (R:List Row):List Row:=(kys key R).map fun k=>k++[⟨1,cntG key R k,ByteArray.empty⟩]
theorem kys_len (key:Ex) (R:List Row):(kys key R).length<=R.length:=by
 have:=nodup_le (distM_nodup (kZ key R)) (fun x hx=>((xt (kZ key R)).2 x).1 hx)
 unfold kys
 rw [show R.length=(kZ key R).length by unfold kZ;rw [List.length_map]]
 exact this
theorem kys_one {key:Ex} {R:List Row} {k:Row} (h:k∈kys key R): ∃v,k=[v]:=by
 obtain ⟨r,_,rfl⟩:=List.mem_map.1 (((xt (kZ key R)).2 k).1 h)
 exact ⟨_,rfl⟩
theorem ev_grp {s:Sch} {i:Inst} {b:ByteArray} {n:Nat} {key:Ex} (h:byT s b=n) (hl:(i.getD n default).length<=1000):evQ grP s i (grpQ key b)=some (u4 key (i.getD n default)):=
 ev_one (q:=grpQ key b) (o:=10) rfl (ev_scan h hl) rfl (by decide) (fun w0 w1=>rfl) (by unfold u4;rw [List.length_map];exact Nat.le_trans (kys_len _ _) hl)
theorem ev_dis {s:Sch} {i:Inst} {b:ByteArray} {n:Nat} {key:Ex} (h:byT s b=n) (hl:(i.getD n default).length<=1000):evQ grP s i (disQ key b)=some (kys key (i.getD n default)):=
 ev_one (q:=disQ key b) (o:=9) rfl (ev_one (q:=vF key b) (o:=4) (out:=kZ key (i.getD n default)) rfl (ev_scan h hl) rfl (by decide) (fun w0 w1=>rfl) (by unfold kZ;rw [List.length_map];exact hl)) rfl (by decide) (fun w0 w1=>rfl) (Nat.le_trans (kys_len _ _) hl)
theorem asc_lt {l:List Row} (h:l.Pairwise fun a b=>cmpR a b<0):Asc leR l:=h.imp fun h=>(uh _ _).2 (by omega)
theorem srt_kys (key:Ex) (R:List Row):srt (kys key R)=kys key R:=srt_asc (asc_lt (xt _).1)
theorem srt_grps (key:Ex) (R:List Row):srt (u4 key R)=u4 key R:=by
 refine srt_asc (asc_lt ?_)
 unfold u4
 rw [List.pairwise_map]
 refine (xt (kZ key R)).1.imp_of_mem fun {a b} ha hb hab=>?_
 obtain ⟨v,rfl⟩:=kys_one (key:=key) (R:=R) ha
 obtain ⟨w,rfl⟩:=kys_one (key:=key) (R:=R) hb
 rw [cmpR_one] at hab
 show cmpR (v::_) (w::_)<0
 rw [cmpR,if_pos (by omega)]
 exact hab
theorem cnt_pos {key:Ex} {R:List Row} {k:Row} (h:k∈kys key R):1<=cntG key R k:=by
 obtain ⟨r,hr,rfl⟩:=List.mem_map.1 (((xt (kZ key R)).2 k).1 h)
 exact List.length_pos_iff.2 (List.ne_nil_of_mem (List.mem_filter.2 ⟨hr,by rw [yz];rfl⟩))
theorem ind_sum {x:Row}: ∀{D:List Row},D.Nodup→x∈D→(D.map fun k=>if cmpR x k==0 then 1 else 0).sum=1
 | y::D,hn,hx=>by
   obtain ⟨h1,h2⟩:=List.nodup_cons.1 hn
   rw [List.map_cons,List.sum_cons]
   by_cases e:x=y
   ·subst e
    have hz: ∀D:List Row,x ∉ D->(D.map fun k=>if cmpR x k==0 then 1 else 0).sum=0:=fun D=>by
     induction D with
     | nil=>intro _;rfl
     | cons z D ih=>
       intro hz
       rw [List.map_cons,List.sum_cons,ih (fun h=>hz (by simp [h])),if_neg (fun h=>hz (by rw [(vd x z).1 (by simpa using h)];simp))]
    rw [hz D h1,if_pos (by rw [yz];rfl)]
   ·have hx2:x∈D:=(List.mem_cons.1 hx).resolve_left e
    rw [ind_sum h2 hx2,if_neg (fun h=>e ((vd x y).1 (by simpa using h)))]
theorem sum_add {α:Type} (f g:α->Nat): ∀l:List α,(l.map fun x=>f x+g x).sum=(l.map f).sum+(l.map g).sum
 | []=>rfl
 | x::l=>by rw [List.map_cons,List.sum_cons,sum_add f g l,List.map_cons,List.map_cons,List.sum_cons,List.sum_cons];omega
theorem sum_cnt (f:Row->Row) {D:List Row} (hn:D.Nodup): ∀R:List Row,(∀r∈R,f r∈D)->(D.map fun k=>(R.filter fun r=>cmpR (f r) k==0).length).sum=R.length
 | [],_=>by
   have: ∀D:List Row,(D.map fun k=>(([]:List Row).filter fun r=>cmpR (f r) k==0).length).sum=0:=fun D=>by
    induction D with
    | nil=>rfl
    | cons x D ih=>rw [List.map_cons,List.sum_cons,ih];rfl
   exact this D
 | r::R,h=>by
   have ih:=sum_cnt f hn R fun x hx=>h x (by simp [hx])
   have e:(fun k=>((r::R).filter fun r=>cmpR (f r) k==0).length)=fun k=>(if cmpR (f r) k==0 then 1 else 0)+(R.filter fun r=>cmpR (f r) k==0).length:=by
    funext k
    rw [List.filter_cons]
    split
    ·rw [List.length_cons];omega
    ·omega
   rw [e,sum_add,ih,ind_sum hn (h r (by simp)),List.length_cons]
   omega
def ke (key:Ex) (R:List Row) (n:Nat):Nat:=(((kys key R).take n).map (cntG key R)).sum
theorem sumTo_succ {key:Ex} {R:List Row} {n:Nat} (h:n<(kys key R).length):ke key R (n+1)=ke key R n+cntG key R ((kys key R).getD n default):=by
 unfold ke
 rw [zz _ _ h,List.map_append,List.sum_append]
 simp
theorem sumTo_all (key:Ex) (R:List Row):ke key R (kys key R).length=R.length:=by
 unfold ke
 rw [List.take_length]
 exact sum_cnt (fun r=>[y9 r key]) (distM_nodup _) R fun r hr=>((xt _).2 _).2 (List.mem_map_of_mem hr)
theorem sumTo_le (key:Ex) (R:List Row) (n:Nat):ke key R n<=R.length:=by
 have h:=sumTo_all key R
 unfold ke at h ⊢
 rw [List.take_length] at h
 have h2:=congrArg (fun l=>(l.map (cntG key R)).sum) (List.take_append_drop n (kys key R))
 simp only [List.map_append,List.sum_append] at h2
 omega
end
section
open Go.Am
attribute [local simp, local push_cast] num boo str ints aV aTab zx aS aT aC aRow rRow rTab vT zY yg
theorem constM_kids (v:Val) (t:Int):(qv v t).kids=[]:=by
 unfold qv
 repeat' split
 all_goals rfl
theorem ok_nil {e:Ex} (h:e.kids=[]):Ok12 e:=⟨_,by rw [h];simp,fun k hk=>by rw [h] at hk;cases hk⟩
theorem pickE_ok (xs types:List Int) (k:Int) (p:Nat):Ok12 (wv xs types k p).1:=by
 unfold wv
 split
 ·exact ok_nil rfl
 ·exact ok_nil (constM_kids _ _)
theorem bin_ok {op:Int} {l:List Ex} (h:l.length<=12) (hk: ∀k∈l,Ok12 k):Ok12 (bin op l):=⟨_,h,hk⟩
theorem moreM_ok {f:Int->Nat->Ex×Nat} (hf: ∀k q,Ok12 (f k q).1) (x:Int) (p:Nat): ∀m,∀e∈(yx f x p m).1,Ok12 e
 | 0=>by simp [yx]
 | m+1=>by
   intro e he
   simp only [yx,List.mem_append,List.mem_singleton] at he
   rcases he with he | rfl
   ·exact moreM_ok hf x p m e he
   ·exact hf _ _
theorem stepM_ok {xs types:List Int} {f:Int->Nat->Ex×Nat} (hf: ∀k q,Ok12 (f k q).1) (k:Int) (p:Nat):Ok12 (ye xs types f k p).1:=by
 have h1: ∀op x q,Ok12 (mkE op (oneM f x q)).1:=fun op x q=>bin_ok (by simp [oneM]) (by simp [oneM,hf])
 have h2: ∀op x q,Ok12 (mkE op (twoM f x q)).1:=fun op x q=>bin_ok (by simp [twoM]) (by simp [twoM,hf])
 have h3: ∀op x q,Ok12 (mkE op (yd f x q)).1:=fun op x q=>bin_ok (by simp [yd]) (by simp [yd,hf])
 have h4: ∀op x q,Ok12 (mkE op (inE xs f x q)).1:=fun op x q=>by
  have a3:=zw xs (twoM f x q).2 (n:=3) (by omega)
  refine bin_ok ?_ ?_
  ·simp only [inE,List.length_append,moreM_len]
   have:(twoM f x q).1.length=2:=rfl
   omega
  ·intro e he
   simp only [inE,List.mem_append] at he
   rcases he with he | he
   ·simp [twoM] at he;rcases he with rfl | rfl<;>exact hf _ _
   ·exact moreM_ok hf _ _ _ e he
 unfold ye jY
 repeat' split
 all_goals first | exact pickE_ok _ _ _ _ | exact h1 _ _ _ | exact h2 _ _ _ | exact h3 _ _ _ | exact h4 _ _ _
theorem exprM_ok (xs types:List Int): ∀(d:Nat) (k:Int) (p:Nat),Ok12 (xe xs types d k p).1
 | 0,k,p=>pickE_ok ..
 | 1,k,p=>pickE_ok ..
 | d+2,k,p=>stepM_ok (exprM_ok xs types (d+1)) k p
theorem forM_ok (xs:List Int) (i:Nat): ∀(n k:Nat) (cols:List Col) (fs:List Fk) (q:Nat),(∀f∈fs,f.columns.length=1)→
 (forM xs i n k cols fs q).1.length<=cols.length+n/\(forM xs i n k cols fs q).2.1.length<=fs.length+n/\ ∀f∈(forM xs i n k cols fs q).2.1,f.columns.length=1
 | 0,_,cols,fs,q,h=>⟨by simp [forM],by simp [forM],by simpa [forM] using h⟩
 | n+1,k,cols,fs,q,h=>by
   simp only [forM]
   split
   ·exact ⟨by simp,by simp,h⟩
   ·split
    ·obtain ⟨a,b,c⟩:=forM_ok xs i n (k+1) (cols++[fcol xs k q]) (fs++[ffk xs i cols q]) (q+3) (by
      intro f hf
      rcases List.mem_append.1 hf with hf | hf
      ·exact h f hf
      ·rw [List.mem_singleton.1 hf];rfl)
     simp only [List.length_append,List.length_singleton] at a b
     exact ⟨by omega,by omega,c⟩
    ·exact ⟨by simp,by simp,h⟩
theorem tblM_ok (xs:List Int) (i p:Nat):SmallT (tblM xs i p).1:=by
 have h3:=zw xs p (n:=3) (by omega)
 obtain ⟨a,b,c⟩:=forM_ok xs i 2 0 (vH xs (p+1) (1+drawn xs p 3).toNat) [] (p+1+2 * (1+drawn xs p 3).toNat) (by simp)
 rw [mcols_len] at a
 simp only [List.length_nil] at b
 unfold tblM
 generalize forM xs i 2 0 (vH xs (p+1) (1+drawn xs p 3).toNat) [] (p+1+2 * (1+drawn xs p 3).toNat)=f at a b c ⊢
 simp only [xh]
 refine ⟨by simp only;omega,by simp,?_,?_,by simp only;omega,fun f hf=>by rw [c f hf];omega,?_,?_⟩
 ·simp only [uniM];split<;>simp
 ·simp only [uniM];split<;>simp
 ·simp only [chkM];split<;>simp
 ·simp only [chkM];split
  ·intro e he
   rw [List.mem_singleton.1 he]
   exact exprM_ok ..
  ·simp
theorem schemaM_ok (xs:List Int) (p:Nat):SmallS (xw xs p).1/\1<=(xw xs p).1.length:=by
 have h3:=zw xs p (n:=3) (by omega)
 have hl:(xw xs p).1.length=(1+drawn xs p 3).toNat:=mtabs_len ..
 refine ⟨⟨by omega,?_⟩,by omega⟩
 have key: ∀n,∀t∈(x3 xs p n).1,SmallT t:=by
  intro n
  induction n with
  | zero=>simp [x3]
  | succ n ih=>
    intro t ht
    simp only [x3,List.mem_append,List.mem_singleton] at ht
    rcases ht with ht | rfl
    ·exact ih t ht
    ·exact tblM_ok ..
 exact key _
def TypedC (cs:List Col):Prop:=1<=cs.length/\ ∀c∈cs,c.type=1\/c.type=2\/c.type=3
theorem mcols_typed (xs:List Int) (p c:Nat):TypedC (vH xs p c):=by
 refine ⟨by rw [mcols_len];omega,fun x hx=>?_⟩
 simp only [vH,List.mem_cons,List.mem_map] at hx
 rcases hx with rfl | ⟨a,_,rfl⟩
 ·exact .inl rfl
 ·have:=zw xs (p+2 * a) (n:=3) (by omega)
  simp only [mcol]
  omega
theorem TypedC.snoc {cs:List Col} (h:TypedC cs) {c:Col} (hc:c.type=1\/c.type=2\/c.type=3):TypedC (cs++[c]):=
 ⟨by rw [List.length_append];have:=h.1;omega,fun x hx=>(List.mem_append.1 hx).elim (h.2 x) fun q=>by rw [List.mem_singleton.1 q];exact hc⟩
theorem forM_typed (xs:List Int) (i:Nat): ∀(n k:Nat) (cols:List Col) (fs:List Fk) (q:Nat),TypedC cols->TypedC (forM xs i n k cols fs q).1
 | 0,_,_,_,_,h=>h
 | n+1,k,cols,fs,q,h=>by
   simp only [forM]
   split
   ·exact h
   ·split
    ·exact forM_typed xs i n (k+1) _ _ _ (h.snoc (.inl rfl))
    ·exact h
theorem schemaM_typed (xs:List Int) (p:Nat): ∀T∈(xw xs p).1,1≤T.columns.length∧ ∀c∈T.columns,c.type=1∨c.type=2∨c.type=3:=by
 have key: ∀n,∀t∈(x3 xs p n).1,TypedC t.columns:=by
  intro n
  induction n with
  | zero=>simp [x3]
  | succ n ih=>
    intro t ht
    simp only [x3,List.mem_append,List.mem_singleton] at ht
    rcases ht with ht | rfl
    ·exact ih t ht
    ·simp only [tblM,xh]
     exact forM_typed _ _ _ _ _ _ _ (mcols_typed ..)
 exact key _
theorem schemaM_q (xs:List Int):(xw xs 0).2<=1000000:=by
 have h3:=zw xs 0 (n:=3) (by omega)
 have:=mtabs_q xs 0 (1+drawn xs 0 3).toNat
 unfold xw
 omega
theorem instM_small (xs:List Int) {most:Int} (hm:0≤most) (hm2:most≤100) {s:Sch} (hS:SmallS s) (p:Nat):SmallI (qV xs most s p).1:=by
 have hl:=hS.len
 have key: ∀i,i<=s.length-> ∀t∈(yb xs most s p i).1,t.length<=1000/\ ∀r∈t,r.length<=1000:=by
  intro i
  induction i with
  | zero=>simp [yb]
  | succ i ih=>
    intro hi t ht
    simp only [yb,List.mem_append,List.mem_singleton] at ht
    rcases ht with ht | rfl
    ·exact ih (by omega) t ht
    ·have hd:=zw xs (yb xs most s p i).2 (n:=most+1) (by omega)
     refine ⟨by rw [tabI_len];omega,fun r hr=>?_⟩
     simp only [tabI,List.mem_map] at hr
     obtain ⟨k,_,rfl⟩:=hr
     rw [rowI_len]
     exact (hS.tab _ (zk (by omega))).cols
 exact ⟨by rw [qV,jK];omega,fun t ht=>(key _ (Nat.le_refl _) t ht).1,fun t ht=>(key _ (Nat.le_refl _) t ht).2⟩
end
end Go.Proofs.YtnmibokjpedkiaaGreatDoor
