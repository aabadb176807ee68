/- Joins of two tables: a proof over an abstract machine of our own (part Wn) -/
import Derived.Test.YtnmibokjpedkiaaGreatDoorWm
import Derived.Test.YtnmibokjpedkiaaGreatDoorWl
set_option maxRecDepth 100000
set_option maxHeartbeats 4000000
set_option linter.all false
namespace Go.Proofs.YtnmibokjpedkiaaGreatDoor
section
open Go.Am
attribute [local simp, local push_cast] num boo str ints aV aTab zv aS aT aC yi
def w8 (k:Int):Int:=if (4:Int)<(y8 k).length then 4 else (y8 k).length
def smallM (xs:List Int) (k:Int) (nl:Bool) (p:Nat):Val:=
 if nl=true then (y8 k).getD (drawn xs p (w8 k)).toNat default else (y8 k).getD (1+drawn xs p (w8 k-1)).toNat default
theorem nSmall_le {k:Int} (hk:k=1\/k=2\/k=3):3<=w8 k/\w8 k<=4/\w8 k<=(y8 k).length:=by
 have:=mvalsM_len hk
 unfold w8
 split<;>omega
theorem c_msmall {xs:List Int} {k:Int} {nl:Bool} {p:Nat} (hx:ub xs) (hk:k=1\/k=2\/k=3) (hp:p<=4000000000000000000):
 ACall Tryz.prog 29 [.ptr 1000 0,num k,boo nl] [(1000,yi xs p)] (aV (smallM xs k nl p)) [(1000,yi xs (p+1))]:=by
 refine zn mixed ttok Tryz.func29 Tryz.ntmps29 Tryz.results29 ?_
 generalize hr:aV (smallM xs k nl p)=R
 simp -implicitDefEqProofs only [argT,↓zb,push_cast,simprocAttr,tte]
 refine ze [[]] [] (c_mvalues k) ?_
 have hl:=nSmall_le hk
 simp -implicitDefEqProofs only [↓zb,push_cast,simprocAttr,tte]
 rw [show (if (4:Int)<(y8 k).length then (4:Int) else (y8 k).length)=w8 k from rfl]
 refine za (fun h=>?_) fun h=>?_
 ·refine ze [[],[]] [(1000,1000)] (zX (n:=w8 k) (p:=p) hx (by omega) (by omega) hp) ?_
  have hd:=zz xs p (n:=w8 k) (by omega)
  simp -implicitDefEqProofs only [↓zb,push_cast,simprocAttr,tte]
  refine ⟨by omega,?_⟩
  refine zu [0,0,0] rfl (by simp) (by simp [zc]<;>omega) ?_ (by first | rfl | simp [ends] | (subst_vars;simp [ends])) (by simp [ends]) (by simp [ends])
  rw [<-hr,smallM,if_pos h];rfl
 ·have e1:IntKind.i64.wrap (w8 k-1)=w8 k-1:=zw (by omega) (by omega)
  simp only [e1]
  refine ze [[],[]] [(1000,1000)] (zX (n:=w8 k-1) (p:=p) hx (by omega) (by omega) hp) ?_
  have hd:=zz xs p (n:=w8 k-1) (by omega)
  have e2:IntKind.i64.wrap (1+drawn xs p (w8 k-1))=1+drawn xs p (w8 k-1):=zw (by omega) (by omega)
  simp -implicitDefEqProofs only [↓zb,push_cast,simprocAttr,tte,e2]
  refine ⟨by omega,?_⟩
  refine zu [0,0,0] rfl (by simp) (by simp [zc]<;>omega) ?_ (by first | rfl | simp [ends] | (subst_vars;simp [ends])) (by simp [ends]) (by simp [ends])
  rw [<-hr,smallM,if_neg (by rw [h];decide)];rfl
end
section
open Go.Am
attribute [local simp, local push_cast] num boo str ints aV aTab zv aS aT aC aRow rRow rTab rC vT yi
def rowS (xs:List Int) (cols:List Col) (p j:Nat):List Val:=(List.range j).map fun j=>smallM xs (cols.getD j default).type true (p+j)
def rowI (xs:List Int) (cols:List Col) (p k:Nat):Row:=if 0<drawn xs (p+cols.length) 8 then (rowS xs cols p cols.length).set 0 ⟨1,k+1,ByteArray.empty⟩ else rowS xs cols p cols.length
def tabI (xs:List Int) (cols:List Col) (p n:Nat):Tab2:=(List.range n).map fun k=>rowI xs cols (p+k * (cols.length+1)) k
def zZ (xs:List Int) (most:Int) (s:Sch) (p:Nat):Nat->Inst×Nat
 | 0=>([],p)
 | i+1=>((zZ xs most s p i).1++[tabI xs (s.getD i default).columns ((zZ xs most s p i).2+1) (drawn xs (zZ xs most s p i).2 (most+1)).toNat],
    (zZ xs most s p i).2+1+(drawn xs (zZ xs most s p i).2 (most+1)).toNat * ((s.getD i default).columns.length+1))
def gd (xs:List Int) (most:Int) (s:Sch) (p:Nat):Inst×Nat:=zZ xs most s p s.length
theorem rowS_succ (xs:List Int) (cols:List Col) (p j:Nat):rowS xs cols p (j+1)=rowS xs cols p j++[smallM xs (cols.getD j default).type true (p+j)]:=by simp [rowS,List.range_succ]
theorem ke (xs:List Int) (cols:List Col) (p j:Nat):(rowS xs cols p j).length=j:=by simp [rowS]
theorem rowI_len (xs:List Int) (cols:List Col) (p k:Nat):(rowI xs cols p k).length=cols.length:=by
 unfold rowI;split
 ·rw [List.length_set,ke]
 ·exact ke ..
theorem tabI_succ (xs:List Int) (cols:List Col) (p n:Nat):tabI xs cols p (n+1)=tabI xs cols p n++[rowI xs cols (p+n * (cols.length+1)) n]:=by simp [tabI,List.range_succ]
theorem tabI_len (xs:List Int) (cols:List Col) (p n:Nat):(tabI xs cols p n).length=n:=by simp [tabI]
theorem jH (xs:List Int) (most:Int) (s:Sch) (p:Nat): ∀i,(zZ xs most s p i).1.length=i
 | 0=>rfl
 | i+1=>by rw [zZ,List.length_append,jH xs most s p i];rfl
theorem instTo_q (xs:List Int) {most:Int} (hm:0<=most) (hm2:most<=100) {s:Sch} (hc: ∀T∈s,T.columns.length<=1000) (p:Nat): ∀i,i<=s.length->(zZ xs most s p i).2<=p+200000 * i
 | 0,_=>by simp [zZ]
 | i+1,h=>by
   have ih:=instTo_q xs hm hm2 hc p i (by omega)
   have hd:=zz xs (zZ xs most s p i).2 (n:=most+1) (by omega)
   have hcl:=hc _ (zk (show i<s.length by omega))
   have:(drawn xs (zZ xs most s p i).2 (most+1)).toNat * ((s.getD i default).columns.length+1)<=100 * 1001:=Nat.mul_le_mul (by omega) (by omega)
   rw [zZ]
   simp only
   omega
def tabC (t:Tab2):A:= .d (.sl 1 (zd rRow t))
theorem get_at {D E:List A} {a:A} {i:Nat} (h:D.length=i):(D++a::E)[i]? =some a:=by subst h;simp
theorem take_at {D E:List A} {a:A} {i:Nat} (h:D.length=i):(D++a::E).take i=D:=by subst h;simp
theorem drop_at {D E:List A} {a:A} {i:Nat} (h:D.length=i):(D++a::E).drop (i+1)=E:=by subst h;simp
theorem set_at {D E:List A} {a b:A} {i:Nat} (h:D.length=i):(D++a::E).set i b=D++b::E:=by subst h;simp
theorem xU {dom:Nat->Bool}: ∀(D E:List A),closedL dom (D++E)=(closedL dom D&&closedL dom E)
 | [],E=>by simp [closedL]
 | a::D,E=>by simp [closedL,xU D E,Bool.and_assoc]
theorem gt {dom:Nat->Bool}: ∀(ts:Inst),closedL dom (ts.map tabC)=true
 | []=>rfl
 | t::ts=>by rw [List.map_cons,closedL,gt ts];rfl
theorem jP {dom:Nat->Bool}: ∀(n:Nat),closedL dom (List.replicate n .snil)=true
 | 0=>rfl
 | n+1=>by rw [List.replicate_succ,closedL,jP n];rfl
theorem set_row (row:List Val) (v:Val) (h:1<=row.length):(zd rV row).set 0 (.lit (.int .i64 v.kind):: .lit (.int .i64 v.num):: .lit (.string v.text)::List.drop 3 ((zd rV row).getD 0 []))=zd rV (row.set 0 v):=by
 cases row with
 | nil=>simp at h
 | cons x l=>simp [zd,rV]
def tI (most:Int):List (Nat×A):=[(0,.ptr 1000 0),(2,num most),(4,.ptr 4 0),(6,.ptr 6 0),(7,.ptr 7 0)]
def oI (xs:List Int) (s:Sch) (cs:List A) (q:Nat):List (Nat×Ob):=[(4,vS s),(6,.var [.snil]),(7,.var [.vs 16 s.length]),(16,.var cs),(1000,yi xs q)]
def S4 (xs:List Int) (most:Int) (s:Sch) (cs:List A) (q i:Nat):SL:=⟨(8,.d (.lit (.int .i64 i)))::tI most,oI xs s cs q⟩
def R4 (xs:List Int) (most:Int) (s:Sch) (D E:List A) (i n:Nat) (rows:Tab2) (q k:Nat):SL:=
 ⟨(10,.d (.lit (.int .i64 k)))::(9,.d (.lit (.int .i64 n)))::(8,.d (.lit (.int .i64 i)))::tI most,(600,.vec 53 1 (zd rRow rows) 0)::oI xs s (D++ .vec 600 k::E) q⟩
def C4 (xs:List Int) (most:Int) (s:Sch) (D E:List A) (i n:Nat) (rows:Tab2) (q k:Nat) (row:List Val) (j:Nat):SL:=
 ⟨(12,.d (.lit (.int .i64 j)))::(11,.vec 601 j)::(10,.d (.lit (.int .i64 k)))::(9,.d (.lit (.int .i64 n)))::(8,.d (.lit (.int .i64 i)))::tI most,
  (601,.vec 71 3 (zd rV row) 0)::(600,.vec 53 1 (zd rRow rows) 0)::oI xs s (D++ .vec 600 k::E) q⟩
theorem c_minst {xs:List Int} {s:Sch} {p:Nat} {most:Int} (hx:ub xs) (hm:0<=most) (hm2:most<=100) (hS:SmallS s) (hT: ∀T∈s,1<=T.columns.length/\ ∀c∈T.columns,c.type=1\/c.type=2\/c.type=3) (hp:p<=1000000000):
 ACall Tryz.prog 10 [.ptr 1000 0,aS s,num most] [(1000,yi xs p)] (zv (gd xs most s p).1) [(1000,yi xs (gd xs most s p).2)]:=by
 refine zn mixed ttok Tryz.func10 Tryz.ntmps10 Tryz.results10 ?_
 have hsl:=hS.len
 have hcl: ∀T∈s,T.columns.length<=1000:=fun T h=>(hS.tab T h).cols
 simp -implicitDefEqProofs only [argT,↓zb,push_cast,simprocAttr,tte]
 refine ⟨by omega,?_⟩
 refine zI mixed ttok (fun i:Nat=>S4 xs most s ((zZ xs most s p i).1.map tabC++List.replicate (s.length-i) .snil) (zZ xs most s p i).2 i) (fun i=>s.length-i) (fun i=>i<=s.length) 0 (Nat.zero_le _) ?_ ?_
 ·exact Weak.keepL (by simp [S4,tI,oI,ends]) (by simp [S4,oI,vS,zZ,jP,ends]) (by simp [S4,oI,ends])
 intro I hI i hi
 simp -implicitDefEqProofs only [S4,tI,oI,vS,↓zb,push_cast,simprocAttr,tte]
 refine za (fun h=>?_) fun h=>?_
 rotate_left
 ·have hii:i=s.length:=by have:=of_decide_eq_false h;omega
  subst hii
  have hM:gd xs most s p=zZ xs most s p s.length:=rfl
  rw [Nat.sub_self,List.replicate_zero,List.append_nil,hM]
  have hrl:=jH xs most s p s.length
  generalize zZ xs most s p s.length=r at hrl
  refine ret_vs1 (q:=16) (n:=s.length) (xs:=r.1.map fun t=> .sl 1 (zd rRow t)) trivial ?_ rfl ?_ ?_ ?_ ?_
  ·simp only [lookO]
   rw [List.map_map];rfl
  ·rw [List.length_map,hrl]
  ·simp [zd,rTab]
  ·simp [ends]
  ·simp [ends]
 have h':i<s.length:=by have:=of_decide_eq_true h;omega
 have hw:=zj h' (by omega)
 have hlen:=jH xs most s p i
 have hq:=instTo_q xs hm hm2 hcl p i hi
 have hd:=zz xs (zZ xs most s p i).2 (n:=most+1) (by omega)
 have wm:IntKind.i64.wrap (most+1)=most+1:=zw (by omega) (by omega)
 simp only [wm]
 refine ze [[],[]] [(1000,1000)] (zX (n:=most+1) (p:=(zZ xs most s p i).2) hx (by omega) (by omega) (by omega)) ?_
 simp -implicitDefEqProofs only [↓zb,push_cast,simprocAttr,tte]
 have hTm:=zk h'
 obtain ⟨hc1,hc2⟩:=hT _ hTm
 have hcl1:=hcl _ hTm
 have hD:((zZ xs most s p i).1.map tabC).length=i:=by rw [List.length_map,hlen]
 have hcs:(zZ xs most s p i).1.map tabC++List.replicate (s.length-i) A.snil=(zZ xs most s p i).1.map tabC++ .snil::List.replicate (s.length-(i+1)) .snil:=by
  rw [show s.length-i=(s.length-(i+1))+1 by omega,List.replicate_succ]
 have hnext:zZ xs most s p (i+1)=((zZ xs most s p i).1++[tabI xs (s.getD i default).columns ((zZ xs most s p i).2+1) (drawn xs (zZ xs most s p i).2 (most+1)).toNat],
  (zZ xs most s p i).2+1+(drawn xs (zZ xs most s p i).2 (most+1)).toNat * ((s.getD i default).columns.length+1)):=rfl
 rw [hcs]
 obtain ⟨n,hn⟩: ∃n:Nat,drawn xs (zZ xs most s p i).2 (most+1)=n:=⟨(drawn xs (zZ xs most s p i).2 (most+1)).toNat,by omega⟩
 rw [hn,Int.toNat_natCast] at hnext
 rw [hn] at hd ⊢
 have hcD: ∀dom:Nat->Bool,closedL dom ((zZ xs most s p i).1.map tabC)=true:=fun _=>gt _
 have hcE: ∀dom:Nat->Bool,closedL dom (List.replicate (s.length-(i+1)) A.snil)=true:=fun _=>jP _
 have hEq:List.replicate (s.length-(i+1)) A.snil=List.replicate (s.length-(i+1)) A.snil:=rfl
 generalize hDD:(zZ xs most s p i).1.map tabC=D at hD hcD ⊢
 generalize hEE:List.replicate (s.length-(i+1)) A.snil=E at hcE ⊢
 generalize (zZ xs most s p i).2=q at hq hnext ⊢
 generalize hTT:s.getD i default=T at hnext hTm hc1 hc2 hcl1
 refine zI mixed ttok (fun k:Nat=>R4 xs most s D E i n (tabI xs T.columns (q+1) k) (q+1+k * (T.columns.length+1)) k) (fun k=>n-k) (fun k=>k<=n) 0 (Nat.zero_le _) ?_ ?_
 ·refine (Weak.nilCellL 16 i 600 53 1 rfl (get_at hD) rfl).trans ?_
  rw [set_at hD]
  exact Weak.keepL (by simp [R4,tI,oI,ends]) (by simp [R4,oI,vS,tabI,zd,xU,hcD,hcE,ends]) (by simp [R4,oI,ends])
 intro J hJ k hk
 simp -implicitDefEqProofs only [R4,tI,oI,vS,↓zb,push_cast,simprocAttr,tte]
 refine za (fun g=>?_) fun g=>?_
 rotate_left
 ·have hkk:k=n:=by have:=of_decide_eq_false g;omega
  subst hkk
  have hfin:(zZ xs most s p (i+1)).1.map tabC++List.replicate (s.length-(i+1)) A.snil=D++tabC (tabI xs T.columns (q+1) k)::E:=by rw [hnext,hEE];simp [hDD]
  have hq2:(zZ xs most s p (i+1)).2=q+1+k * (T.columns.length+1):=by rw [hnext]
  refine zm hI (i+1) h' (by show s.length-(i+1)<s.length-i;omega) ?_
  refine (Weak.frzCellL 16 i 1 rfl (get_at hD) rfl (by simp [zc,tabI_len]) rfl).trans ?_
  rw [set_at hD,hfin,hq2]
  exact Weak.keepL (by simp [S4,tI,oI,hw,ends]) (by simp [S4,oI,vS,tabC,xU,hcD,hcE,closedL,ends]) (by simp [S4,oI,ends])
 have g':k<n:=by have:=of_decide_eq_true g;omega
 have hwk:=zj g' (by omega)
 have hkm:k * (T.columns.length+1)<=100 * 1001:=Nat.mul_le_mul (by omega) (by omega)
 have hts:=tabI_succ xs T.columns (q+1) k
 generalize hP:q+1+k * (T.columns.length+1)=P at hts ⊢
 have hPb:P<=100000000000:=by omega
 generalize hrows:tabI xs T.columns (q+1) k=rows at hts ⊢
 have hrl:rows.length=k:=by rw [<-hrows,tabI_len]
 refine zI mixed ttok (fun j:Nat=>C4 xs most s D E i n rows (P+j) k (rowS xs T.columns P j) j) (fun j=>T.columns.length-j) (fun j=>j<=T.columns.length) 0 (Nat.zero_le _) ?_ ?_
 ·refine (Weak.nilL 11 601 71 3 rfl rfl).trans ?_
  exact Weak.keepL (by simp [C4,tI,oI,ends]) (by simp [C4,oI,vS,rowS,zd,xU,closedL,hcD,hcE,ends]) (by simp [C4,oI,ends])
 intro M hM j hj
 simp -implicitDefEqProofs only [C4,tI,oI,vS,↓zb,push_cast,simprocAttr,tte]
 refine ⟨(by first | omega | trivial | (refine ⟨?_,?_⟩<;>first | omega | trivial | (refine ⟨?_,?_⟩<;>first | omega | trivial | (refine ⟨?_,?_⟩<;>first | omega | trivial | rfl)))),?_⟩
 rw [hTT]
 refine za (fun g2=>?_) fun g2=>?_
 ·have g2':j<T.columns.length:=by have:=of_decide_eq_true g2;omega
  have hwj:=zj g2' (by omega)
  have hrs:=rowS_succ xs T.columns P j
  refine ⟨(by first | omega | trivial | (refine ⟨?_,?_⟩<;>first | omega | trivial | (refine ⟨?_,?_⟩<;>first | omega | trivial | (refine ⟨?_,?_⟩<;>first | omega | trivial | rfl)))),(by first | omega | trivial | (refine ⟨?_,?_⟩<;>first | omega | trivial | (refine ⟨?_,?_⟩<;>first | omega | trivial | (refine ⟨?_,?_⟩<;>first | omega | trivial | rfl)))),?_⟩
  have hk1:=hc2 _ (zk g2')
  refine ze [[],[],[]] [(1000,1000)] (c_msmall (k:=(T.columns.getD j default).type) (nl:=true) (p:=P+j) hx hk1 (by omega)) ?_
  simp -implicitDefEqProofs only [↓zb,push_cast,simprocAttr,tte]
  refine ⟨by rw [ke];omega,?_⟩
  exact zm hM (j+1) g2' (by show T.columns.length-(j+1)<T.columns.length-j;omega) (Weak.keepL (by simp [C4,tI,oI,hwj,ke,ends]) (by simp [C4,oI,vS,hrs,zd,xU,closedL,hcD,hcE,Nat.add_assoc,ends]) (by simp [C4,oI,ends]))
 have hjj:j=T.columns.length:=by have:=of_decide_eq_false g2;omega
 subst hjj
 have hrl2:=ke xs T.columns P T.columns.length
 refine ze [[],[]] [(1000,1000)] (zX (n:=8) (p:=P+T.columns.length) hx (by omega) (by omega) (by omega)) ?_
 have h8:=zz xs (P+T.columns.length) (n:=8) (by omega)
 simp -implicitDefEqProofs only [get_at hD,take_at hD,drop_at hD,set_at hD,↓zb,push_cast,simprocAttr,tte]
 have hPn:q+1+(k+1) * (T.columns.length+1)=P+T.columns.length+1:=by rw [Nat.succ_mul];omega
 have hDl:i+1<=(D++A.vec 600 k::E).length:=by simp [hD]
 refine za (fun g8=>?_) fun g8=>?_
 ·have hrI:rowI xs T.columns P k=(rowS xs T.columns P T.columns.length).set 0 ⟨1,k+1,ByteArray.empty⟩:=by rw [rowI,if_pos (of_decide_eq_true g8)]
  have hset:=set_row (rowS xs T.columns P T.columns.length) ⟨1,k+1,ByteArray.empty⟩ (by omega)
  have hk1:IntKind.i64.wrap ((k:Int)+1)=(k:Int)+1:=zw (by omega) (by omega)
  simp only at hset
  rw [hk1,hset]
  refine ⟨⟨by omega,hrl2.symm⟩,⟨hrl2.symm,by omega⟩,⟨by omega,by omega⟩,by rw [zc,List.length_set,hrl2],⟨hrl.symm,by omega⟩,⟨by omega,by omega⟩,hDl,zf (by kernel_rfl),?_⟩
  exact zm hJ (k+1) g' (by show n-(k+1)<n-k;omega) (Weak.keepL (by simp [R4,tI,oI,hrl,ends]) (by simp [R4,oI,vS,hts,hrI,hPn,hrl,zd,xU,closedL,hcD,hcE,ends]) (by simp [R4,oI,ends]))
 ·have hrI:rowI xs T.columns P k=rowS xs T.columns P T.columns.length:=by rw [rowI,if_neg (of_decide_eq_false g8)]
  refine ⟨⟨by omega,by omega⟩,by rw [hrl2],⟨hrl.symm,by omega⟩,⟨by omega,by omega⟩,hDl,zf (by kernel_rfl),?_⟩
  exact zm hJ (k+1) g' (by show n-(k+1)<n-k;omega) (Weak.keepL (by simp [R4,tI,oI,hwk,hrl,ends]) (by simp [R4,oI,vS,hts,hrI,hPn,hrl,zd,xU,closedL,hcD,hcE,ends]) (by simp [R4,oI,ends]))
end
section
open Go.Am
attribute [local simp, local push_cast] num boo str ints aV aTab zv aS aT aC
structure Made (ts:List Int) (d:Nat) (t:Int) (e:Ex):Prop where
 typ:typG (ownM ts) e=(t,0)
 dep:0<=xA e/\xA e<=d
 size:0<=wD e/\3 * wD e+1<=((4 ^ d:Nat):Int)
 okx:OkX e
 ok12:Ok12 e
structure MadeL (ts:List Int) (d:Nat) (l:List Int) (ks:List Ex):Prop where
 typ:ks.map (typG (ownM ts))=l.map fun u=>(u,(0:Int))
 dep: ∀k∈ks,(0<=xA k/\xA k<=d)/\0<=wD k/\3 * wD k+1<=((4 ^ d:Nat):Int)
 okx: ∀k∈ks,OkX k/\Ok12 k
theorem MadeL.len {ts:List Int} {d:Nat} {l:List Int} {ks:List Ex} (h:MadeL ts d l ks):ks.length=l.length:=by have:=congrArg List.length h.typ;simpa using this
theorem MadeL.nil {ts:List Int} {d:Nat}:MadeL ts d [] []:=⟨rfl,fun k h=>absurd h (by simp),fun k h=>absurd h (by simp)⟩
theorem MadeL.cons {ts:List Int} {d:Nat} {t:Int} {l:List Int} {e:Ex} {ks:List Ex} (h:Made ts d t e) (h2:MadeL ts d l ks):MadeL ts d (t::l) (e::ks):=
 ⟨by rw [List.map_cons,List.map_cons,h.typ,h2.typ],fun k hk=>by
  rcases List.mem_cons.1 hk with rfl | hk
  ·exact ⟨h.dep,h.size⟩
  ·exact h2.dep k hk,fun k hk=>by
  rcases List.mem_cons.1 hk with rfl | hk
  ·exact ⟨h.okx,h.ok12⟩
  ·exact h2.okx k hk⟩
theorem Made.mono {ts:List Int} {d d':Nat} {t:Int} {e:Ex} (h:Made ts d t e) (hd:d<=d'):Made ts d' t e:=by
 have hP:4 ^ d<=4 ^ d':=Nat.pow_le_pow_right (by omega) hd
 obtain ⟨h1,h2,h3,h4,h5⟩:=h
 exact ⟨h1,by omega,by omega,h4,h5⟩
section
variable {xs ts:List Int} {d:Nat} {f:Int->Nat->Ex×Nat} (hf: ∀t p,Kn t->Made ts d t (f t p).1)
include hf
end
theorem bempty:ByteArray.empty.toList=[]:=by simp [ByteArray.toList_eq]
end
section
open Go.Am
attribute [local simp, local push_cast] num boo str ints aV aTab zv aS aT aC
def zE:Ex:= .mk 0 0 0 ByteArray.empty 0 []
def xe (name:ByteArray):Qr:= .mk 1 name 0 false zE [] [] [] [] []
theorem same0_z:uK zE=true:=by simp only [uK,zE,Ex.op,Ex.type,Ex.num,Ex.text,Ex.col,Ex.kids,bempty];rfl
theorem clean_of {q:Qr} (h:u4 q=true): ¬(isFm q.op=false\/xH q (yQ q.op)=false):=by
 rw [plain_eq,Bool.and_eq_true] at h
 rw [h.1,h.2];simp
theorem scan_plain (b:ByteArray):u4 (xe b)=true:=by
 have h:uK (xe b).cond=true:=same0_z
 unfold u4
 rw [h]
 simp [xe,Qr.op,Qr.table,Qr.kind,Qr.all,Qr.exprs,Qr.aggs,Qr.types,Qr.rows]
theorem valid_byT {s:Sch} (h:xr s=0) {n:Nat} (hn:n<s.length):byT s (s.getD n default).name=n:=by
 unfold xr at h
 split at h
 ·exact absurd h (by decide)
 split at h
 ·rename_i h1;exact absurd h h1
 rename_i h1
 have h2:=ferrN_zero (by simpa using h1:ve (y5 s) s.length=0) n hn
 unfold y5 at h2
 split at h2
 ·exact absurd h2 (by decide)
 split at h2
 ·exact absurd h2 (by decide)
 rename_i h3
 have h4:=kX (fun t:Tbl=>t.name.toList==(s.getD n default).name.toList) s n hn (by simp)
 unfold byT at h3 ⊢
 unfold vH at h3
 rw [if_neg (by omega)] at h3
 omega
theorem typ_scan {s:Sch} {b:ByteArray} {n:Nat} (h:byT s b=n):typQ s (xe b)=(zD (s.getD n default),0):=by
 rw [jx]
 show qc s (xe b) []=_
 rw [qc,if_pos (show ferr Prod.snd ([]:List (List Int×Int))=0 from rfl)]
 unfold ownQ
 rw [if_neg (clean_of (scan_plain b)),if_neg (by rw [show (xe b).op=1 from rfl];decide),if_pos (show (xe b).op=1 from rfl)]
 rw [show (xe b).table=b from rfl,h,if_pos (by omega)]
 rfl
theorem size_scan (b:ByteArray):jd (xe b)=1:=by rw [sizeQ_eq];rfl
theorem depth_scan (b:ByteArray):vg (xe b)=1:=by rw [depthQ_eq];rfl
theorem ev_scan {gr:GF} {s:Sch} {i:Inst} {b:ByteArray} {n:Nat} (h:byT s b=n) (hl:(i.getD n default).length<=1000):evQ gr s i (xe b)=some (i.getD n default):=by
 rw [jJ]
 show evOp gr s i (xe b) []=_
 unfold evOp
 have ho: ∀w0 w1 k0 k1,outM gr s i (xe b) w0 w1 k0 k1=i.getD n default:=fun w0 w1 k0 k1=>by
  unfold outM
  rw [if_pos (show (xe b).op=1 from rfl),show (xe b).table=b from rfl,h]
  rfl
 rw [if_neg (fun h=>by cases h.1),ho,if_neg (by omega)]
end
section
open Go.Am
attribute [local simp, local push_cast] num boo str ints aV aTab zv aS aT aC aRow rRow rTab vT zR yi
theorem constM_kids (v:Val) (t:Int):(kD v t).kids=[]:=by
 unfold kD
 repeat' split
 all_goals rfl
theorem ok_nil {e:Ex} (h:e.kids=[]):Ok12 e:=⟨_,by rw [h];simp,fun k hk=>by rw [h] at hk;cases hk⟩
theorem pickE_ok (xs types:List Int) (k:Int) (p:Nat):Ok12 (wn xs types k p).1:=by
 unfold wn
 split
 ·exact ok_nil rfl
 ·exact ok_nil (constM_kids _ _)
theorem bin_ok {op:Int} {l:List Ex} (h:l.length<=12) (hk: ∀k∈l,Ok12 k):Ok12 (bin op l):=⟨_,h,hk⟩
theorem moreM_ok {f:Int->Nat->Ex×Nat} (hf: ∀k q,Ok12 (f k q).1) (x:Int) (p:Nat): ∀m,∀e∈(yy f x p m).1,Ok12 e
 | 0=>by simp [yy]
 | m+1=>by
   intro e he
   simp only [yy,List.mem_append,List.mem_singleton] at he
   rcases he with he | rfl
   ·exact moreM_ok hf x p m e he
   ·exact hf _ _
theorem stepM_ok {xs types:List Int} {f:Int->Nat->Ex×Nat} (hf: ∀k q,Ok12 (f k q).1) (k:Int) (p:Nat):Ok12 (yf xs types f k p).1:=by
 have h1: ∀op x q,Ok12 (mkE op (oneM f x q)).1:=fun op x q=>bin_ok (by simp [oneM]) (by simp [oneM,hf])
 have h2: ∀op x q,Ok12 (mkE op (twoM f x q)).1:=fun op x q=>bin_ok (by simp [twoM]) (by simp [twoM,hf])
 have h3: ∀op x q,Ok12 (mkE op (yc f x q)).1:=fun op x q=>bin_ok (by simp [yc]) (by simp [yc,hf])
 have h4: ∀op x q,Ok12 (mkE op (inE xs f x q)).1:=fun op x q=>by
  have a3:=zz xs (twoM f x q).2 (n:=3) (by omega)
  refine bin_ok ?_ ?_
  ·simp only [inE,List.length_append,moreM_len]
   have:(twoM f x q).1.length=2:=rfl
   omega
  ·intro e he
   simp only [inE,List.mem_append] at he
   rcases he with he | he
   ·simp [twoM] at he;rcases he with rfl | rfl<;>exact hf _ _
   ·exact moreM_ok hf _ _ _ e he
 unfold yf kI
 repeat' split
 all_goals first | exact pickE_ok _ _ _ _ | exact h1 _ _ _ | exact h2 _ _ _ | exact h3 _ _ _ | exact h4 _ _ _
theorem exprM_ok (xs types:List Int): ∀(d:Nat) (k:Int) (p:Nat),Ok12 (xn xs types d k p).1
 | 0,k,p=>pickE_ok ..
 | 1,k,p=>pickE_ok ..
 | d+2,k,p=>stepM_ok (exprM_ok xs types (d+1)) k p
theorem forM_ok (xs:List Int) (i:Nat): ∀(n k:Nat) (cols:List Col) (fs:List Fk) (q:Nat),(∀f∈fs,f.columns.length=1)→
 (forM xs i n k cols fs q).1.length<=cols.length+n/\(forM xs i n k cols fs q).2.1.length<=fs.length+n/\ ∀f∈(forM xs i n k cols fs q).2.1,f.columns.length=1
 | 0,_,cols,fs,q,h=>⟨by simp [forM],by simp [forM],by simpa [forM] using h⟩
 | n+1,k,cols,fs,q,h=>by
   simp only [forM]
   split
   ·exact ⟨by simp,by simp,h⟩
   ·split
    ·obtain ⟨a,b,c⟩:=forM_ok xs i n (k+1) (cols++[fcol xs k q]) (fs++[ffk xs i cols q]) (q+3) (by
      intro f hf
      rcases List.mem_append.1 hf with hf | hf
      ·exact h f hf
      ·rw [List.mem_singleton.1 hf];rfl)
     simp only [List.length_append,List.length_singleton] at a b
     exact ⟨by omega,by omega,c⟩
    ·exact ⟨by simp,by simp,h⟩
theorem tblM_ok (xs:List Int) (i p:Nat):SmallT (tblM xs i p).1:=by
 have h3:=zz xs p (n:=3) (by omega)
 obtain ⟨a,b,c⟩:=forM_ok xs i 2 0 (vl xs (p+1) (1+drawn xs p 3).toNat) [] (p+1+2 * (1+drawn xs p 3).toNat) (by simp)
 rw [kR] at a
 simp only [List.length_nil] at b
 unfold tblM
 generalize forM xs i 2 0 (vl xs (p+1) (1+drawn xs p 3).toNat) [] (p+1+2 * (1+drawn xs p 3).toNat)=f at a b c ⊢
 simp only [yY]
 refine ⟨by simp only;omega,by simp,?_,?_,by simp only;omega,fun f hf=>by rw [c f hf];omega,?_,?_⟩
 ·simp only [uniM];split<;>simp
 ·simp only [uniM];split<;>simp
 ·simp only [chkM];split<;>simp
 ·simp only [chkM];split
  ·intro e he
   rw [List.mem_singleton.1 he]
   exact exprM_ok ..
  ·simp
theorem schemaM_ok (xs:List Int) (p:Nat):SmallS (xl xs p).1/\1<=(xl xs p).1.length:=by
 have h3:=zz xs p (n:=3) (by omega)
 have hl:(xl xs p).1.length=(1+drawn xs p 3).toNat:=mtabs_len ..
 refine ⟨⟨by omega,?_⟩,by omega⟩
 have key: ∀n,∀t∈(yP xs p n).1,SmallT t:=by
  intro n
  induction n with
  | zero=>simp [yP]
  | succ n ih=>
    intro t ht
    simp only [yP,List.mem_append,List.mem_singleton] at ht
    rcases ht with ht | rfl
    ·exact ih t ht
    ·exact tblM_ok ..
 exact key _
def TypedC (cs:List Col):Prop:=1<=cs.length/\ ∀c∈cs,c.type=1\/c.type=2\/c.type=3
theorem mcols_typed (xs:List Int) (p c:Nat):TypedC (vl xs p c):=by
 refine ⟨by rw [kR];omega,fun x hx=>?_⟩
 simp only [vl,List.mem_cons,List.mem_map] at hx
 rcases hx with rfl | ⟨a,_,rfl⟩
 ·exact .inl rfl
 ·have:=zz xs (p+2 * a) (n:=3) (by omega)
  simp only [mcol]
  omega
theorem TypedC.snoc {cs:List Col} (h:TypedC cs) {c:Col} (hc:c.type=1\/c.type=2\/c.type=3):TypedC (cs++[c]):=
 ⟨by rw [List.length_append];have:=h.1;omega,fun x hx=>(List.mem_append.1 hx).elim (h.2 x) fun q=>by rw [List.mem_singleton.1 q];exact hc⟩
theorem forM_typed (xs:List Int) (i:Nat): ∀(n k:Nat) (cols:List Col) (fs:List Fk) (q:Nat),TypedC cols->TypedC (forM xs i n k cols fs q).1
 | 0,_,_,_,_,h=>h
 | n+1,k,cols,fs,q,h=>by
   simp only [forM]
   split
   ·exact h
   ·split
    ·exact forM_typed xs i n (k+1) _ _ _ (h.snoc (.inl rfl))
    ·exact h
theorem schemaM_typed (xs:List Int) (p:Nat): ∀T∈(xl xs p).1,1≤T.columns.length∧ ∀c∈T.columns,c.type=1∨c.type=2∨c.type=3:=by
 have key: ∀n,∀t∈(yP xs p n).1,TypedC t.columns:=by
  intro n
  induction n with
  | zero=>simp [yP]
  | succ n ih=>
    intro t ht
    simp only [yP,List.mem_append,List.mem_singleton] at ht
    rcases ht with ht | rfl
    ·exact ih t ht
    ·simp only [tblM,yY]
     exact forM_typed _ _ _ _ _ _ _ (mcols_typed ..)
 exact key _
theorem schemaM_q (xs:List Int):(xl xs 0).2<=1000000:=by
 have h3:=zz xs 0 (n:=3) (by omega)
 have:=mtabs_q xs 0 (1+drawn xs 0 3).toNat
 unfold xl
 omega
theorem instM_small (xs:List Int) {most:Int} (hm:0≤most) (hm2:most≤100) {s:Sch} (hS:SmallS s) (p:Nat):SmallI (gd xs most s p).1:=by
 have hl:=hS.len
 have key: ∀i,i<=s.length-> ∀t∈(zZ xs most s p i).1,t.length<=1000/\ ∀r∈t,r.length<=1000:=by
  intro i
  induction i with
  | zero=>simp [zZ]
  | succ i ih=>
    intro hi t ht
    simp only [zZ,List.mem_append,List.mem_singleton] at ht
    rcases ht with ht | rfl
    ·exact ih (by omega) t ht
    ·have hd:=zz xs (zZ xs most s p i).2 (n:=most+1) (by omega)
     refine ⟨by rw [tabI_len];omega,fun r hr=>?_⟩
     simp only [tabI,List.mem_map] at hr
     obtain ⟨k,_,rfl⟩:=hr
     rw [rowI_len]
     exact (hS.tab _ (zk (by omega))).cols
 exact ⟨by rw [gd,jH];omega,fun t ht=>(key _ (Nat.le_refl _) t ht).1,fun t ht=>(key _ (Nat.le_refl _) t ht).2⟩
end
section
open Go.Am
attribute [local simp, local push_cast] num boo str ints aV aTab zv aS aT aC
def cntB (k:Row) (l:List Row):Nat:=(l.filter fun x=>cmpR x k==0).length
theorem vO (k:Row) (a b:List Row):cntB k (a++b)=cntB k a+cntB k b:=by simp [cntB]
theorem vz {k:Row} {a b:List Row} (h:a.Perm b):cntB k a=cntB k b:=(h.filter _).length_eq
theorem cntB_none {k:Row} {l:List Row} (h: ∀x∈l,cmpR x k≠0):cntB k l=0:=by
 unfold cntB
 rw [List.length_eq_zero_iff,List.filter_eq_nil_iff]
 exact fun x hx=>by simpa using h x hx
theorem cntB_all {k:Row} {l:List Row} (h: ∀x∈l,x=k):cntB k l=l.length:=by
 unfold cntB
 rw [List.filter_eq_self.2 fun x hx=>by rw [h x hx,yI];rfl]
theorem pick2_min (X Y:List Row) (hX:Asc leR X) (hY:Asc leR Y):(∀y∈X,leR (yb X Y) y=true)∧ ∀y∈Y,leR (yb X Y) y=true:=by
 have self: ∀x:Row,leR x x=true:=fun x=>(uj _ _).2 (by rw [yI];omega)
 match X,Y with
 | [],[]=>simp
 | [],y::Y=>
   obtain ⟨h1,_⟩:=jw hY
   refine ⟨by simp,fun z hz=>?_⟩
   rcases List.mem_cons.1 hz with rfl | hz
   ·exact self _
   ·exact h1 z hz
 | x::X,[]=>
   obtain ⟨h1,_⟩:=jw hX
   refine ⟨fun z hz=>?_,by simp⟩
   rcases List.mem_cons.1 hz with rfl | hz
   ·exact self _
   ·exact h1 z hz
 | x::X,y::Y=>
   obtain ⟨h1,_⟩:=jw hX
   obtain ⟨h2,_⟩:=jw hY
   rw [yb]
   split
   ·rename_i hxy
    refine ⟨fun z hz=>?_,fun z hz=>?_⟩
    ·rcases List.mem_cons.1 hz with rfl | hz
     ·exact self _
     ·exact h1 z hz
    ·rcases List.mem_cons.1 hz with rfl | hz
     ·exact hxy
     ·exact ordR.trans _ _ _ hxy (h2 z hz)
   ·rename_i hxy
    have hyx:leR y x=true:=by have:=ordR.total x y;simpa [hxy] using this
    refine ⟨fun z hz=>?_,fun z hz=>?_⟩
    ·rcases List.mem_cons.1 hz with rfl | hz
     ·exact hyx
     ·exact ordR.trans _ _ _ hyx (h1 z hz)
    ·rcases List.mem_cons.1 hz with rfl | hz
     ·exact self _
     ·exact h2 z hz
theorem take_rep {r:Row} {l:List Row} {n:Nat} (hn:n<=l.length) (h: ∀y∈l.take n,y=r):l.take n=List.replicate n r:=by
 rw [List.eq_replicate_iff]
 exact ⟨by rw [List.length_take];omega,h⟩
theorem ne_of_lt {a b:Row} (h:cmpR a b<0):cmpR b a≠0:=fun e=>by
 have:=(ul b a).1 e
 subst this
 rw [yI] at h
 omega
theorem grp_all: ∀(n:Nat) (X Y:List Row),X.length+Y.length≤n→Asc leR X→Asc leR Y→
 (∀g∈grpM X Y,g.m=cntB g.row X/\g.n=cntB g.row Y)/\((grpM X Y).map (·.row)).Pairwise (fun a b=>cmpR a b<0)/\((grpM X Y).flatMap fun g=>List.replicate (g.m+g.n) g.row).Perm (X++Y)
 | 0,X,Y,h,_,_=>by
   have h1:X=[]:=List.eq_nil_of_length_eq_zero (by omega)
   have h2:Y=[]:=List.eq_nil_of_length_eq_zero (by omega)
   subst h1 h2
   rw [ge]
   exact ⟨(fun g hg=>by cases hg),List.Pairwise.nil,List.Perm.refl _⟩
 | n+1,X,Y,h,hX,hY=>by
   by_cases h0:X.length=0/\Y.length=0
   ·have h1:X=[]:=List.eq_nil_of_length_eq_zero h0.1
    have h2:Y=[]:=List.eq_nil_of_length_eq_zero h0.2
    subst h1 h2
    rw [ge]
    exact ⟨(fun g hg=>by cases hg),List.Pairwise.nil,List.Perm.refl _⟩
   ·have h3:=wG X Y h0
    have h4:=xq (yb X Y) X
    have h5:=xq (yb X Y) Y
    obtain ⟨mX,mY⟩:=pick2_min X Y hX hY
    rw [vq h0]
    generalize yb X Y=r at *
    obtain ⟨dX,tX⟩:=drop_gt X r hX mX
    obtain ⟨dY,tY⟩:=drop_gt Y r hY mY
    generalize cntR r X=a at *
    generalize cntR r Y=b at *
    have eX:X=List.replicate a r++X.drop a:=by rw [<-take_rep h4 tX,List.take_append_drop]
    have eY:Y=List.replicate b r++Y.drop b:=by rw [<-take_rep h5 tY,List.take_append_drop]
    have ih:=grp_all n (X.drop a) (Y.drop b) (by simp only [List.length_drop];omega) (List.Pairwise.sublist (List.drop_sublist _ _) hX) (List.Pairwise.sublist (List.drop_sublist _ _) hY)
    obtain ⟨i1,i2,i3⟩:=ih
    have hrow: ∀g∈grpM (X.drop a) (Y.drop b),cmpR r g.row<0:=fun g hg=>by
     rcases List.mem_append.1 (gf _ _ _ (Nat.le_refl _) g hg).1 with q | q
     ·exact dX _ q
     ·exact dY _ q
    have c1: ∀(k:Row) (l:List Row) (c:Nat),l=List.replicate c r++l.drop c->cntB k l=cntB k (List.replicate c r)+cntB k (l.drop c):=fun k l c e=>by
     have:=congrArg (cntB k) e
     rwa [vO] at this
    have c2: ∀c:Nat,cntB r (List.replicate c r)=c:=fun c=>by
     rw [cntB_all fun x hx=>List.eq_of_mem_replicate hx,List.length_replicate]
    refine ⟨fun g hg=>?_,?_,?_⟩
    ·rcases List.mem_cons.1 hg with rfl | hg
     ·have z1:cntB r (X.drop a)=0:=cntB_none fun x hx=>ne_of_lt (dX x hx)
      have z2:cntB r (Y.drop b)=0:=cntB_none fun x hx=>ne_of_lt (dY x hx)
      have e1:=c1 r X a eX
      have e2:=c1 r Y b eY
      rw [c2] at e1 e2
      exact ⟨by show a=cntB r X;omega,by show b=cntB r Y;omega⟩
     ·obtain ⟨j1,j2⟩:=i1 g hg
      have hr:=hrow g hg
      have z: ∀c:Nat,cntB g.row (List.replicate c r)=0:=fun c=>cntB_none fun x hx=>by
       rw [List.eq_of_mem_replicate hx]
       omega
      have e1:=c1 g.row X a eX
      have e2:=c1 g.row Y b eY
      rw [z] at e1 e2
      exact ⟨by omega,by omega⟩
    ·rw [List.map_cons,List.pairwise_cons]
     refine ⟨fun y hy=>?_,i2⟩
     obtain ⟨g,hg,rfl⟩:=List.mem_map.1 hy
     exact hrow g hg
    ·rw [List.flatMap_cons]
     show (List.replicate (a+b) r++_).Perm _
     rw [<-List.replicate_append_replicate]
     have p1:(List.replicate a r++List.replicate b r++(grpM (X.drop a) (Y.drop b)).flatMap fun g=>List.replicate (g.m+g.n) g.row).Perm (List.replicate a r++List.replicate b r++(X.drop a++Y.drop b)):=List.Perm.append_left _ i3
     refine p1.trans ?_
     have p2:(List.replicate a r++List.replicate b r++(X.drop a++Y.drop b)).Perm (List.replicate a r++X.drop a++(List.replicate b r++Y.drop b)):=by
      rw [List.append_assoc,List.append_assoc]
      refine List.Perm.append_left _ ?_
      rw [<-List.append_assoc,<-List.append_assoc]
      exact List.Perm.append_right _ List.perm_append_comm
     rw [<-eX,<-eY] at p2
     exact p2
theorem asc_flat {f:Grp→Nat}: ∀{G:List Grp},(G.map (·.row)).Pairwise (fun a b=>cmpR a b<0)→Asc leR (G.flatMap fun g=>List.replicate (f g) g.row)
 | [],_=>List.Pairwise.nil
 | g::G,h=>by
   rw [List.map_cons,List.pairwise_cons] at h
   rw [List.flatMap_cons]
   refine List.pairwise_append.2 ⟨?_,asc_flat h.2,fun x hx y hy=>?_⟩
   ·exact List.pairwise_of_forall_mem_list fun x hx y hy=>by
     rw [List.eq_of_mem_replicate hx,List.eq_of_mem_replicate hy]
     exact (uj _ _).2 (by rw [yI];omega)
   ·obtain ⟨k,hk,hy⟩:=List.mem_flatMap.1 hy
    rw [List.eq_of_mem_replicate hx,List.eq_of_mem_replicate hy]
    exact (uj _ _).2 (by have:=h.1 k.row (List.mem_map_of_mem hk);omega)
theorem union_srt (a b:List Row):vN (xz true) a b=srt (a++b):=by
 obtain ⟨_,h2,h3⟩:=grp_all _ (srt a) (srt b) (Nat.le_refl _) (yR ordR a) (yR ordR b)
 unfold vN
 refine asc_uniq (asc_flat h2) (yR ordR _) ?_
 exact h3.trans (((zA a).append (zA b)).trans (zA _).symm)
end
section
open Go.Am
attribute [local simp, local push_cast] num boo str ints aV aTab zv aS aT aC
def jQ (k:Int) (c:Ex) (x y:ByteArray):Qr:= .mk 5 ByteArray.empty k false c [] [] [] [] [xe x,xe y]
theorem join_val {s:Sch} {i:Inst} {n m:Nat} {k:Int} {c:Ex} (hn:n<s.length) (hm:m<s.length) (h:(x7 grP s i (jQ k c (s.getD n default).name (s.getD m default).name)).2=0):
 x6 s i=0/\(x7 grP s i (jQ k c (s.getD n default).name (s.getD m default).name)).1=
  srt (jnM (jQ k c (s.getD n default).name (s.getD m default).name) (s.getD n default).columns.length (s.getD m default).columns.length (i.getD n default) (i.getD m default)):=by
 unfold x7 at h ⊢
 by_cases hf:x6 s i=0
 ·rw [if_neg (fun e=>e hf)] at h ⊢
  by_cases ht:(we s (jQ k c (s.getD n default).name (s.getD m default).name)).2=0
  ·rw [if_neg (fun e=>e ht)] at h ⊢
   have hv:xr s=0:=by
    unfold x6 at hf
    split at hf
    ·rename_i h1;exact absurd hf h1
    ·rename_i h1;simpa using h1
   have b1:=valid_byT hv hn
   have b2:=valid_byT hv hm
   have l1:=((jI hf).tab n hn).len
   have l2:=((jI hf).tab m hm).len
   have hev:evQ grP s i (jQ k c (s.getD n default).name (s.getD m default).name)=evOp grP s i (jQ k c (s.getD n default).name (s.getD m default).name) [i.getD n default,i.getD m default]:=by
    rw [jJ]
    show (allO [evQ grP s i (xe (s.getD n default).name),evQ grP s i (xe (s.getD m default).name)]).bind _=_
    rw [ev_scan b1 l1,ev_scan b2 l2]
    rfl
   have hout: ∀w0 w1,outM grP s i (jQ k c (s.getD n default).name (s.getD m default).name) w0 w1 (i.getD n default) (i.getD m default)=jnM (jQ k c (s.getD n default).name (s.getD m default).name) w0 w1 (i.getD n default) (i.getD m default):=fun _ _=>rfl
   have t1:=typ_scan (s:=s) b1
   have t2:=typ_scan (s:=s) b2
   rw [hev] at h ⊢
   unfold evOp at h ⊢
   refine ⟨hf,?_⟩
   split at h
   ·exact absurd h (by decide)
   ·rename_i h1
    rw [if_neg h1]
    split at h
    ·exact absurd h (by decide)
    ·rename_i h2
     rw [if_neg h2]
     show srt (outM grP s i _ (typQ s (xe (s.getD n default).name)).1.length (typQ s (xe (s.getD m default).name)).1.length (i.getD n default) (i.getD m default))=_
     rw [hout,t1,t2]
     simp only [zD,List.length_map]
  ·rw [if_pos ht] at h
   exact absurd h ht
 ·rw [if_pos hf] at h
  exact absurd h hf
section
variable {c:Ex} {x y:ByteArray} {wx wy:Nat} {R S:List Row}
def okC2 (c:Ex) (r t:Row):Bool:=zQ (xk (r++t) c)==1
def innM (c:Ex) (S:List Row) (r:Row):List Row:=(S.filter (okC2 c r)).map (r++ ·)
def jj (c:Ex) (S:List Row) (r:Row):List Row:=if S.any (okC2 c r)=false then [r] else []
def hitM (c:Ex) (S:List Row) (r:Row):List Row:=if S.any (okC2 c r)=true then [r] else []
def restM (c:Ex) (wx:Nat) (R S:List Row):List Row:=(S.filter fun t=> !(R.any fun r=>okC2 c r t)).map (zF wx++ ·)
theorem flat_app {α β:Type} (f g:α->List β): ∀l:List α,(l.flatMap fun x=>f x++g x).Perm (l.flatMap f++l.flatMap g)
 | []=>List.Perm.refl _
 | x::l=>by
   simp only [List.flatMap_cons]
   have ih:=flat_app f g l
   refine (List.Perm.append_left _ ih).trans ?_
   simp only [List.append_assoc]
   refine List.Perm.append_left _ ?_
   rw [<-List.append_assoc,<-List.append_assoc]
   exact List.Perm.append_right _ List.perm_append_comm
theorem jL (k:Int) (hk:1<=k/\k<=6) (r:Row):xJ (jQ k c x y) wy S r=
 (if k<5 then innM c S r else [])++(if k=2\/k=4 then (jj c S r).map (· ++zF wy) else if k=5 then hitM c S r else if k=6 then jj c S r else []):=by
 have hkd:(jQ k c x y).kind=k:=rfl
 have ho:okJ (jQ k c x y)=okC2 c:=rfl
 have h6:k=1\/k=2\/k=3\/k=4\/k=5\/k=6:=by omega
 unfold xJ qG jj hitM innM
 rw [hkd,ho]
 cases hf:S.any (okC2 c r)<;>rcases h6 with rfl | rfl | rfl | rfl | rfl | rfl<;>simp
theorem jF (k:Int) (hk:1<=k/\k<=6):jnM (jQ k c x y) wx wy R S=
 (R.flatMap fun r=>(if k<5 then innM c S r else [])++(if k=2\/k=4 then (jj c S r).map (· ++zF wy) else if k=5 then hitM c S r else if k=6 then jj c S r else []))++(if k=3\/k=4 then restM c wx R S else []):=by
 have e:xJ (jQ k c x y) wy S=fun r=>(if k<5 then innM c S r else [])++(if k=2\/k=4 then (jj c S r).map (· ++zF wy) else if k=5 then hitM c S r else if k=6 then jj c S r else []):=funext fun r=>jL k hk r
 unfold jnM
 rw [e]
 rfl
theorem j1:jnM (jQ 1 c x y) wx wy R S=R.flatMap (innM c S):=by rw [jF 1 (by decide)];simp
theorem j2:jnM (jQ 2 c x y) wx wy R S=R.flatMap fun r=>innM c S r++(jj c S r).map (· ++zF wy):=by rw [jF 2 (by decide)];simp
theorem j3:jnM (jQ 3 c x y) wx wy R S=R.flatMap (innM c S)++restM c wx R S:=by rw [jF 3 (by decide)];simp
theorem j4:jnM (jQ 4 c x y) wx wy R S=(R.flatMap fun r=>innM c S r++(jj c S r).map (· ++zF wy))++restM c wx R S:=by rw [jF 4 (by decide)];simp
theorem j5:jnM (jQ 5 c x y) wx wy R S=R.flatMap (hitM c S):=by rw [jF 5 (by decide)];simp
theorem j6:jnM (jQ 6 c x y) wx wy R S=R.flatMap (jj c S):=by rw [jF 6 (by decide)];simp
theorem map_flat {α β γ:Type} (f:α->List β) (g:β->γ): ∀l:List α,(l.flatMap fun x=>(f x).map g)=(l.flatMap f).map g
 | []=>rfl
 | x::l=>by rw [List.flatMap_cons,map_flat f g l,List.flatMap_cons,List.map_append]
theorem left_perm:(jnM (jQ 2 c x y) wx wy R S).Perm (jnM (jQ 1 c x y) wx wy R S++(jnM (jQ 6 c x y) wx wy R S).map (· ++zF wy)):=by
 rw [j1,j2,j6,<-map_flat]
 exact flat_app _ _ R
theorem full_perm:(jnM (jQ 4 c x y) wx wy R S).Perm (jnM (jQ 1 c x y) wx wy R S++(jnM (jQ 6 c x y) wx wy R S).map (· ++zF wy)++restM c wx R S):=by
 have h:=left_perm (c:=c) (x:=x) (y:=y) (wx:=wx) (wy:=wy) (R:=R) (S:=S)
 rw [j2] at h
 rw [j4]
 exact List.Perm.append_right _ h
theorem semi_anti:(jnM (jQ 5 c x y) wx wy R S).length+(jnM (jQ 6 c x y) wx wy R S).length=R.length:=by
 rw [j5,j6]
 induction R with
 | nil=>rfl
 | cons r R ih=>
   simp only [List.flatMap_cons,List.length_append,List.length_cons]
   have:(hitM c S r).length+(jj c S r).length=1:=by
    unfold hitM jj
    cases S.any (okC2 c r)<;>simp
   omega
theorem full_len:((jnM (jQ 4 c x y) wx wy R S).length:Int)=(jnM (jQ 2 c x y) wx wy R S).length+(jnM (jQ 3 c x y) wx wy R S).length-(jnM (jQ 1 c x y) wx wy R S).length:=by
 rw [j1,j2,j3,j4]
 simp only [List.length_append]
 omega
theorem full_right (k:Row):cntB k (jnM (jQ 3 c x y) wx wy R S)<=cntB k (jnM (jQ 4 c x y) wx wy R S):=by
 rw [vz full_perm,j3,vO,vO,vO,j1]
 omega
theorem full_left (k:Row):cntB k (jnM (jQ 2 c x y) wx wy R S)<=cntB k (jnM (jQ 4 c x y) wx wy R S):=by
 rw [j2,j4,vO]
 omega
theorem left_union:vN (xz true) (srt (jnM (jQ 1 c x y) wx wy R S)) ((srt (jnM (jQ 6 c x y) wx wy R S)).map (· ++zF wy))=srt (jnM (jQ 2 c x y) wx wy R S):=by
 rw [union_srt]
 exact qJ (((zA _).append ((zA _).map _)).trans left_perm.symm)
end
end
end Go.Proofs.YtnmibokjpedkiaaGreatDoor
