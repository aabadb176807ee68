/- Made queries answer as specified (part Wn) -/
import Derived.Test.YtnmibokjpedkiaaGreatDoorWm
import Derived.Test.YtnmibokjpedkiaaGreatDoorWl
set_option maxRecDepth 100000
set_option maxHeartbeats 4000000
set_option linter.all false
namespace Go.Proofs.YtnmibokjpedkiaaGreatDoor
open Go.Am
section
attribute [local simp, local push_cast] Ta zR
def vY (k:Int):Int:=if (4:Int)<(yK k).length then 4 else (yK k).length
def qU (xs:List Int) (k:Int) (nl:Bool) (p:Nat):Val:=
 if nl=true then (yK k).getD (drawn xs p (vY k)).toNat default else (yK k).getD (1+drawn xs p (vY k-1)).toNat default
theorem nSmall_le {k:Int} (hk:k=1\/k=2\/k=3):3<=vY k/\vY k<=4/\vY k<=(yK k).length:=by
 have:=mvalsM_len hk;unfold vY
 split<;>omega
theorem c_msmall {xs:List Int} {k:Int} {nl:Bool} {p:Nat} (hx:ww xs) (hk:k=1\/k=2\/k=3) (hp:p<=4000000000000000000):
 ACall Tryz.prog 29 [.ptr 1000 0,num k,boo nl] [(1000,zR xs p)] (aV (qU xs k nl p)) [(1000,zR xs (p+1))]:=by
 refine zn mixed ttok Tryz.func29 Tryz.ntmps29 Tryz.results29 ?_;generalize hr:aV (qU xs k nl p)=R;refine Zn ?_;refine zg [[]] [] (c_mvalues k) ?_;have hl:=nSmall_le hk;refine Zf ?_;rw [show (if (4:Int)<(yK k).length then (4:Int) else (yK k).length)=vY k from rfl];refine za (fun h=>?_) fun h=>?_
 ·refine zg [[],[]] [(1000,1000)] (zS (n:=vY k) (p:=p) hx Za Za hp) ?_;have hd:=zu xs p (n:=vY k) Za;refine Zf ?_;refine ⟨Za,?_⟩;refine zv [0,0,0] rfl Zd Zj ?_ Zk Zb Zb;rw [<-hr,qU,if_pos h];rfl
 ·have e1:IntKind.i64.wrap (vY k-1)=vY k-1:=zt Za Za;simp only [e1];refine zg [[],[]] [(1000,1000)] (zS (n:=vY k-1) (p:=p) hx Za Za hp) ?_;have hd:=zu xs p (n:=vY k-1) Za;have e2:IntKind.i64.wrap (1+drawn xs p (vY k-1))=1+drawn xs p (vY k-1):=zt Za Za;simp -implicitDefEqProofs only [↓zb,push_cast,simprocAttr,tt,e2];refine ⟨Za,?_⟩;refine zv [0,0,0] rfl Zd Zj ?_ Zk Zb Zb;rw [<-hr,qU,if_neg (Z8 h)];rfl
end
section
attribute [local simp, local push_cast] Ta aRow rRow rTab rC vT zR
def rowS (xs:List Int) (cols:List Col) (p j:Nat):List Val:=(List.range j).map fun j=>qU xs (cols.getD j default).type true (p+j)
def rowI (xs:List Int) (cols:List Col) (p k:Nat):Row:=if 0<drawn xs (p+cols.length) 8 then (rowS xs cols p cols.length).set 0 ⟨1,k+1,ByteArray.empty⟩ else rowS xs cols p cols.length
def tabI (xs:List Int) (cols:List Col) (p n:Nat):Tab2:=(List.range n).map fun k=>rowI xs cols (p+k * (cols.length+1)) k
def ym (xs:List Int) (most:Int) (s:Sch) (p:Nat):Nat->Inst×Nat
 | 0=>([],p)
 | i+1=>((ym xs most s p i).1++[tabI xs (s.getD i default).columns ((ym xs most s p i).2+1) (drawn xs (ym xs most s p i).2 (most+1)).toNat],
    (ym xs most s p i).2+1+(drawn xs (ym xs most s p i).2 (most+1)).toNat * ((s.getD i default).columns.length+1))
def ge (xs:List Int) (most:Int) (s:Sch) (p:Nat):Inst×Nat:=ym xs most s p s.length
theorem rowS_succ (xs:List Int) (cols:List Col) (p j:Nat):rowS xs cols p (j+1)=rowS xs cols p j++[qU xs (cols.getD j default).type true (p+j)]:=by simp [rowS,U8]
theorem kS (xs:List Int) (cols:List Col) (p j:Nat):(rowS xs cols p j).length=j:=by simp [rowS]
theorem rowI_len (xs:List Int) (cols:List Col) (p k:Nat):(rowI xs cols p k).length=cols.length:=by
 unfold rowI;split
 ·rw [YF,kS]
 ·exact kS ..
theorem tabI_succ (xs:List Int) (cols:List Col) (p n:Nat):tabI xs cols p (n+1)=tabI xs cols p n++[rowI xs cols (p+n * (cols.length+1)) n]:=by simp [tabI,U8]
theorem tabI_len (xs:List Int) (cols:List Col) (p n:Nat):(tabI xs cols p n).length=n:=by simp [tabI]
theorem jW (xs:List Int) (most:Int) (s:Sch) (p:Nat): ∀i,(ym xs most s p i).1.length=i
 | 0=>rfl
 | i+1=>by rw [ym,Yb,jW xs most s p i];rfl
theorem instTo_q (xs:List Int) {most:Int} (hm:0<=most) (hm2:most<=100) {s:Sch} (hc: ∀T∈s,T.columns.length<=1000) (p:Nat): ∀i,i<=s.length->(ym xs most s p i).2<=p+200000 * i
 | 0,_=>by simp [ym]
 | i+1,h=>by
   have ih:=instTo_q xs hm hm2 hc p i Za;have hd:=zu xs (ym xs most s p i).2 (n:=most+1) Za;have hcl:=hc _ (zk (show i<s.length from Za));have:(drawn xs (ym xs most s p i).2 (most+1)).toNat * ((s.getD i default).columns.length+1)<=100 * 1001:=U3 Za Za;rw [ym];simp only;omega
def tabC (t:Tab2):A:= .d (.sl 1 (zd rRow t))
theorem get_at {D E:List A} {a:A} {i:Nat} (h:D.length=i):(D++a::E)[i]? =some a:=by subst h;simp
theorem take_at {D E:List A} {a:A} {i:Nat} (h:D.length=i):(D++a::E).take i=D:=by subst h;simp
theorem drop_at {D E:List A} {a:A} {i:Nat} (h:D.length=i):(D++a::E).drop (i+1)=E:=by subst h;simp
theorem set_at {D E:List A} {a b:A} {i:Nat} (h:D.length=i):(D++a::E).set i b=D++b::E:=by subst h;simp
theorem vn {dom:Nat->Bool}: ∀(D E:List A),closedL dom (D++E)=(closedL dom D&&closedL dom E)
 | [],E=>by simp [closedL]
 | a::D,E=>by simp [closedL,vn D E,Bool.and_assoc]
theorem closedL_tabs {dom:Nat->Bool}: ∀(ts:Inst),closedL dom (ts.map tabC)=true
 | []=>rfl
 | t::ts=>by rw [Y0,closedL,closedL_tabs ts];rfl
theorem qH {dom:Nat->Bool}: ∀(n:Nat),closedL dom (List.replicate n .snil)=true
 | 0=>rfl
 | n+1=>by rw [UF,closedL,qH n];rfl
theorem set_row (row:List Val) (v:Val) (h:1<=row.length):(zd rV row).set 0 (.lit (.int .i64 v.kind):: .lit (.int .i64 v.num):: .lit (.string v.text)::List.drop 3 ((zd rV row).getD 0 []))=zd rV (row.set 0 v):=by
 cases row with
 | nil=>simp at h
 | cons x l=>simp [zd,rV]
def tI (most:Int):List (Nat×A):=[(0,.ptr 1000 0),(2,num most),(4,.ptr 4 0),(6,.ptr 6 0),(7,.ptr 7 0)]
def oI (xs:List Int) (s:Sch) (cs:List A) (q:Nat):List (Nat×Ob):=[(4,vS s),(6,.var [.snil]),(7,.var [.vs 16 s.length]),(16,.var cs),(1000,zR xs q)]
def S4 (xs:List Int) (most:Int) (s:Sch) (cs:List A) (q i:Nat):SL:=⟨(8,.d (.lit (.int .i64 i)))::tI most,oI xs s cs q⟩
def R4 (xs:List Int) (most:Int) (s:Sch) (D E:List A) (i n:Nat) (rows:Tab2) (q k:Nat):SL:=
 ⟨(10,.d (.lit (.int .i64 k)))::(9,.d (.lit (.int .i64 n)))::(8,.d (.lit (.int .i64 i)))::tI most,(600,.vec 53 1 (zd rRow rows) 0)::oI xs s (D++ .vec 600 k::E) q⟩
def C4 (xs:List Int) (most:Int) (s:Sch) (D E:List A) (i n:Nat) (rows:Tab2) (q k:Nat) (row:List Val) (j:Nat):SL:=
 ⟨(12,.d (.lit (.int .i64 j)))::(11,.vec 601 j)::(10,.d (.lit (.int .i64 k)))::(9,.d (.lit (.int .i64 n)))::(8,.d (.lit (.int .i64 i)))::tI most,
  (601,.vec 71 3 (zd rV row) 0)::(600,.vec 53 1 (zd rRow rows) 0)::oI xs s (D++ .vec 600 k::E) q⟩
theorem c_minst {xs:List Int} {s:Sch} {p:Nat} {most:Int} (hx:ww xs) (hm:0<=most) (hm2:most<=100) (hS:SmallS s) (hT: ∀T∈s,1<=T.columns.length/\ ∀c∈T.columns,c.type=1\/c.type=2\/c.type=3) (hp:p<=1000000000):
 ACall Tryz.prog 10 [.ptr 1000 0,aS s,num most] [(1000,zR xs p)] (z8 (ge xs most s p).1) [(1000,zR xs (ge xs most s p).2)]:=by
 refine zn mixed ttok Tryz.func10 Tryz.ntmps10 Tryz.results10 ?_;have hsl:=hS.len;have hcl: ∀T∈s,T.columns.length<=1000:=fun T h=>(hS.tab T h).cols;refine Zn ?_;refine ⟨Za,?_⟩;refine zx mixed ttok (fun i:Nat=>S4 xs most s ((ym xs most s p i).1.map tabC++List.replicate (s.length-i) .snil) (ym xs most s p i).2 i) (fun i=>s.length-i) (fun i=>i<=s.length) 0 (Yj _) ?_ ?_
 ·exact Ya (by simp [S4,tI,oI,ends]) (by simp [S4,oI,vS,ym,qH,ends]) (by simp [S4,oI,ends])
 intro I hI i hi;simp -implicitDefEqProofs only [S4,tI,oI,vS,↓zb,push_cast,simprocAttr,tt];refine za (fun h=>?_) fun h=>?_
 rotate_left
 ·have hii:i=s.length:=Zp h;subst hii;have hM:ge xs most s p=ym xs most s p s.length:=rfl;rw [Nat.sub_self,List.replicate_zero,Yw,hM];have hrl:=jW xs most s p s.length;generalize ym xs most s p s.length=r at hrl;refine ret_vs1 (q:=16) (n:=s.length) (xs:=r.1.map fun t=> .sl 1 (zd rRow t)) trivial ?_ rfl ?_ ?_ ?_ ?_
  ·simp only [lookO];rw [Ux];rfl
  ·rw [Y2,hrl]
  ·simp [zd,rTab]
  ·simp [ends]
  ·simp [ends]
 have h':i<s.length:=Zq h;have hw:=zh h' Za;have hlen:=jW xs most s p i;have hq:=instTo_q xs hm hm2 hcl p i hi;have hd:=zu xs (ym xs most s p i).2 (n:=most+1) Za;have wm:IntKind.i64.wrap (most+1)=most+1:=zt Za Za;simp only [wm];refine zg [[],[]] [(1000,1000)] (zS (n:=most+1) (p:=(ym xs most s p i).2) hx Za Za Za) ?_;refine Zf ?_;have hTm:=zk h';obtain ⟨hc1,hc2⟩:=hT _ hTm;have hcl1:=hcl _ hTm;have hD:((ym xs most s p i).1.map tabC).length=i:=by rw [Y2,hlen]
 have hcs:(ym xs most s p i).1.map tabC++List.replicate (s.length-i) A.snil=(ym xs most s p i).1.map tabC++ .snil::List.replicate (s.length-(i+1)) .snil:=by
  rw [show s.length-i=(s.length-(i+1))+1 from Za,UF]
 have hnext:ym xs most s p (i+1)=((ym xs most s p i).1++[tabI xs (s.getD i default).columns ((ym xs most s p i).2+1) (drawn xs (ym xs most s p i).2 (most+1)).toNat],
  (ym xs most s p i).2+1+(drawn xs (ym xs most s p i).2 (most+1)).toNat * ((s.getD i default).columns.length+1)):=rfl
 rw [hcs];obtain ⟨n,hn⟩: ∃n:Nat,drawn xs (ym xs most s p i).2 (most+1)=n:=⟨(drawn xs (ym xs most s p i).2 (most+1)).toNat,Za⟩
 rw [hn,YA] at hnext;rw [hn] at hd ⊢;have hcD: ∀dom:Nat->Bool,closedL dom ((ym xs most s p i).1.map tabC)=true:=fun _=>closedL_tabs _;have hcE: ∀dom:Nat->Bool,closedL dom (List.replicate (s.length-(i+1)) A.snil)=true:=fun _=>qH _;have hEq:List.replicate (s.length-(i+1)) A.snil=List.replicate (s.length-(i+1)) A.snil:=rfl;generalize hDD:(ym xs most s p i).1.map tabC=D at hD hcD ⊢;generalize hEE:List.replicate (s.length-(i+1)) A.snil=E at hcE ⊢;generalize (ym xs most s p i).2=q at hq hnext ⊢;generalize hTT:s.getD i default=T at hnext hTm hc1 hc2 hcl1;refine zx mixed ttok (fun k:Nat=>R4 xs most s D E i n (tabI xs T.columns (q+1) k) (q+1+k * (T.columns.length+1)) k) (fun k=>n-k) (fun k=>k<=n) 0 (Yj _) ?_ ?_
 ·refine (Us 16 i 600 53 1 rfl (get_at hD) rfl).trans ?_;rw [set_at hD];exact Ya (by simp [R4,tI,oI,ends]) (by simp [R4,oI,vS,tabI,zd,vn,hcD,hcE,ends]) (by simp [R4,oI,ends])
 intro J hJ k hk;simp -implicitDefEqProofs only [R4,tI,oI,vS,↓zb,push_cast,simprocAttr,tt];refine za (fun g=>?_) fun g=>?_
 rotate_left
 ·have hkk:k=n:=Zp g;subst hkk;have hfin:(ym xs most s p (i+1)).1.map tabC++List.replicate (s.length-(i+1)) A.snil=D++tabC (tabI xs T.columns (q+1) k)::E:=by rw [hnext,hEE];simp [hDD]
  have hq2:(ym xs most s p (i+1)).2=q+1+k * (T.columns.length+1):=ZA hnext;refine zi hI (i+1) h' Zl ?_;refine (Weak.frzCellL 16 i 1 rfl (get_at hD) rfl (by simp [zc,tabI_len]) rfl).trans ?_;rw [set_at hD,hfin,hq2];exact Ya (by simp [S4,tI,oI,hw,ends]) (by simp [S4,oI,vS,tabC,vn,hcD,hcE,closedL,ends]) (by simp [S4,oI,ends])
 have g':k<n:=Zq g;have hwk:=zh g' Za;have hkm:k * (T.columns.length+1)<=100 * 1001:=U3 Za Za;have hts:=tabI_succ xs T.columns (q+1) k;generalize hP:q+1+k * (T.columns.length+1)=P at hts ⊢;have hPb:P<=100000000000:=Za;generalize hrows:tabI xs T.columns (q+1) k=rows at hts ⊢;have hrl:rows.length=k:=by rw [<-hrows,tabI_len]
 refine zx mixed ttok (fun j:Nat=>C4 xs most s D E i n rows (P+j) k (rowS xs T.columns P j) j) (fun j=>T.columns.length-j) (fun j=>j<=T.columns.length) 0 (Yj _) ?_ ?_
 ·refine (YU 11 601 71 3 rfl rfl).trans ?_;exact Ya (by simp [C4,tI,oI,ends]) (by simp [C4,oI,vS,rowS,zd,vn,closedL,hcD,hcE,ends]) (by simp [C4,oI,ends])
 intro M hM j hj;simp -implicitDefEqProofs only [C4,tI,oI,vS,↓zb,push_cast,simprocAttr,tt];refine ⟨Zs,?_⟩;rw [hTT];refine za (fun g2=>?_) fun g2=>?_
 ·have g2':j<T.columns.length:=Zq g2;have hwj:=zh g2' Za;have hrs:=rowS_succ xs T.columns P j;refine ⟨Zs,Zs,?_⟩;have hk1:=hc2 _ (zk g2');refine zg [[],[],[]] [(1000,1000)] (c_msmall (k:=(T.columns.getD j default).type) (nl:=true) (p:=P+j) hx hk1 Za) ?_;refine Zf ?_;refine ⟨by rw [kS];omega,?_⟩;exact zi hM (j+1) g2' Zl (Ya (by simp [C4,tI,oI,hwj,kS,ends]) (by simp [C4,oI,vS,hrs,zd,vn,closedL,hcD,hcE,Y6,ends]) (by simp [C4,oI,ends]))
 have hjj:j=T.columns.length:=Zp g2;subst hjj;have hrl2:=kS xs T.columns P T.columns.length;refine zg [[],[]] [(1000,1000)] (zS (n:=8) (p:=P+T.columns.length) hx Za Za Za) ?_;have h8:=zu xs (P+T.columns.length) (n:=8) Za;simp -implicitDefEqProofs only [get_at hD,take_at hD,drop_at hD,set_at hD,↓zb,push_cast,simprocAttr,tt];have hPn:q+1+(k+1) * (T.columns.length+1)=P+T.columns.length+1:=by rw [Nat.succ_mul];omega
 have hDl:i+1<=(D++A.vec 600 k::E).length:=Zu hD;refine za (fun g8=>?_) fun g8=>?_
 ·have hrI:rowI xs T.columns P k=(rowS xs T.columns P T.columns.length).set 0 ⟨1,k+1,ByteArray.empty⟩:=by rw [rowI,if_pos (Yd g8)]
  have hset:=set_row (rowS xs T.columns P T.columns.length) ⟨1,k+1,ByteArray.empty⟩ Za;have hk1:IntKind.i64.wrap ((k:Int)+1)=(k:Int)+1:=zt Za Za;simp only at hset;rw [hk1,hset];refine ⟨⟨Za,hrl2.symm⟩,⟨hrl2.symm,Za⟩,⟨Za,Za⟩,by rw [zc,YF,hrl2],⟨hrl.symm,Za⟩,⟨Za,Za⟩,hDl,ze Zg,?_⟩;exact zi hJ (k+1) g' Zl (Ya (by simp [R4,tI,oI,hrl,ends]) (by simp [R4,oI,vS,hts,hrI,hPn,hrl,zd,vn,closedL,hcD,hcE,ends]) (by simp [R4,oI,ends]))
 ·have hrI:rowI xs T.columns P k=rowS xs T.columns P T.columns.length:=by rw [rowI,if_neg (Yc g8)]
  refine ⟨⟨Za,Za⟩,ZA hrl2,⟨hrl.symm,Za⟩,⟨Za,Za⟩,hDl,ze Zg,?_⟩;exact zi hJ (k+1) g' Zl (Ya (by simp [R4,tI,oI,hwk,hrl,ends]) (by simp [R4,oI,vS,hts,hrI,hPn,hrl,zd,vn,closedL,hcD,hcE,ends]) (by simp [R4,oI,ends]))
end
section
attribute [local simp, local push_cast] Ta
structure Made (ts:List Int) (d:Nat) (t:Int) (e:Ex):Prop where
 typ:typG (ownM ts) e=(t,0)
 dep:0<=wD e/\wD e<=d
 size:0<=ve e/\3 * ve e+1<=((4 ^ d:Nat):Int)
 okx:OkX e
 ok12:Ok12 e
structure MadeL (ts:List Int) (d:Nat) (l:List Int) (ks:List Ex):Prop where
 typ:ks.map (typG (ownM ts))=l.map fun u=>(u,(0:Int))
 dep: ∀k∈ks,(0<=wD k/\wD k<=d)/\0<=ve k/\3 * ve k+1<=((4 ^ d:Nat):Int)
 okx: ∀k∈ks,OkX k/\Ok12 k
theorem MadeL.len {ts:List Int} {d:Nat} {l:List Int} {ks:List Ex} (h:MadeL ts d l ks):ks.length=l.length:=by have:=congrArg List.length h.typ;simpa using this
theorem MadeL.nil {ts:List Int} {d:Nat}:MadeL ts d [] []:=⟨rfl,fun k h=>absurd h Zd,fun k h=>absurd h Zd⟩
theorem MadeL.cons {ts:List Int} {d:Nat} {t:Int} {l:List Int} {e:Ex} {ks:List Ex} (h:Made ts d t e) (h2:MadeL ts d l ks):MadeL ts d (t::l) (e::ks):=
 ⟨by rw [Y0,Y0,h.typ,h2.typ],fun k hk=>by
  rcases YB.1 hk with rfl | hk
  ·exact ⟨h.dep,h.size⟩
  ·exact h2.dep k hk,fun k hk=>by
  rcases YB.1 hk with rfl | hk
  ·exact ⟨h.okx,h.ok12⟩
  ·exact h2.okx k hk⟩
theorem MadeL.app {ts:List Int} {d:Nat} {l m:List Int} {ks js:List Ex} (h:MadeL ts d l ks) (h2:MadeL ts d m js):MadeL ts d (l++m) (ks++js):=
 ⟨by rw [YE,YE,h.typ,h2.typ],fun k hk=>(Yr.1 hk).elim (h.dep k) (h2.dep k),fun k hk=>(Yr.1 hk).elim (h.okx k) (h2.okx k)⟩
theorem Made.mono {ts:List Int} {d d':Nat} {t:Int} {e:Ex} (h:Made ts d t e) (hd:d<=d'):Made ts d' t e:=by
 have hP:4 ^ d<=4 ^ d':=Nat.pow_le_pow_right Za hd;obtain ⟨h1,h2,h3,h4,h5⟩:=h;exact ⟨h1,Za,Za,h4,h5⟩
section
variable {xs ts:List Int} {d:Nat} {f:Int->Nat->Ex×Nat} (hf: ∀t p,Kn t->Made ts d t (f t p).1)
include hf
end
theorem cols_mem {types:List Int} {typ c:Int} (h:c∈cols types typ): ∃j:Nat,c=j/\j<types.length/\types.getD j 0=typ:=by
 unfold cols ql at h;obtain ⟨j,hj,rfl⟩:=Yv.1 h;obtain ⟨h1,h2⟩:=Uj.1 hj;exact ⟨j,rfl,UC.1 h1,Zc h2⟩
end
section
attribute [local simp, local push_cast] Ta
def zE:Ex:= .mk 0 0 0 ByteArray.empty 0 []
def scanQ (name:ByteArray):Qr:= .mk 1 name 0 false zE [] [] [] [] []
theorem valid_byT {s:Sch} (h:xY s=0) {n:Nat} (hn:n<s.length):byT s (s.getD n default).name=n:=by
 unfold xY at h
 split at h
 ·exact absurd h Zi
 split at h
 ·rename_i h1;exact absurd h h1
 rename_i h1;have h2:=ferrN_zero (by simpa using h1:uy (yT s) s.length=0) n hn;unfold yT at h2
 split at h2
 ·exact absurd h2 Zi
 split at h2
 ·exact absurd h2 Zi
 rename_i h3;have h4:=fidx_self (fun t:Tbl=>t.name.toList==(s.getD n default).name.toList) s n hn Zd;unfold byT at h3 ⊢;unfold uR at h3;rw [if_neg Za] at h3;omega
end
section
attribute [local simp, local push_cast] Ta aRow rRow rTab vT yj zR
theorem constM_kids (v:Val) (t:Int):(kj v t).kids=[]:=by
 unfold kj
 repeat' split
 all_goals rfl
theorem ok_nil {e:Ex} (h:e.kids=[]):Ok12 e:=⟨_,ZP h,fun k hk=>by rw [h] at hk;cases hk⟩
theorem pickE_ok (xs types:List Int) (k:Int) (p:Nat):Ok12 (xg xs types k p).1:=by
 unfold xg
 split
 ·exact ok_nil rfl
 ·exact ok_nil (constM_kids _ _)
theorem bin_ok {op:Int} {l:List Ex} (h:l.length<=12) (hk: ∀k∈l,Ok12 k):Ok12 (bin op l):=⟨_,h,hk⟩
theorem moreM_ok {f:Int->Nat->Ex×Nat} (hf: ∀k q,Ok12 (f k q).1) (x:Int) (p:Nat): ∀m,∀e∈(yD f x p m).1,Ok12 e
 | 0=>by simp [yD]
 | m+1=>by
   intro e he;simp only [yD,Yr,YK] at he;rcases he with he | rfl
   ·exact moreM_ok hf x p m e he
   ·exact hf _ _
theorem Kf{p:Prop}(h:p:=by
 simp [twoM] at he;rcases he with rfl | rfl<;>exact hf _ _):p:=h
theorem stepM_ok {xs types:List Int} {f:Int->Nat->Ex×Nat} (hf: ∀k q,Ok12 (f k q).1) (k:Int) (p:Nat):Ok12 (yn xs types f k p).1:=by
 have h1: ∀op x q,Ok12 (mkE op (oneM f x q)).1:=fun op x q=>bin_ok (by simp [oneM]) (by simp [oneM,hf]);have h2: ∀op x q,Ok12 (mkE op (twoM f x q)).1:=fun op x q=>bin_ok (by simp [twoM]) (by simp [twoM,hf]);have h3: ∀op x q,Ok12 (mkE op (yl f x q)).1:=fun op x q=>bin_ok (by simp [yl]) (by simp [yl,hf]);have h4: ∀op x q,Ok12 (mkE op (inE xs f x q)).1:=fun op x q=>by
  have a3:=zu xs (twoM f x q).2 (n:=3) Za;refine bin_ok ?_ ?_
  ·simp only [inE,Yb,gQ];have:(twoM f x q).1.length=2:=rfl;omega
  ·intro e he;simp only [inE,Yr] at he;rcases he with he | he
   ·exact Kf
   ·exact moreM_ok hf _ _ _ e he
 unfold yn qo
 repeat' split
 all_goals first | exact pickE_ok _ _ _ _ | exact h1 _ _ _ | exact h2 _ _ _ | exact h3 _ _ _ | exact h4 _ _ _
theorem exprM_ok (xs types:List Int): ∀(d:Nat) (k:Int) (p:Nat),Ok12 (ye xs types d k p).1
 | 0,k,p=>pickE_ok ..
 | 1,k,p=>pickE_ok ..
 | d+2,k,p=>stepM_ok (exprM_ok xs types (d+1)) k p
theorem forM_ok (xs:List Int) (i:Nat): ∀(n k:Nat) (cols:List Col) (fs:List Fk) (q:Nat),(∀f∈fs,f.columns.length=1)→
 (forM xs i n k cols fs q).1.length<=cols.length+n/\(forM xs i n k cols fs q).2.1.length<=fs.length+n/\ ∀f∈(forM xs i n k cols fs q).2.1,f.columns.length=1
 | 0,_,cols,fs,q,h=>⟨by simp [forM],by simp [forM],by simpa [forM] using h⟩
 | n+1,k,cols,fs,q,h=>by
   simp only [forM]
   split
   ·exact ⟨Zd,Zd,h⟩
   ·split
    ·obtain ⟨a,b,c⟩:=forM_ok xs i n (k+1) (cols++[fcol xs k q]) (fs++[ffk xs i cols q]) (q+3) (by
      intro f hf;rcases Yr.1 hf with hf | hf
      ·exact h f hf
      ·rw [YK.1 hf];rfl)
     simp only [Yb,List.length_singleton] at a b;exact ⟨Za,Za,c⟩
    ·exact ⟨Zd,Zd,h⟩
theorem tblM_ok (xs:List Int) (i p:Nat):SmallT (tblM xs i p).1:=by
 have h3:=zu xs p (n:=3) Za;obtain ⟨a,b,c⟩:=forM_ok xs i 2 0 (uT xs (p+1) (1+drawn xs p 3).toNat) [] (p+1+2 * (1+drawn xs p 3).toNat) Zd;rw [gT] at a;simp only [Ui] at b;unfold tblM;generalize forM xs i 2 0 (uT xs (p+1) (1+drawn xs p 3).toNat) [] (p+1+2 * (1+drawn xs p 3).toNat)=f at a b c ⊢;simp only [x9];refine ⟨Xn,Zd,?_,?_,Xn,fun f hf=>Z2 (c f hf),?_,?_⟩
 ·simp only [uniM];split<;>simp
 ·simp only [uniM];split<;>simp
 ·simp only [chkM];split<;>simp
 ·simp only [chkM];split
  ·intro e he;rw [YK.1 he];exact exprM_ok ..
  ·simp
theorem schemaM_ok (xs:List Int) (p:Nat):SmallS (xe xs p).1/\1<=(xe xs p).1.length:=by
 have h3:=zu xs p (n:=3) Za;have hl:(xe xs p).1.length=(1+drawn xs p 3).toNat:=mtabs_len ..;refine ⟨⟨Za,?_⟩,Za⟩;have key: ∀n,∀t∈(xM xs p n).1,SmallT t:=by
  intro n
  induction n with
  | zero=>simp [xM]
  | succ n ih=>
    intro t ht;simp only [xM,Yr,YK] at ht;rcases ht with ht | rfl
    ·exact ih t ht
    ·exact tblM_ok ..
 exact key _
def TypedC (cs:List Col):Prop:=1<=cs.length/\ ∀c∈cs,c.type=1\/c.type=2\/c.type=3
theorem mcols_typed (xs:List Int) (p c:Nat):TypedC (uT xs p c):=by
 refine ⟨by rw [gT];omega,fun x hx=>?_⟩;simp only [uT,YB,Yv] at hx;rcases hx with rfl | ⟨a,_,rfl⟩
 ·exact .inl rfl
 ·have:=zu xs (p+2 * a) (n:=3) Za;simp only [mcol];omega
theorem TypedC.snoc {cs:List Col} (h:TypedC cs) {c:Col} (hc:c.type=1\/c.type=2\/c.type=3):TypedC (cs++[c]):=
 ⟨by rw [Yb];have:=h.1;omega,fun x hx=>(Yr.1 hx).elim (h.2 x) fun q=>by rw [YK.1 q];exact hc⟩
theorem forM_typed (xs:List Int) (i:Nat): ∀(n k:Nat) (cols:List Col) (fs:List Fk) (q:Nat),TypedC cols->TypedC (forM xs i n k cols fs q).1
 | 0,_,_,_,_,h=>h
 | n+1,k,cols,fs,q,h=>by
   simp only [forM]
   split
   ·exact h
   ·split
    ·exact forM_typed xs i n (k+1) _ _ _ (h.snoc (.inl rfl))
    ·exact h
theorem schemaM_typed (xs:List Int) (p:Nat): ∀T∈(xe xs p).1,1≤T.columns.length∧ ∀c∈T.columns,c.type=1∨c.type=2∨c.type=3:=by
 have key: ∀n,∀t∈(xM xs p n).1,TypedC t.columns:=by
  intro n
  induction n with
  | zero=>simp [xM]
  | succ n ih=>
    intro t ht;simp only [xM,Yr,YK] at ht;rcases ht with ht | rfl
    ·exact ih t ht
    ·simp only [tblM,x9];exact forM_typed _ _ _ _ _ _ _ (mcols_typed ..)
 exact key _
theorem schemaM_q (xs:List Int):(xe xs 0).2<=1000000:=by
 have h3:=zu xs 0 (n:=3) Za;have:=mtabs_q xs 0 (1+drawn xs 0 3).toNat;unfold xe;omega
theorem instM_small (xs:List Int) {most:Int} (hm:0≤most) (hm2:most≤100) {s:Sch} (hS:SmallS s) (p:Nat):SmallI (ge xs most s p).1:=by
 have hl:=hS.len;have key: ∀i,i<=s.length-> ∀t∈(ym xs most s p i).1,t.length<=1000/\ ∀r∈t,r.length<=1000:=by
  intro i
  induction i with
  | zero=>simp [ym]
  | succ i ih=>
    intro hi t ht;simp only [ym,Yr,YK] at ht;rcases ht with ht | rfl
    ·exact ih Za t ht
    ·have hd:=zu xs (ym xs most s p i).2 (n:=most+1) Za;refine ⟨by rw [tabI_len];omega,fun r hr=>?_⟩;simp only [tabI,Yv] at hr;obtain ⟨k,_,rfl⟩:=hr;rw [rowI_len];exact (hS.tab _ (zk Za)).cols
 exact ⟨by rw [ge,jW];omega,fun t ht=>(key _ (Ys _) t ht).1,fun t ht=>(key _ (Ys _) t ht).2⟩
end
section
attribute [local simp, local push_cast] Ta
def cntB (k:Row) (l:List Row):Nat:=(l.filter fun x=>cmpR x k==0).length
theorem jc (k:Row) (a b:List Row):cntB k (a++b)=cntB k a+cntB k b:=by simp [cntB]
theorem jA {k:Row} {a b:List Row} (h:a.Perm b):cntB k a=cntB k b:=(h.filter _).length_eq
theorem cntB_none {k:Row} {l:List Row} (h: ∀x∈l,cmpR x k≠0):cntB k l=0:=by
 unfold cntB;rw [List.length_eq_zero_iff,UI];exact fun x hx=>by simpa using h x hx
theorem cntB_all {k:Row} {l:List Row} (h: ∀x∈l,x=k):cntB k l=l.length:=by
 unfold cntB;rw [List.filter_eq_self.2 fun x hx=>by rw [h x hx,yi];rfl]
theorem JH{p:Prop}(h:p:=by
 rcases YB.1 hz with rfl | hz
 ·exact self _
 ·exact h1 z hz):p:=h
theorem pick2_min (X Y:List Row) (hX:Asc leR X) (hY:Asc leR Y):(∀y∈X,leR (yo X Y) y=true)∧ ∀y∈Y,leR (yo X Y) y=true:=by
 have self: ∀x:Row,leR x x=true:=fun x=>(jy _ _).2 (by rw [yi];omega)
 match X,Y with
 | [],[]=>simp
 | [],y::Y=>
   obtain ⟨h1,_⟩:=kp hY;refine ⟨Zd,fun z hz=>?_⟩;exact JH
 | x::X,[]=>
   obtain ⟨h1,_⟩:=kp hX;refine ⟨fun z hz=>?_,Zd⟩;exact JH
 | x::X,y::Y=>
   obtain ⟨h1,_⟩:=kp hX;obtain ⟨h2,_⟩:=kp hY;rw [yo]
   split
   ·rename_i hxy;refine ⟨fun z hz=>?_,fun z hz=>?_⟩
    ·exact JH
    ·rcases YB.1 hz with rfl | hz
     ·exact hxy
     ·exact ordR.trans _ _ _ hxy (h2 z hz)
   ·rename_i hxy;have hyx:leR y x=true:=by have:=ordR.total x y;simpa [hxy] using this
    refine ⟨fun z hz=>?_,fun z hz=>?_⟩
    ·rcases YB.1 hz with rfl | hz
     ·exact hyx
     ·exact ordR.trans _ _ _ hyx (h1 z hz)
    ·rcases YB.1 hz with rfl | hz
     ·exact self _
     ·exact h2 z hz
theorem take_rep {r:Row} {l:List Row} {n:Nat} (hn:n<=l.length) (h: ∀y∈l.take n,y=r):l.take n=List.replicate n r:=by
 rw [List.eq_replicate_iff];exact ⟨ZD,h⟩
theorem ne_of_lt {a b:Row} (h:cmpR a b<0):cmpR b a≠0:=fun e=>by
 have:=(wF b a).1 e;subst this;rw [yi] at h;omega
theorem Kr{p:Prop}(h:p:=by
 subst h1 h2;rw [gj];exact ⟨(fun g hg=>by cases hg),List.Pairwise.nil,List.Perm.refl _⟩):p:=h
theorem grp_all: ∀(n:Nat) (X Y:List Row),X.length+Y.length≤n→Asc leR X→Asc leR Y→
 (∀g∈grpM X Y,g.m=cntB g.row X/\g.n=cntB g.row Y)/\((grpM X Y).map (·.row)).Pairwise (fun a b=>cmpR a b<0)/\((grpM X Y).flatMap fun g=>List.replicate (g.m+g.n) g.row).Perm (X++Y)
 | 0,X,Y,h,_,_=>by
   have h1:X=[]:=Yi Za;have h2:Y=[]:=Yi Za;exact Kr
 | n+1,X,Y,h,hX,hY=>by
   by_cases h0:X.length=0/\Y.length=0
   ·have h1:X=[]:=Yi h0.1;have h2:Y=[]:=Yi h0.2;exact Kr
   ·have h3:=v7 X Y h0;have h4:=xy (yo X Y) X;have h5:=xy (yo X Y) Y;obtain ⟨mX,mY⟩:=pick2_min X Y hX hY;rw [wP h0];generalize yo X Y=r at *;obtain ⟨dX,tX⟩:=drop_gt X r hX mX;obtain ⟨dY,tY⟩:=drop_gt Y r hY mY;generalize cntR r X=a at *;generalize cntR r Y=b at *;have eX:X=List.replicate a r++X.drop a:=by rw [<-take_rep h4 tX,Yp]
    have eY:Y=List.replicate b r++Y.drop b:=by rw [<-take_rep h5 tY,Yp]
    have ih:=grp_all n (X.drop a) (Y.drop b) XG (List.Pairwise.sublist (Ut _ _) hX) (List.Pairwise.sublist (Ut _ _) hY);obtain ⟨i1,i2,i3⟩:=ih;have hrow: ∀g∈grpM (X.drop a) (Y.drop b),cmpR r g.row<0:=fun g hg=>by
     rcases Yr.1 (grpM_mem _ _ _ (Ys _) g hg).1 with q | q
     ·exact dX _ q
     ·exact dY _ q
    have c1: ∀(k:Row) (l:List Row) (c:Nat),l=List.replicate c r++l.drop c->cntB k l=cntB k (List.replicate c r)+cntB k (l.drop c):=fun k l c e=>by
     have:=congrArg (cntB k) e;rwa [jc] at this
    have c2: ∀c:Nat,cntB r (List.replicate c r)=c:=fun c=>by
     rw [cntB_all fun x hx=>Uv hx,YQ]
    refine ⟨fun g hg=>?_,?_,?_⟩
    ·rcases YB.1 hg with rfl | hg
     ·have z1:cntB r (X.drop a)=0:=cntB_none fun x hx=>ne_of_lt (dX x hx);have z2:cntB r (Y.drop b)=0:=cntB_none fun x hx=>ne_of_lt (dY x hx);have e1:=c1 r X a eX;have e2:=c1 r Y b eY;rw [c2] at e1 e2;exact ⟨by show a=cntB r X;omega,by show b=cntB r Y;omega⟩
     ·obtain ⟨j1,j2⟩:=i1 g hg;have hr:=hrow g hg;have z: ∀c:Nat,cntB g.row (List.replicate c r)=0:=fun c=>cntB_none fun x hx=>by
       rw [Uv hx];omega
      have e1:=c1 g.row X a eX;have e2:=c1 g.row Y b eY;rw [z] at e1 e2;exact ⟨Za,Za⟩
    ·rw [Y0,U9];refine ⟨fun y hy=>?_,i2⟩;obtain ⟨g,hg,rfl⟩:=Yv.1 hy;exact hrow g hg
    ·rw [List.flatMap_cons];show (List.replicate (a+b) r++_).Perm _;rw [<-List.replicate_append_replicate];have p1:(List.replicate a r++List.replicate b r++(grpM (X.drop a) (Y.drop b)).flatMap fun g=>List.replicate (g.m+g.n) g.row).Perm (List.replicate a r++List.replicate b r++(X.drop a++Y.drop b)):=List.Perm.append_left _ i3;refine p1.trans ?_;have p2:(List.replicate a r++List.replicate b r++(X.drop a++Y.drop b)).Perm (List.replicate a r++X.drop a++(List.replicate b r++Y.drop b)):=by
      rw [Yn,Yn];refine List.Perm.append_left _ ?_;rw [<-Yn,<-Yn];exact List.Perm.append_right _ List.perm_append_comm
     rw [<-eX,<-eY] at p2;exact p2
def jQ (k:Int) (c:Ex) (x y:ByteArray):Qr:= .mk 5 ByteArray.empty k false c [] [] [] [] [scanQ x,scanQ y]
section
variable {c:Ex} {x y:ByteArray} {wx wy:Nat} {R S:List Row}
def okC2 (c:Ex) (r t:Row):Bool:=zM (zG (r++t) c)==1
def innM (c:Ex) (S:List Row) (r:Row):List Row:=(S.filter (okC2 c r)).map (r++ ·)
def missM (c:Ex) (S:List Row) (r:Row):List Row:=if S.any (okC2 c r)=false then [r] else []
def hitM (c:Ex) (S:List Row) (r:Row):List Row:=if S.any (okC2 c r)=true then [r] else []
def restM (c:Ex) (wx:Nat) (R S:List Row):List Row:=(S.filter fun t=> !(R.any fun r=>okC2 c r t)).map (zX wx++ ·)
theorem jL (k:Int) (hk:1<=k/\k<=6) (r:Row):wL (jQ k c x y) wy S r=
 (if k<5 then innM c S r else [])++(if k=2\/k=4 then (missM c S r).map (· ++zX wy) else if k=5 then hitM c S r else if k=6 then missM c S r else []):=by
 have hkd:(jQ k c x y).kind=k:=rfl;have ho:okJ (jQ k c x y)=okC2 c:=rfl;have h6:k=1\/k=2\/k=3\/k=4\/k=5\/k=6:=Za;unfold wL tailJ missM hitM innM;rw [hkd,ho];cases hf:S.any (okC2 c r)<;>rcases h6 with rfl | rfl | rfl | rfl | rfl | rfl<;>simp
theorem jF (k:Int) (hk:1<=k/\k<=6):jnM (jQ k c x y) wx wy R S=
 (R.flatMap fun r=>(if k<5 then innM c S r else [])++(if k=2\/k=4 then (missM c S r).map (· ++zX wy) else if k=5 then hitM c S r else if k=6 then missM c S r else []))++(if k=3\/k=4 then restM c wx R S else []):=by
 have e:wL (jQ k c x y) wy S=fun r=>(if k<5 then innM c S r else [])++(if k=2\/k=4 then (missM c S r).map (· ++zX wy) else if k=5 then hitM c S r else if k=6 then missM c S r else []):=funext fun r=>jL k hk r;unfold jnM;rw [e];rfl
theorem j1:jnM (jQ 1 c x y) wx wy R S=R.flatMap (innM c S):=by rw [jF 1 (by decide)];simp
theorem j2:jnM (jQ 2 c x y) wx wy R S=R.flatMap fun r=>innM c S r++(missM c S r).map (· ++zX wy):=by rw [jF 2 (by decide)];simp
theorem j3:jnM (jQ 3 c x y) wx wy R S=R.flatMap (innM c S)++restM c wx R S:=by rw [jF 3 (by decide)];simp
end
end
section
attribute [local simp, local push_cast] Ta
theorem okV_def:okV (default:Val):=⟨⟨Zi,Zi⟩,Yj _⟩
theorem okV_ints: ∀n∈intsL,i64 n:=by
 have: ∀n∈intsL, -9223372036854775808<=n/\n<=9223372036854775807:=Zi;exact fun n h=>this n h
theorem okV_texts {b:ByteArray} (h:b∈textsL):b.size<=9223372036854775807:=by
 simp only [textsL,YB,List.not_mem_nil,or_false] at h;rcases h with rfl | rfl | rfl | rfl | rfl | rfl | rfl<;>decide
theorem okV_made (k:Int): ∀v∈yK k,okV v:=fun v hv=>by
 unfold yK at hv;rcases YB.1 hv with rfl | hv
 ·exact okV_def
 split at hv
 ·obtain ⟨n,hn,rfl⟩:=Yv.1 hv;exact ⟨okV_ints n hn,Yj _⟩
 split at hv
 ·simp only [YB,List.not_mem_nil,or_false] at hv;rcases hv with rfl | rfl<;>exact ⟨⟨Zi,Zi⟩,Yj _⟩
 split at hv
 ·obtain ⟨n,hn,rfl⟩:=Yv.1 hv;exact ⟨gh,okV_texts hn⟩
 ·cases hv
theorem okV_at {l:List Val} (h: ∀v∈l,okV v) (n:Nat):okV (l.getD n default):=by
 by_cases hn:n<l.length
 ·exact h _ (zk hn)
 ·rw [Yf,List.getElem?_eq_none Za];exact okV_def
theorem okx_const {v:Val} (h:okV v) (k:Int):OkX (kj v k):=by
 unfold kj
 repeat' split
 ·exact ⟨_,h.1,Yj _,fun k hk=>by cases hk⟩
 ·exact ⟨_,h.1,Yj _,fun k hk=>by cases hk⟩
 ·exact ⟨_,gh,h.2,fun k hk=>by cases hk⟩
 ·exact ⟨_,gh,Yj _,fun k hk=>by cases hk⟩
theorem pickE_okx (xs types:List Int) (k:Int) (p:Nat):OkX (xg xs types k p).1:=by
 unfold xg
 split
 ·exact ⟨_,gh,Yj _,fun k hk=>by cases hk⟩
 ·refine okx_const ?_ _;unfold u9;rw [if_pos rfl];exact okV_at (okV_made k) _
theorem bin_okx {op:Int} {l:List Ex} (hk: ∀k∈l,OkX k):OkX (bin op l):=⟨_,gh,Yj _,hk⟩
theorem moreM_okx {f:Int->Nat->Ex×Nat} (hf: ∀k q,OkX (f k q).1) (x:Int) (p:Nat): ∀m,∀e∈(yD f x p m).1,OkX e
 | 0=>by simp [yD]
 | m+1=>by
   intro e he;simp only [yD,Yr,YK] at he;rcases he with he | rfl
   ·exact moreM_okx hf x p m e he
   ·exact hf _ _
theorem stepM_okx {xs types:List Int} {f:Int->Nat->Ex×Nat} (hf: ∀k q,OkX (f k q).1) (k:Int) (p:Nat):OkX (yn xs types f k p).1:=by
 have h1: ∀op x q,OkX (mkE op (oneM f x q)).1:=fun op x q=>bin_okx (by simp [oneM,hf]);have h2: ∀op x q,OkX (mkE op (twoM f x q)).1:=fun op x q=>bin_okx (by simp [twoM,hf]);have h3: ∀op x q,OkX (mkE op (yl f x q)).1:=fun op x q=>bin_okx (by simp [yl,hf]);have h4: ∀op x q,OkX (mkE op (inE xs f x q)).1:=fun op x q=>by
  refine bin_okx ?_;intro e he;simp only [inE,Yr] at he;rcases he with he | he
  ·exact Kf
  ·exact moreM_okx hf _ _ _ e he
 unfold yn qo
 repeat' split
 all_goals first | exact pickE_okx _ _ _ _ | exact h1 _ _ _ | exact h2 _ _ _ | exact h3 _ _ _ | exact h4 _ _ _
theorem exprM_okx (xs types:List Int): ∀(d:Nat) (k:Int) (p:Nat),OkX (ye xs types d k p).1
 | 0,k,p=>pickE_okx ..
 | 1,k,p=>pickE_okx ..
 | d+2,k,p=>stepM_okx (exprM_okx xs types (d+1)) k p
end
end Go.Proofs.YtnmibokjpedkiaaGreatDoor
