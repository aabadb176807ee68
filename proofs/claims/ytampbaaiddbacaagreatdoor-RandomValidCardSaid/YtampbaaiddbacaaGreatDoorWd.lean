/- What random makes of a tape is valid, of its types, and not too large: a proof over an abstract machine of our own (part Wd) -/
import Derived.Test.YtampbaaiddbacaaGreatDoorW0
import Derived.Shelf.Strconv.Itoa4
import Derived.Shelf.Small.Wraps
import Derived.Test.YtampbaaiddbacaaGreatDoorWc
import Derived.Test.YtampbaaiddbacaaGreatDoorWb
import Derived.FnData
import Derived.Lib.ItoaLen
set_option maxRecDepth 100000
set_option maxHeartbeats 4000000
set_option linter.all false
namespace Go.Proofs.YtampbaaiddbacaaGreatDoor
section
open Go.Proofs Go.Shelf
def Tryz.lays173_ren:Go.Shelf.Ren:=⟨fun | 173=>227 | 246=>232 | 283=>238 | 284=>239 | 285=>240 | 286=>241 | 129=>246 | 317=>245 | 318=>247 | 319=>248 | 320=>249 | 337=>250 | 338=>251 | n=>n,fun | 2=>2 | 3=>3 | 9=>9 | 4=>4 | 171=>249 | 0=>0 | 53=>250 | 37=>111 | 5=>5 | 173=>253 | 212=>257 | 51=>238 | 20=>20 | 213=>258 | 46=>230 | 232=>261 | 233=>262 | n=>n,fun | 17=>4 | 18=>5 | 19=>6 | n=>n⟩
theorem Tryz.lays173:Go.Proofs.LaysM.n173 Tryz.prog Tryz.lays173_ren:={
 mixed:=by kernel_rfl
 f129:=Tryz.func246.trans (congrArg some (by kernel_rfl))
 f173:=Tryz.func227.trans (congrArg some (by kernel_rfl))
 f246:=Tryz.func232.trans (congrArg some (by kernel_rfl))
 f283:=Tryz.func238.trans (congrArg some (by kernel_rfl))
 f284:=Tryz.func239.trans (congrArg some (by kernel_rfl))
 f285:=Tryz.func240.trans (congrArg some (by kernel_rfl))
 f286:=Tryz.func241.trans (congrArg some (by kernel_rfl))
 f317:=Tryz.func245.trans (congrArg some (by kernel_rfl))
 f318:=Tryz.func247.trans (congrArg some (by kernel_rfl))
 f319:=Tryz.func248.trans (congrArg some (by kernel_rfl))
 f320:=Tryz.func249.trans (congrArg some (by kernel_rfl))
 f337:=Tryz.func250.trans (congrArg some (by kernel_rfl))
 f338:=Tryz.func251.trans (congrArg some (by kernel_rfl))
 t0:=Tryz.underlying0
 a0:=Tryz.isAgg0
 z0:=Tryz.sizeOf0
 v0:=Tryz.zeroValue0
 t2:=Tryz.underlying2
 a2:=Tryz.isAgg2
 z2:=Tryz.sizeOf2
 v2:=Tryz.zeroValue2
 t3:=Tryz.underlying3
 a3:=Tryz.isAgg3
 z3:=Tryz.sizeOf3
 v3:=Tryz.zeroValue3
 t4:=Tryz.underlying4
 a4:=Tryz.isAgg4
 z4:=Tryz.sizeOf4
 v4:=Tryz.zeroValue4
 t5:=Tryz.underlying5
 a5:=Tryz.isAgg5
 z5:=Tryz.sizeOf5
 v5:=Tryz.zeroValue5
 t9:=Tryz.underlying9
 a9:=Tryz.isAgg9
 z9:=Tryz.sizeOf9
 v9:=Tryz.zeroValue9
 t20:=Tryz.underlying20
 a20:=Tryz.isAgg20
 z20:=Tryz.sizeOf20
 v20:=Tryz.zeroValue20
 t37:=Tryz.underlying111
 a37:=Tryz.isAgg111
 z37:=Tryz.sizeOf111
 v37:=Tryz.zeroValue111
 t46:=Tryz.underlying230
 a46:=Tryz.isAgg230
 z46:=Tryz.sizeOf230
 v46:=Tryz.zeroValue230
 t51:=Tryz.underlying238
 a51:=Tryz.isAgg238
 z51:=Tryz.sizeOf238
 v51:=Tryz.zeroValue238
 t53:=Tryz.underlying250
 a53:=Tryz.isAgg250
 z53:=Tryz.sizeOf250
 v53:=Tryz.zeroValue250
 t171:=Tryz.underlying249
 a171:=Tryz.isAgg249
 z171:=Tryz.sizeOf249
 v171:=Tryz.zeroValue249
 t173:=Tryz.underlying253
 a173:=Tryz.isAgg253
 z173:=Tryz.sizeOf253
 v173:=Tryz.zeroValue253
 t212:=Tryz.underlying257
 a212:=Tryz.isAgg257
 z212:=Tryz.sizeOf257
 v212:=Tryz.zeroValue257
 t213:=Tryz.underlying258
 a213:=Tryz.isAgg258
 z213:=Tryz.sizeOf258
 t232:=Tryz.underlying261
 a232:=Tryz.isAgg261
 z232:=Tryz.sizeOf261
 v232:=Tryz.zeroValue261
 t233:=Tryz.underlying262
 a233:=Tryz.isAgg262
 z233:=Tryz.sizeOf262
 v233:=Tryz.zeroValue262
 g17:=by kernel_rfl
 g18:=by kernel_rfl
 g19:=by kernel_rfl
 i0:=by kernel_rfl
 i2:=by kernel_rfl
 i3:=by kernel_rfl
 i4:=by kernel_rfl
 i5:=by kernel_rfl
 i9:=by kernel_rfl
 i20:=by kernel_rfl
 i37:=by kernel_rfl
 i46:=by kernel_rfl
 i51:=by kernel_rfl
 i53:=by kernel_rfl
 i171:=by kernel_rfl
 i173:=by kernel_rfl
 i212:=by kernel_rfl
 i232:=by kernel_rfl
 i233:=by kernel_rfl
 m17:=by kernel_rfl
 m18:=by kernel_rfl
 m19:=by kernel_rfl}
open Go.RowKit Go.Lib in
theorem Tryz.strconv_FormatInt_10 (n : Int) (h0 : -9223372036854775808 ≤ n) (h1 : n ≤ 9223372036854775807) (w : World) (htab : Lib.TabIs Tryz.prog w "internal/strconv.uint64pow10" .u64 Lib.pow10Tab) :
 Calls Tryz.prog 227 #[.int .i64 n,.int .i64 10] w fun e w'=>e= .returned (.string ⟨(Lib.itoa n).toArray⟩)/\ ∃k os,w'=Sort.grow (w.drewN k) os:=Any.strconv_FormatInt_10 Tryz.lays173 n h0 h1 w htab
def Tryz.lays121_ren:Go.Shelf.Ren:=⟨fun | 121=>228 | 214=>233 | n=>n,fun | 4=>4 | 9=>9 | n=>n,fun | n=>n⟩
theorem Tryz.lays121:Go.Proofs.Lays.n121 Tryz.prog Tryz.lays121_ren:={
 mixed:=by kernel_rfl
 f121:=Tryz.func228.trans (congrArg some (by kernel_rfl))
 f214:=Tryz.func233.trans (congrArg some (by kernel_rfl))
 t4:=Tryz.underlying4
 a4:=Tryz.isAgg4
 z4:=Tryz.sizeOf4
 v4:=Tryz.zeroValue4
 t9:=Tryz.underlying9
 a9:=Tryz.isAgg9
 z9:=Tryz.sizeOf9
 v9:=Tryz.zeroValue9}
open Go.RowKit Go.Lib in
theorem Tryz.strconv_FormatBool (b:Bool) (w:World):
 Calls Tryz.prog 228 #[.bool b] w fun e w'=>e= .returned (.string ⟨(Lib.formatBool b).toArray⟩)/\w'=w:=Any.strconv_FormatBool Tryz.lays121 b w
end
section
open Go.Am
attribute [local simp, local push_cast] num boo str ints aV aTab zA aS
theorem Rel.grown {T:Tab} {cx:Cx} {β:Nat->Option (Option Nat)} {h:Nat->Option Ob} {w:World} (r:Rel cx β h w) (k:Nat) (os:Array Obj):Rel cx β h (Sort.grow (w.drewN k) os)/\(zh cx.Xo β h w).Le (zh cx.Xo β h (Sort.grow (w.drewN k) os)):=by
 have hget: ∀b,b<w.heap.size->(Sort.grow (w.drewN k) os).heap[b]? =w.heap[b]? :=fun b hb=>by
  show (w.heap++os)[b]? =w.heap[b]?
  rw [Array.getElem?_append_left hb]
 refine r.step ⟨rfl,rfl,rfl,?_,?_,fun b hb=> .inl (hget b hb)⟩ r.dom (fun o ob ho=>⟨ob,ho,Ob.grow_refl _ _⟩) (fun _ _ h=> .inl h) r.inj (fun _ _ h=> .inl h)
  (fun o ob bo h1 h2=> .inl ⟨h1,h2,fun b hb=>hget b (r.lt (o:=o) (by rw [h2,hb]))⟩)
 ·show w.heap.size≤(w.heap++os).size
  simp
 ·show w.drawn≤w.drawn+k
  omega
theorem gPow : Tryz.prog.globalNamed "internal/strconv.uint64pow10" = some 4 := by kernel_rfl
theorem rowPow:Tab.tab 4=some (Lib.pow10Tab.map fun z=>D.lit (.int .u64 z)):=rfl
theorem pow_of {w:World} (hs:Sized w 4 (Lib.pow10Tab.map fun z=>D.lit (.int .u64 z)).length) (hc: ∀j d,(Lib.pow10Tab.map fun z=>D.lit (.int .u64 z))[j]? =some (D.lit d)->w.cell? ⟨4,j,none⟩=some d):
 Lib.TabIs Tryz.prog w "internal/strconv.uint64pow10" .u64 Lib.pow10Tab := by
 obtain ⟨c,el,fl,h1,h2⟩:=hs
 have hv : w.var? Tryz.prog "internal/strconv.uint64pow10" = some c := by
  simp only [World.var?,gPow,Option.bind_some,h1]
 unfold Lib.TabIs
 rw [hv]
 congr 1
 apply Array.ext_getElem?
 intro j
 rw [<-World.var?_cell gPow hv j]
 rw [List.length_map] at h2
 rcases Nat.lt_or_ge j Lib.pow10Tab.length with hj | hj
 ·have:=hc j (.int .u64 (Lib.pow10Tab[j])) (by simp [List.getElem?_eq_getElem hj])
  rw [this]
  simp [List.getElem?_eq_getElem hj]
 ·rw [World.var?_cell gPow hv j,Array.getElem?_eq_none (by omega)]
  simp [List.getElem?_eq_none hj]
def itoaB (n:Int):ByteArray:=⟨(Lib.itoa n).toArray⟩
theorem c_fmtInt (n:Int) (h0: -9223372036854775808<=n) (h1:n<=9223372036854775807):ACall Tryz.prog 227 [num n,num 10] [] (str (itoaB n)) [] where
 fn:=⟨_,Tryz.func227,rfl,rfl⟩
 calls:=fun Xo β w vs rel hr=>by
  simp only [repL,num,A.rep,D.rep] at hr
  obtain ⟨_,_,rfl,⟨rfl,_⟩,_,_,rfl,⟨rfl,_⟩,rfl⟩:=hr
  have ht:=rel.tab 4 _ rowPow
  have htab : Lib.TabIs Tryz.prog w "internal/strconv.uint64pow10" .u64 Lib.pow10Tab := pow_of (rel.tsz 4 _ rowPow) fun j d hd => by
   obtain ⟨v,g1,g2⟩:=rowAt_get _ _ _ _ hd ht
   simp only [D.rep] at g2
   rw [g2.1,Nat.zero_add] at g1
   exact g1.2.2
  refine (Tryz.strconv_FormatInt_10 n h0 h1 w htab).mono ?_
  rintro e w' ⟨rfl,k,os,rfl⟩
  obtain ⟨r1,r2⟩:=Rel.grown rel k os
  exact ⟨_,β,rfl,r1,by simp [str,A.rep,D.rep,itoaB,Go.Am.one]⟩
def boolB (b:Bool):ByteArray:=⟨(Lib.formatBool b).toArray⟩
theorem c_fmtBool (b:Bool):ACall Tryz.prog 228 [boo b] [] (str (boolB b)) []:=
 ACall.of_still Tryz.func228 rfl rfl fun w vs E hr hg=>by
  simp only [repL,boo,A.rep,D.rep] at hr
  obtain ⟨_,_,rfl,⟨rfl,_⟩,rfl⟩:=hr
  exact (Tryz.strconv_FormatBool b w).mono fun e w' h=>⟨_,h.1,by simp [D.rep,Go.Am.one,boolB],h.2⟩
end
section
open Go.Am
attribute [local simp, local push_cast] num boo str ints aV aTab zA aS aT aC aRow rRow
def xc (v:Val):ByteArray:=
 if zy v=false then ⟨#[63]⟩ else if v.kind=1 then itoaB v.num else if v.kind=2 then boolB (v.num==1) else if v.kind=3 then (⟨#[39]⟩++v.text)++⟨#[39]⟩ else ⟨#[110,117,108,108]⟩
theorem bsize (l:List UInt8):(⟨l.toArray⟩:ByteArray).size=l.length:=by show l.toArray.size=_;simp
theorem v_num {v:Val} (h:zy v=true) (hk:v.kind=1): -1000000000000<=v.num/\v.num<=1000000000000:=by
 unfold zy at h
 rw [if_neg (by omega),if_pos hk] at h
 simp only [Bool.and_eq_true,decide_eq_true_eq] at h
 omega
theorem v_text {v:Val} (h:zy v=true) (hk:v.kind=3):v.text.size<=24/\wn v.text 0<0:=by
 unfold zy at h
 rw [if_neg (by omega),if_neg (by omega),if_neg (by omega),if_pos hk] at h
 simp only [j4,Bool.and_eq_true,decide_eq_true_eq] at h
 exact h.2
theorem textV_size (v:Val):(xc v).size<=40:=by
 unfold xc
 split
 ·show (1:Nat)<=40;omega
 rename_i h
 have h:zy v=true:=by simpa using h
 split
 ·rename_i hk
  have:=v_num h hk
  have:=Lib.itoa_length_le v.num (by omega) (by omega)
  rw [itoaB,bsize];omega
 split
 ·cases hb:(v.num==1)<;>(show (_:Nat)<=40;decide)
 split
 ·rename_i hk
  have:=(v_text h hk).1
  rw [ByteArray.size_append,ByteArray.size_append]
  show 1+v.text.size+1<=40
  omega
 ·show (4:Nat)<=40;omega
theorem c_vText (v:Val):ACall Tryz.prog 213 [aV v] [] (str (xc v)) []:=by
 refine zp mixed ttok Tryz.func213 Tryz.ntmps213 Tryz.results213 ?_
 generalize hr:str (xc v)=R
 simp -implicitDefEqProofs only [argT,↓zb,push_cast,simprocAttr,tte]
 refine zd [[0,0,0]] [] (wh v) ?_
 simp -implicitDefEqProofs only [↓zb,push_cast,simprocAttr,tte]
 refine za (fun h0=>?_) fun h0=>?_
 ·have h0':zy v=false:=by simpa using h0
  refine zr [0] rfl (by simp) (by simp [zc]<;>omega) ?_ (by first | rfl | simp [ends] | (subst_vars;simp [ends])) (by simp [ends]) (by simp [ends])
  rw [<-hr,xc,if_pos h0'];rfl
 have h0': ¬zy v=false:=by simpa using h0
 have hv:zy v=true:=by simpa using h0
 refine za (fun h1=>?_) fun h1=>?_
 ·have h1':v.kind=1:=by simpa using h1
  have hb:=v_num hv h1'
  refine zd [[0],[0]] [] (c_fmtInt v.num (by omega) (by omega)) ?_
  simp -implicitDefEqProofs only [↓zb,push_cast,simprocAttr,tte]
  refine zr [0] rfl (by simp) (by simp [zc]<;>omega) ?_ (by first | rfl | simp [ends] | (subst_vars;simp [ends])) (by simp [ends]) (by simp [ends])
  rw [<-hr,xc,if_neg h0',if_pos h1'];rfl
 have h1': ¬v.kind=1:=by simpa using h1
 refine za (fun h2=>?_) fun h2=>?_
 ·have h2':v.kind=2:=by simpa using h2
  refine zd [[0]] [] (c_fmtBool (v.num==1)) ?_
  simp -implicitDefEqProofs only [↓zb,push_cast,simprocAttr,tte]
  refine zr [0] rfl (by simp) (by simp [zc]<;>omega) ?_ (by first | rfl | simp [ends] | (subst_vars;simp [ends])) (by simp [ends]) (by simp [ends])
  rw [<-hr,xc,if_neg h0',if_neg h1',if_pos h2'];rfl
 have h2': ¬v.kind=2:=by simpa using h2
 refine za (fun h3=>?_) fun h3=>?_
 ·have h3':v.kind=3:=by simpa using h3
  have ht:=(v_text hv h3').1
  have e1:(⟨#[39]⟩:ByteArray).size=1:=rfl
  refine ⟨by rw [e1];omega,by rw [ByteArray.size_append,e1];omega,?_⟩
  refine zr [0] rfl (by simp) (by simp [zc]<;>omega) ?_ (by first | rfl | simp [ends] | (subst_vars;simp [ends])) (by simp [ends]) (by simp [ends])
  rw [<-hr,xc,if_neg h0',if_neg h1',if_neg h2',if_pos h3'];rfl
 have h3': ¬v.kind=3:=by simpa using h3
 refine zr [0] rfl (by simp) (by simp [zc]<;>omega) ?_ (by first | rfl | simp [ends] | (subst_vars;simp [ends])) (by simp [ends]) (by simp [ends])
 rw [<-hr,xc,if_neg h0',if_neg h1',if_neg h2',if_neg h3'];rfl
def comma:ByteArray:=⟨#[44]⟩
def zN (l:List Val):ByteArray:=l.foldl (fun s v=>s++(xc v++comma)) ⟨#[]⟩
theorem textL_snoc (l:List Val) (v:Val):zN (l++[v])=zN l++(xc v++comma):=by simp [zN]
theorem fold_size: ∀(l:List Val) (s:ByteArray),(l.foldl (fun s v=>s++(xc v++comma)) s).size<=s.size+41 * l.length
 | [],s=>by simp
 | v::l,s=>by
   have h1:=fold_size l (s++(xc v++comma))
   have h2:=textV_size v
   rw [ByteArray.size_append,ByteArray.size_append] at h1
   have h3:comma.size=1:=rfl
   simp only [List.foldl_cons,List.length_cons]
   omega
theorem textL_size (l:List Val):(zN l).size<=41 * l.length:=by
 have:=fold_size l ⟨#[]⟩
 have h3:(⟨#[]⟩:ByteArray).size=0:=rfl
 unfold zN
 omega
theorem kF (l:List Val) (hl:l.length<=1000000):ACall Tryz.prog 195 [aRow l] [] (str (zN l)) []:=by
 refine zp mixed ttok Tryz.func195 Tryz.ntmps195 Tryz.results195 ?_
 generalize hr:str (zN l)=R
 simp -implicitDefEqProofs only [argT,↓zb,push_cast,simprocAttr,tte]
 refine zn mixed ttok 8 [6,7] [] (by simp only [z6,ends,push_cast,simprocAttr];rfl) (by simp only [zB,zo,ends,push_cast,simprocAttr];rfl) l.length (fun _=>True) (fun n=>[(3,str (zN (l.take n)))]) (fun _=>[]) trivial ?_ ?_
 ·exact Weak.keepL (by simp [cst,zN,ends]) (by simp [cst,ends]) (by simp [cst,ends])
 intro I hI n hn hi
 simp -implicitDefEqProofs only [cst,↓zb,push_cast,simprocAttr,tte]
 refine za (fun h=>?_) fun h=>?_
 ·simp only [decide_eq_true_eq] at h
  have h':n<l.length:=by omega
  have hw:=zj h' (by omega)
  have hs:=textL_size (l.take n)
  have hlt:(l.take n).length<=n:=by simp;omega
  have hv:=textV_size (l.getD n default)
  have e1:comma.size=1:=rfl
  refine ⟨(by first | omega | trivial | (refine ⟨?_,?_⟩<;>first | omega | trivial | (refine ⟨?_,?_⟩<;>first | omega | trivial | (refine ⟨?_,?_⟩<;>first | omega | trivial | rfl)))),?_⟩
  refine zd [[0,0,0]] [] (c_vText (l.getD n default)) ?_
  simp -implicitDefEqProofs only [↓zb,push_cast,simprocAttr,tte]
  have ht:zN (l.take (n+1))=zN (l.take n)++(xc (l.getD n default)++comma):=by rw [zH _ _ h',textL_snoc]
  refine ⟨by show (((xc (l.getD n default)).size+comma.size:Nat):Int)<=_;omega,by show (((zN (l.take n)).size+(xc (l.getD n default)++comma).size:Nat):Int)<=_;rw [ByteArray.size_append];omega,?_⟩
  exact zl hI n rfl h' trivial (by simp [hw,ht,comma,ends]) (by simp [hw,ht,comma,ends]) (by simp [hw,ht,comma,ends]) (by simp [hw,ht,comma,ends])
 ·simp only [decide_eq_false_iff_not] at h
  obtain rfl:n=l.length:=by omega
  refine zr [0] rfl (by simp) (by simp [zc]<;>omega) ?_ (by first | rfl | simp [ends] | (subst_vars;simp [ends])) (by simp [ends]) (by simp [ends])
  rw [<-hr,List.take_length];rfl
def yF (v:Val):Bool:=((0:Int)==v.kind&&(0:Int)==v.num)&&(ByteArray.empty.toList==v.text.toList)
theorem c_indexNull (l:List Val) (hl:l.length<=1000000):ACall Tryz.prog 226 [aRow l,aV ⟨0,0,ByteArray.empty⟩] [] (num (fidx yF l)) []:=by
 refine zp mixed ttok Tryz.func226 Tryz.ntmps226 Tryz.results226 ?_
 generalize hr:num (fidx yF l)=R
 simp -implicitDefEqProofs only [argT,↓zb,push_cast,simprocAttr,tte]
 refine zn mixed ttok 8 [0,3,6,7] [3] (by simp only [z6,ends,push_cast,simprocAttr];rfl) (by simp only [zB,zo,ends,push_cast,simprocAttr];rfl) l.length (fun n=> ∀i,i<n->yF (l.getD i default)=false) (fun _=>[]) (fun _=>[]) (fun i h=>absurd h (Nat.not_lt_zero _)) ?_ ?_
 ·exact Weak.keepL (by simp [cst,ends]) (by simp [cst,ends]) (by simp [cst,ends])
 intro I hI n hn hi
 simp -implicitDefEqProofs only [cst,↓zb,push_cast,simprocAttr,tte]
 refine za (fun h=>?_) fun h=>?_
 ·simp only [decide_eq_true_eq] at h
  have h':n<l.length:=by omega
  have hw:=zj h' (by omega)
  refine ⟨(by first | omega | trivial | (refine ⟨?_,?_⟩<;>first | omega | trivial | (refine ⟨?_,?_⟩<;>first | omega | trivial | (refine ⟨?_,?_⟩<;>first | omega | trivial | rfl)))),?_⟩
  refine ⟨zg (by kernel_rfl),?_⟩
  refine za (fun g=>?_) fun g=>?_
  ·have g':yF (l.getD n default)=true:=by simpa [yF,eqFs,and_assoc] using g
   refine zr [0] rfl (by simp) (by simp [zc]<;>omega) ?_ (by first | rfl | simp [ends] | (subst_vars;simp [ends])) (by simp [ends]) (by simp [ends])
   rw [<-hr,x4 _ l n h' hi g'];rfl
  ·have g':yF (l.getD n default)=false:=by simpa [yF,eqFs,and_assoc] using g
   exact zl hI n rfl h' (fun i h2=>if h3:i=n then by rw [h3];exact g' else hi i (by omega)) (by simp [hw,ends]) (by simp [hw,ends]) (by simp [hw,ends]) (by simp [hw,ends])
 ·simp only [decide_eq_false_iff_not] at h
  obtain rfl:n=l.length:=by omega
  refine zr [0] rfl (by simp) (by simp [zc]<;>omega) ?_ (by first | rfl | simp [ends] | (subst_vars;simp [ends])) (by simp [ends]) (by simp [ends])
  rw [<-hr,yO _ l hi];rfl
end
section
open Go.Am
def tx (b:ByteArray):List UInt8:=b.data.toList
theorem vK (a b:ByteArray):tx (a++b)=tx a++tx b:=by simp [tx,ByteArray.data_append]
theorem tx_inj {a b:ByteArray} (h:tx a=tx b):a=b:=ByteArray.ext (Array.toList_inj.1 h)
def dv (l:List UInt8):Nat:=l.foldl (fun a c=>a * 10+(c.toNat-48)) 0
theorem dv_snoc (l:List UInt8) (c:UInt8):dv (l++[c])=dv l * 10+(c.toNat-48):=by simp [dv]
theorem dg_val {u:Nat} (h:u<10):(UInt8.ofNat (48+u)).toNat=48+u:=by
 simp;omega
theorem dv_dec: ∀u:Nat,dv (Lib.decDigits u)=u:=by
 intro u
 induction u using Nat.strongRecOn with
 | ind u ih=>
   rw [Lib.decDigits]
   split
   ·rename_i h
    show 0 * 10+((UInt8.ofNat (48+u)).toNat-48)=u
    rw [dg_val h];omega
   ·rename_i h
    rw [dv_snoc,ih (u / 10) (by omega),dg_val (by omega)]
    omega
theorem kC: ∀(u:Nat),∀c∈Lib.decDigits u,48≤c.toNat∧c.toNat≤57:=by
 intro u
 induction u using Nat.strongRecOn with
 | ind u ih=>
   rw [Lib.decDigits]
   split
   ·rename_i h
    intro c hc
    simp only [List.mem_singleton] at hc
    rw [hc,dg_val h];omega
   ·rename_i h
    intro c hc
    rcases List.mem_append.1 hc with hc | hc
    ·exact ih (u / 10) (by omega) c hc
    ·simp only [List.mem_singleton] at hc
     rw [hc,dg_val (by omega)];omega
theorem dec_inj {u v:Nat} (h:Lib.decDigits u=Lib.decDigits v):u=v:=by rw [<-dv_dec u,<-dv_dec v,h]
theorem itoa_inj {a b:Int} (h:Lib.itoa a=Lib.itoa b):a=b:=by
 unfold Lib.itoa at h
 split at h<;>split at h
 ·simp only [List.cons.injEq,true_and] at h
  have:=dec_inj h
  omega
 ·exfalso
  have:(45:UInt8)∈Lib.decDigits b.toNat:=by rw [<-h];simp
  have:=kC _ _ this
  simp at this
 ·exfalso
  have:(45:UInt8)∈Lib.decDigits a.toNat:=by rw [h];simp
  have:=kC _ _ this
  simp at this
 ·have:=dec_inj h
  omega
theorem qf (a:Int): ∀c∈Lib.itoa a,c.toNat=45\/(48<=c.toNat/\c.toNat<=57):=by
 intro c hc
 unfold Lib.itoa at hc
 split at hc
 ·rcases List.mem_cons.1 hc with rfl | hc
  ·left;rfl
  ·right;exact kC _ _ hc
 ·right;exact kC _ _ hc
theorem cut_at {c:UInt8}: ∀{a b s t:List UInt8},c ∉ a->c ∉ b->a++c::s=b++c::t->a=b/\s=t
 | [],[],s,t,_,_,h=>by simpa using h
 | [],y::b,s,t,_,hb,h=>by
   simp only [List.nil_append,List.cons_append,List.cons.injEq] at h
   exact absurd (h.1 ▸ List.mem_cons_self) hb
 | x::a,[],s,t,ha,_,h=>by
   simp only [List.nil_append,List.cons_append,List.cons.injEq] at h
   exact absurd (h.1 ▸ List.mem_cons_self) ha
 | x::a,y::b,s,t,ha,hb,h=>by
   simp only [List.cons_append,List.cons.injEq] at h
   have:=cut_at (fun q=>ha (List.mem_cons_of_mem _ q)) (fun q=>hb (List.mem_cons_of_mem _ q)) h.2
   exact ⟨by rw [h.1,this.1],this.2⟩
structure OfType (v:Val) (T:Int):Prop where
 ok:zy v=true
 k:v.kind=0\/v.kind=T
theorem kQ {s:ByteArray} (h:(s.toList==[])=true):s=ByteArray.empty:=by
 have h2:s.toList=[]:=by simpa using h
 have:s.data.toList=[]:=by rw [<-ByteArray.toList_eq];exact h2
 apply ByteArray.ext
 apply Array.toList_inj.1
 rw [this];rfl
theorem valid_0 {v:Val} (h:zy v=true) (hk:v.kind=0):v=⟨0,0,ByteArray.empty⟩:=by
 unfold zy at h
 rw [if_pos hk] at h
 simp only [Bool.and_eq_true,beq_iff_eq] at h
 obtain ⟨k,n,s⟩:=v
 simp only at h hk ⊢
 rw [hk,h.1,kQ (s:=s) (by simpa using h.2)]
theorem valid_1 {v:Val} (h:zy v=true) (hk:v.kind=1):v=⟨1,v.num,ByteArray.empty⟩:=by
 unfold zy at h
 rw [if_neg (by omega),if_pos hk] at h
 simp only [Bool.and_eq_true,beq_iff_eq] at h
 obtain ⟨k,n,s⟩:=v
 simp only at h hk ⊢
 rw [hk,kQ (s:=s) (by simpa using h.2)]
theorem valid_2 {v:Val} (h:zy v=true) (hk:v.kind=2):v=⟨2,v.num,ByteArray.empty⟩/\(v.num=0\/v.num=1):=by
 unfold zy at h
 rw [if_neg (by omega),if_neg (by omega),if_pos hk] at h
 simp only [Bool.and_eq_true,Bool.or_eq_true,beq_iff_eq] at h
 obtain ⟨k,n,s⟩:=v
 simp only at h hk ⊢
 rw [hk,kQ (s:=s) (by simpa using h.2)]
 exact ⟨rfl,h.1⟩
theorem valid_3 {v:Val} (h:zy v=true) (hk:v.kind=3):v=⟨3,0,v.text⟩/\(39:UInt8) ∉ tx v.text:=by
 have h0:=h
 unfold zy at h
 rw [if_neg (by omega),if_neg (by omega),if_neg (by omega),if_pos hk] at h
 simp only [Bool.and_eq_true,beq_iff_eq] at h
 obtain ⟨k,n,s⟩:=v
 simp only at h hk ⊢
 rw [hk,h.1]
 refine ⟨rfl,fun hm=>?_⟩
 have h2:=h.2
 rw [textM_eq,Bool.and_eq_true,jl,all_range] at h2
 obtain ⟨i,hi,he⟩:=List.getElem_of_mem hm
 have hi':i<s.size:=by simpa [tx] using hi
 have:=h2.2 i hi'
 have hb:u9 s i=39:=by
  have hd:i<s.data.size:=hi'
  rw [u9,Array.getD_eq_getD_getElem?,Array.getElem?_eq_getElem hd]
  simp only [tx,Array.getElem_toList] at he
  simp [he]
 rw [hb] at this
 exact absurd this (by decide)
theorem kP {v:Val} (h:zy v=true):v.kind=0\/v.kind=1\/v.kind=2\/v.kind=3:=by
 unfold zy at h
 repeat' split at h
 all_goals first | omega | (cases h)
def nullT:List UInt8:=[110,117,108,108]
theorem tx_0 {v:Val} (h:zy v=true) (hk:v.kind=0):tx (xc v)=nullT:=by
 rw [xc,if_neg (by rw [h];decide),if_neg (by omega),if_neg (by omega),if_neg (by omega)];rfl
theorem tx_1 {v:Val} (h:zy v=true) (hk:v.kind=1):tx (xc v)=Lib.itoa v.num:=by
 rw [xc,if_neg (by rw [h];decide),if_pos hk];simp [tx,itoaB]
theorem tx_2 {v:Val} (h:zy v=true) (hk:v.kind=2):tx (xc v)=Lib.formatBool (v.num==1):=by
 rw [xc,if_neg (by rw [h];decide),if_neg (by omega),if_pos hk];simp [tx,boolB]
theorem tx_3 {v:Val} (h:zy v=true) (hk:v.kind=3):tx (xc v)=39::(tx v.text++[39]):=by
 rw [xc,if_neg (by rw [h];decide),if_neg (by omega),if_neg (by omega),if_pos hk,vK,vK];rfl
theorem fb_true:Lib.formatBool true=[116,114,117,101]:=by decide+kernel
theorem fb_false:Lib.formatBool false=[102,97,108,115,101]:=by decide+kernel
theorem no_comma {v:Val} (h:zy v=true) (hk:v.kind≠3):(44:UInt8) ∉ tx (xc v):=by
 rcases kP h with hk0 | hk0 | hk0 | hk0
 ·rw [tx_0 h hk0];decide
 ·rw [tx_1 h hk0]
  intro hm
  have:=qf _ _ hm
  simp at this
 ·rw [tx_2 h hk0]
  cases (v.num==1)
  ·rw [fb_false];decide
  ·rw [fb_true];decide
 ·exact absurd hk0 hk
theorem one_inj {v u:Val} {T:Int} {s t:List UInt8} (hv:OfType v T) (hu:OfType u T) (h:tx (xc v)++44::s=tx (xc u)++44::t):v=u∧s=t:=by
 obtain ⟨v1,v2⟩:=hv
 obtain ⟨u1,u2⟩:=hu
 by_cases kv:v.kind=3
 ·by_cases ku:u.kind=3
  ·obtain ⟨e1,n1⟩:=valid_3 v1 kv
   obtain ⟨e2,n2⟩:=valid_3 u1 ku
   rw [tx_3 v1 kv,tx_3 u1 ku] at h
   simp only [List.cons_append,List.cons.injEq,true_and,List.append_assoc,List.nil_append] at h
   obtain ⟨g1,g2⟩:=cut_at n1 n2 h
   simp only [List.cons.injEq,true_and] at g2
   exact ⟨by rw [e1,e2,tx_inj g1],g2⟩
  ·exfalso
   have k0:u.kind=0:=by rcases u2 with q | q<;>rcases v2 with r | r<;>omega
   rw [tx_3 v1 kv,tx_0 u1 k0] at h
   simp [nullT] at h
 ·by_cases ku:u.kind=3
  ·exfalso
   have k0:v.kind=0:=by rcases u2 with q | q<;>rcases v2 with r | r<;>omega
   rw [tx_3 u1 ku,tx_0 v1 k0] at h
   simp [nullT] at h
  ·obtain ⟨g1,g2⟩:=cut_at (no_comma v1 kv) (no_comma u1 ku) h
   refine ⟨?_,g2⟩
   rcases kP v1 with a | a | a | a<;>rcases kP u1 with c | c | c | c
   all_goals first | exact absurd a kv | exact absurd c ku | skip
   ·rw [valid_0 v1 a,valid_0 u1 c]
   ·exfalso
    rw [tx_0 v1 a,tx_1 u1 c] at g1
    have:=qf u.num 110 (by rw [<-g1];decide)
    simp at this
   ·exfalso
    rw [tx_0 v1 a,tx_2 u1 c] at g1
    cases hb:(u.num==1)<;>rw [hb] at g1<;>first | rw [fb_true] at g1 | rw [fb_false] at g1
    all_goals exact absurd g1 (by decide)
   ·exfalso
    rw [tx_0 u1 c,tx_1 v1 a] at g1
    have:=qf v.num 110 (by rw [g1];decide)
    simp at this
   ·rw [tx_1 v1 a,tx_1 u1 c] at g1
    rw [valid_1 v1 a,valid_1 u1 c,itoa_inj g1]
   ·exfalso;rcases u2 with q | q<;>rcases v2 with r | r<;>omega
   ·exfalso
    rw [tx_0 u1 c,tx_2 v1 a] at g1
    cases hb:(v.num==1)<;>rw [hb] at g1<;>first | rw [fb_true] at g1 | rw [fb_false] at g1
    all_goals exact absurd g1 (by decide)
   ·exfalso;rcases u2 with q | q<;>rcases v2 with r | r<;>omega
   ·rw [tx_2 v1 a,tx_2 u1 c] at g1
    obtain ⟨e1,b1⟩:=valid_2 v1 a
    obtain ⟨e2,b2⟩:=valid_2 u1 c
    have:v.num=u.num:=by
     rcases b1 with b1 | b1<;>rcases b2 with b2 | b2<;>rw [b1,b2] at g1<;>first | rw [b1,b2] | skip
     ·exact absurd g1 (by decide+kernel)
     ·exact absurd g1 (by decide+kernel)
    rw [e1,e2,this]
theorem tx_fold: ∀(l:List Val) (s:ByteArray),tx (l.foldl (fun s v=>s++(xc v++comma)) s)=tx s++tx (zN l)
 | [],s=>by simp [zN,tx]
 | v::l,s=>by
   simp only [zN,List.foldl_cons]
   rw [tx_fold l,tx_fold l (⟨#[]⟩++_),vK,vK]
   simp [tx]
theorem textL_cons (v:Val) (l:List Val):tx (zN (v::l))=tx (xc v)++44::tx (zN l):=by
 show tx (l.foldl _ _)=_
 rw [tx_fold,vK,vK]
 show []++(tx (xc v)++[44])++_=_
 simp
theorem textL_inj: ∀(a b:List Val) (ts:List Int),a.length=ts.length->b.length=ts.length->(∀i,i<ts.length->OfType (a.getD i default) (ts.getD i 0))->(∀i,i<ts.length->OfType (b.getD i default) (ts.getD i 0))->
 zN a=zN b->a=b
 | [],[],[],_,_,_,_,_=>rfl
 | v::a,u::b,T::ts,ha,hb,h1,h2,h=>by
   have h':=congrArg tx h
   rw [textL_cons,textL_cons] at h'
   obtain ⟨e1,e2⟩:=one_inj (T:=T) (by simpa using h1 0 (by simp)) (by simpa using h2 0 (by simp)) h'
   have:=textL_inj a b ts (by simpa using ha) (by simpa using hb) (fun i hi=>by simpa using h1 (i+1) (by simpa using hi)) (fun i hi=>by simpa using h2 (i+1) (by simpa using hi)) (tx_inj e2)
   rw [e1,this]
 | [],_::_,[],_,hb,_,_,_=>by simp at hb
 | _::_,_,[],ha,_,_,_,_=>by simp at ha
 | [],_,_::_,ha,_,_,_,_=>by simp at ha
 | _::_,[],_::_,_,hb,_,_,_=>by simp at hb
end
section
open Go.Am
attribute [local simp, local push_cast] num boo str ints aV aTab zA aS aT aC aRow rRow rTab
theorem ret_as {p:Prop} {a:A} {t:List (Nat×A)} {o os':List (Nat×Ob)} (hp:p) (hc:a.closed (inO os')=true) (ho:keepO (lookO o) (inO os') os') (hin:keepIn (inO os') o):retx (some (p,a)) ⟨t,o⟩ a os':=
 ⟨hp,Weak.keep (σ:=⟨[(0,a)],os'⟩) ⟨⟨rfl,hc⟩,trivial⟩ ho hin⟩
structure Vio where
 kind:Int
 table:Int
 index:Int
 row:Int
 other:Int
instance:Inhabited Vio:=⟨⟨0,0,0,0,0⟩⟩
def rVio (v:Vio):List D:=[.lit (.int .i64 v.kind),.lit (.int .i64 v.table),.lit (.int .i64 v.index),.lit (.int .i64 v.row),.lit (.int .i64 v.other)]
def vO (out:List Vio):Ob:= .vec 173 5 (ze rVio out) 0
def fO (s:Sch) (i:Inst) (b:A) (n:Nat):Ob:= .var [.d (.sl 6 (ze rT s)),.d (.sl 1 (ze rTab i)),b,.vec 1001 n]
attribute [local simp, local push_cast] vO fO
theorem c_partial (l:List Val) (hl:l.length<=1000000):ACall Tryz.prog 194 [aRow l] [] (boo (l.any yF)) []:=by
 have h122:ACall Tryz.prog 212 [aRow l,aV ⟨0,0,ByteArray.empty⟩] [] (boo (l.any yF)) []:=by
  refine zp mixed ttok Tryz.func212 Tryz.ntmps212 Tryz.results212 ?_
  generalize hr:boo (l.any yF)=R
  simp -implicitDefEqProofs only [argT,↓zb,push_cast,simprocAttr,tte]
  refine zd [[3],[0,0,0]] [] (c_indexNull l hl) ?_
  simp -implicitDefEqProofs only [↓zb,push_cast,simprocAttr,tte]
  refine zr [0] rfl (by simp) (by simp [zc]<;>omega) ?_ (by first | rfl | simp [ends] | (subst_vars;simp [ends])) (by simp [ends]) (by simp [ends])
  rw [<-hr,<-jX];rfl
 refine zp mixed ttok Tryz.func194 Tryz.ntmps194 Tryz.results194 ?_
 generalize hr:boo (l.any yF)=R
 simp -implicitDefEqProofs only [argT,↓zb,push_cast,simprocAttr,tte]
 refine zd [[3],[0,0,0]] [] (h122) ?_
 simp -implicitDefEqProofs only [↓zb,push_cast,simprocAttr,tte]
 refine zr [0] rfl (by simp) (by simp [zc]<;>omega) ?_ (by first | rfl | simp [ends] | (subst_vars;simp [ends])) (by simp [ends]) (by simp [ends])
 exact hr
def z7 (r:Row) (cols:List Int):List Val:=cols.map fun c=>r.getD c.toNat default
theorem c_part (r:Row) (cols:List Int) (hl:cols.length<=1000000) (hc: ∀c∈cols,0<=c/\c<r.length):ACall Tryz.prog 193 [aRow r,ints cols] [] (aRow (z7 r cols)) []:=by
 refine zp mixed ttok Tryz.func193 Tryz.ntmps193 Tryz.results193 ?_
 generalize hr:aRow (z7 r cols)=R
 simp -implicitDefEqProofs only [argT,↓zb,push_cast,simprocAttr,tte]
 refine zn mixed ttok 10 [0,8,9] [] (by simp only [z6,ends,push_cast,simprocAttr];rfl) (by simp only [zB,zo,ends,push_cast,simprocAttr];rfl) cols.length (fun _=>True) (fun n=>[(5,.vec 500 n)]) (fun n=>[(500,.vec 45 3 (ze rV (z7 r (cols.take n))) 0)]) trivial ?_ ?_
 ·exact (Weak.nilL 5 500 45 3 rfl rfl).trans (Weak.keepL (by simp [cst,ends]) (by simp [cst,z7,ends]) (by simp [cst,ends]))
 intro I hI n hn hi
 have hl2:(z7 r (cols.take n)).length=n:=by simp [z7];omega
 simp -implicitDefEqProofs only [cst,↓zb,push_cast,simprocAttr,tte]
 refine za (fun h=>?_) fun h=>?_
 ·simp only [decide_eq_true_eq] at h
  have h':n<cols.length:=by omega
  have hw:=zj h' (by omega)
  have hcn:=hc _ (zi h')
  have ht:z7 r (cols.take (n+1))=z7 r (cols.take n)++[r.getD (cols.getD n default).toNat default]:=by rw [zH _ _ h',z7,List.map_append];rfl
  refine ⟨(by first | omega | trivial | (refine ⟨?_,?_⟩<;>first | omega | trivial | (refine ⟨?_,?_⟩<;>first | omega | trivial | (refine ⟨?_,?_⟩<;>first | omega | trivial | rfl)))),⟨by omega,by omega⟩,⟨hl2.symm,by rw [hl2];omega⟩,?_⟩
  exact zl hI n rfl h' trivial (by simp [hw,ht,hl2,zf,Nat.min_eq_left hn,ends]) (by simp [hw,ht,hl2,zf,Nat.min_eq_left hn,ends]) (by simp [hw,ht,hl2,zf,Nat.min_eq_left hn,ends]) (by simp [hw,ht,hl2,zf,Nat.min_eq_left hn,ends])
 ·simp only [decide_eq_false_iff_not] at h
  obtain rfl:n=cols.length:=by omega
  rw [List.take_length] at hl2 ⊢
  refine zr [3] rfl (by simp) (by simp [zc]<;>omega) ?_ (by first | rfl | simp [ends] | (subst_vars;simp [ends])) (by simp [ends]) (by simp [ends])
  exact hr
theorem gb (s:Sch) (i:Inst) (b:List Bool) (out:List Vio) (k t x r o:Int) (hl:out.length<=3000000000000):
 ACall Tryz.prog 166 [.ptr 1000 0,num k,num t,num x,num r,num o] [(1000,fO s i (.d (.sl 1 (ze rB b))) out.length),(1001,vO out)] (.tup [])
  [(1000,fO s i (.d (.sl 1 (ze rB b))) (out.length+1)),(1001,vO (out++[⟨k,t,x,r,o⟩]))]:=by
 refine zp mixed ttok Tryz.func166 Tryz.ntmps166 Tryz.results166 ?_
 simp -implicitDefEqProofs only [argT,↓zb,push_cast,simprocAttr,tte]
 refine ⟨by omega,?_⟩
 refine ret_as (by trivial) (by trivial) ?_ ?_
 ·simp [ze,rVio,ends]
 ·simp [ends]
end
section
open Go.Am
attribute [local simp, local push_cast] num boo str ints aV aTab zA aS aT aC aRow rRow rTab vO fO
theorem jV (a b:ByteArray):(a==b)=decide (a=b):=by
 have h:(a==b)=(a.data==b.data):=rfl
 rw [h]
 by_cases h2:a=b
 ·rw [h2];simp
 ·rw [decide_eq_false h2,beq_eq_false_iff_ne]
  exact fun h3=>h2 (ByteArray.ext h3)
instance:LawfulBEq ByteArray where
 eq_of_beq:=fun {a b} h=>by rw [jV] at h;exact of_decide_eq_true h
 rfl:=fun {a}=>by rw [jV];simp
def encS (es:List (ByteArray×Int)):List (Value×Value):=es.map fun p=>(.string p.1,.int .i64 p.2)
def wA (k:ByteArray):List (ByteArray×Int)->Option Int
 | []=>none
 | p::es=>if k=p.1 then some p.2 else wA k es
theorem jm (k:ByteArray): ∀(es:List (ByteArray×Int)) (i:Nat),wA k es=none->yG (.string k) (encS es) i=some none
 | [],_,_=>rfl
 | p::es,i,h=>by
   simp only [wA] at h
   split at h
   ·cases h
   ·rename_i hn
    have ih:=jm k es (i+1) h
    simp only [encS] at ih
    simp only [encS,List.map_cons,yG,xd,jV,decide_eq_false hn]
    exact ih
theorem mfind_some (k:ByteArray): ∀(es:List (ByteArray×Int)) (i:Nat) (o:Int),wA k es=some o-> ∃j,yG (.string k) (encS es) i=some (some (j,.int .i64 o))
 | [],_,_,h=>by simp [wA] at h
 | p::es,i,o,h=>by
   simp only [wA] at h
   split at h
   ·rename_i he
    cases h
    exact ⟨i,by simp [encS,yG,xd,he,jV]⟩
   ·rename_i hn
    obtain ⟨j,hj⟩:=mfind_some k es (i+1) o h
    refine ⟨j,?_⟩
    simp only [encS] at hj
    simp only [encS,List.map_cons,yG,xd,jV,decide_eq_false hn]
    exact hj
theorem mput_new (k:ByteArray) (n:Int) (es:List (ByteArray×Int)) (h:wA k es=none):mput (.string k) (.int .i64 n) (encS es)=some (encS (es++[(k,n)])):=by
 unfold mput
 rw [jm k es 0 h]
 simp [encS]
def wL (kind table index:Int) (cols:List Int) (nulls:Bool):List Row→Nat→List (ByteArray×Int)→List Vio
 | [],_,_=>[]
 | r::rs,n,es=>
   if (!nulls&&(z7 r cols).any yF)=true then wL kind table index cols nulls rs (n+1) es
   else match wA (zN (z7 r cols)) es with
    | some o=>⟨kind,table,index,n,o⟩::wL kind table index cols nulls rs (n+1) es
    | none=>wL kind table index cols nulls rs (n+1) (es++[(zN (z7 r cols),(n:Int))])
def keyM (kind table index:Int) (cols:List Int) (nulls:Bool) (rows:List Row):List Vio:=wL kind table index cols nulls rows 0 []
def K3 (s:Sch) (i:Inst) (b:List Bool) (kind index:Int) (t:Nat) (cols:List Int) (nulls:Bool) (rows:List Row) (x:Nat×List (ByteArray×Int)×List Vio):SL:=
 ⟨[(28,.d (.lit (.int .i64 x.1))),(27,.d (.lit (.int .i64 rows.length))),(26,.d (.sl 1 (ze rRow rows))),(12,.mp 18),(0,.ptr 1000 0),(1,num kind),(2,num t),(3,num index),(4,ints cols),(5,boo nulls)],
  [(18,.mp (encS x.2.1)),(1000,fO s i (.d (.sl 1 (ze rB b))) x.2.2.length),(1001,vO x.2.2)]⟩
theorem c_fkey (s:Sch) (i:Inst) (b:List Bool) (out:List Vio) (kind index:Int) (t:Nat) (cols:List Int) (nulls:Bool) (ht:t<i.length) (hl:(i.getD t default).length≤1000) (ho:out.length≤2000000000000)
 (hcl:cols.length<=1000) (hc: ∀r∈i.getD t default,∀c∈cols,0<=c/\c<r.length):
 ACall Tryz.prog 168 [.ptr 1000 0,num kind,num t,num index,ints cols,boo nulls] [(1000,fO s i (.d (.sl 1 (ze rB b))) out.length),(1001,vO out)] (.tup [])
  [(1000,fO s i (.d (.sl 1 (ze rB b))) (out++keyM kind t index cols nulls (i.getD t default)).length),(1001,vO (out++keyM kind t index cols nulls (i.getD t default)))]:=by
 refine zp mixed ttok Tryz.func168 Tryz.ntmps168 Tryz.results168 ?_
 simp -implicitDefEqProofs only [argT,↓zb,push_cast,simprocAttr,tte]
 refine ⟨by omega,?_⟩
 generalize hrows:i.getD t default=rows at hl hc ⊢
 refine yc mixed ttok (fun x:Nat×List (ByteArray×Int)×List Vio=>K3 s i b kind index t cols nulls rows x) (fun x=>rows.length-x.1)
  (fun x=>x.1<=rows.length/\x.2.2++wL kind t index cols nulls (rows.drop x.1) x.1 x.2.1=out++keyM kind t index cols nulls rows/\x.2.2.length<=out.length+x.1) (0,[],out) ⟨Nat.zero_le _,rfl,Nat.le_refl _⟩ ?_ ?_
 ·exact (Weak.mpAny 18 rfl).trans (Weak.keepL (by simp [K3,ends]) (by simp [K3,encS,ends]) (by simp [K3,ends]))
 rintro I hI ⟨n,es,o2⟩ ⟨hn,hi,hol⟩
 simp only at hn hi hol
 simp -implicitDefEqProofs only [K3,↓zb,push_cast,simprocAttr,tte]
 refine za (fun h=>?_) fun h=>?_
 ·simp only [decide_eq_true_eq] at h
  have h':n<rows.length:=by omega
  have hw:=zj h' (by omega)
  rw [zR rows n h'] at hi
  have hcn:=hc _ (zi h')
  refine ⟨(by first | omega | trivial | (refine ⟨?_,?_⟩<;>first | omega | trivial | (refine ⟨?_,?_⟩<;>first | omega | trivial | (refine ⟨?_,?_⟩<;>first | omega | trivial | rfl)))),?_⟩
  generalize hrn:rows.getD n default=r at hi hcn
  refine zd [[3],[1]] [] (c_part r cols (by omega) hcn) ?_
  have hxl:(z7 r cols).length=cols.length:=by simp [z7]
  simp only [wL] at hi
  generalize hx:z7 r cols=x at hi hxl
  cases nulls with
  | true=>
    simp -implicitDefEqProofs only [↓zb,push_cast,simprocAttr,tte]
    refine zd [[3]] [] (kF x (by omega)) ?_
    cases hF:wA (zN x) es with
    | some o=>
      obtain ⟨jj,hj⟩:=mfind_some (zN x) es 0 o hF
      rw [if_neg (by simp),hF] at hi
      simp -implicitDefEqProofs only [hj,↓zb,push_cast,simprocAttr,tte]
      refine zd [[],[],[],[],[],[]] [(1000,1000),(1001,1001)] (gb s i b o2 kind t index n o (by omega)) ?_
      simp -implicitDefEqProofs only [↓zb,push_cast,simprocAttr,tte]
      refine zw hI (n+1,es,o2++[⟨kind,t,index,n,o⟩]) ⟨h',by simpa using hi,by simp;omega⟩ (by show rows.length-(n+1)<rows.length-n;omega) (Weak.keepL (by simp [K3,hw,ends]) (by simp [K3,ends]) (by simp [K3,ends]))
    | none=>
      have hj:=jm (zN x) es 0 hF
      rw [if_neg (by simp),hF] at hi
      simp -implicitDefEqProofs only [hj,↓zb,push_cast,simprocAttr,tte]
      refine zd [[3]] [] (kF x (by omega)) ?_
      have hm:=mput_new (zN x) n es hF
      simp -implicitDefEqProofs only [hm,↓zb,push_cast,simprocAttr,tte]
      refine zw hI (n+1,es++[(zN x,(n:Int))],o2) ⟨h',hi,by simp only;omega⟩ (by show rows.length-(n+1)<rows.length-n;omega) (Weak.keepL (by simp [K3,hw,ends]) (by simp [K3,ends]) (by simp [K3,ends]))
  | false=>
    simp -implicitDefEqProofs only [↓zb,push_cast,simprocAttr,tte]
    refine zd [[3]] [] (c_partial x (by omega)) ?_
    simp -implicitDefEqProofs only [↓zb,push_cast,simprocAttr,tte]
    refine za (fun g=>?_) fun g=>?_
    ·rw [if_pos (by rw [g];rfl)] at hi
     exact zw hI (n+1,es,o2) ⟨h',hi,by simp only;omega⟩ (by show rows.length-(n+1)<rows.length-n;omega) (Weak.keepL (by simp [K3,hw,ends]) (by simp [K3,ends]) (by simp [K3,ends]))
    refine zd [[3]] [] (kF x (by omega)) ?_
    cases hF:wA (zN x) es with
    | some o=>
      obtain ⟨jj,hj⟩:=mfind_some (zN x) es 0 o hF
      rw [if_neg (by rw [g];decide),hF] at hi
      simp -implicitDefEqProofs only [hj,↓zb,push_cast,simprocAttr,tte]
      refine zd [[],[],[],[],[],[]] [(1000,1000),(1001,1001)] (gb s i b o2 kind t index n o (by omega)) ?_
      simp -implicitDefEqProofs only [↓zb,push_cast,simprocAttr,tte]
      refine zw hI (n+1,es,o2++[⟨kind,t,index,n,o⟩]) ⟨h',by simpa using hi,by simp;omega⟩ (by show rows.length-(n+1)<rows.length-n;omega) (Weak.keepL (by simp [K3,hw,ends]) (by simp [K3,ends]) (by simp [K3,ends]))
    | none=>
      have hj:=jm (zN x) es 0 hF
      rw [if_neg (by rw [g];decide),hF] at hi
      simp -implicitDefEqProofs only [hj,↓zb,push_cast,simprocAttr,tte]
      refine zd [[3]] [] (kF x (by omega)) ?_
      have hm:=mput_new (zN x) n es hF
      simp -implicitDefEqProofs only [hm,↓zb,push_cast,simprocAttr,tte]
      refine zw hI (n+1,es++[(zN x,(n:Int))],o2) ⟨h',hi,by simp only;omega⟩ (by show rows.length-(n+1)<rows.length-n;omega) (Weak.keepL (by simp [K3,hw,ends]) (by simp [K3,ends]) (by simp [K3,ends]))
 ·simp only [decide_eq_false_iff_not] at h
  obtain rfl:n=rows.length:=by omega
  have he:out++keyM kind t index cols nulls rows=o2:=by rw [<-hi,List.drop_length];simp [wL]
  rw [he]
  refine ret_as (by trivial) (by trivial) ?_ ?_
  ·simp [ends]
  ·simp [ends]
end
section
open Go.Am
attribute [local simp, local push_cast] num boo str ints aV aTab zA aS aT aC aRow rRow rTab vO fO zV rB
theorem c_ptarget (s:Sch) (i j to:Nat) (hs:s.length<=1000) (hi:i<s.length) (hj:j<(s.getD i default).foreigns.length) (hto:byT s ((s.getD i default).foreigns.getD j default).table=to):
 ACall Tryz.prog 196 [aS s,num i,num j] [] (.tup [num to,boo true]) []:=by
 refine zp mixed ttok Tryz.func196 Tryz.ntmps196 Tryz.results196 ?_
 generalize hr:A.tup [num to,boo true]=R
 have d1:decide ((i:Int)<0)=false:=decide_eq_false (by omega)
 have d2:decide ((i:Int)≥s.length)=false:=decide_eq_false (by omega)
 have d3:decide ((j:Int)<0)=false:=decide_eq_false (by omega)
 have d4:decide ((j:Int)≥(s.getD i default).foreigns.length)=false:=decide_eq_false (by omega)
 simp -implicitDefEqProofs only [argT,d1,d2,d3,d4,↓zb,push_cast,simprocAttr,tte]
 refine ⟨by omega,by omega,by omega,?_⟩
 refine zd [[6],[0]] [] (c_find s ((s.getD i default).foreigns.getD j default).table (by omega)) ?_
 rw [hto]
 have d5:(0>(to:Int))=False:=by simp
 have d6:decide ((to:Int)≥0)=true:=decide_eq_true (by omega)
 simp -implicitDefEqProofs only [d5,d6,↓zb,push_cast,simprocAttr,tte]
 refine ⟨zg (by kernel_rfl),?_⟩
 exact zD trivial (by rw [<-hr,num];rfl) (by simp [ends])
def encB (ks:List ByteArray):List (Value×Value):=ks.map fun k=>(.string k,.bool true)
def addB (ks:List ByteArray) (k:ByteArray):List ByteArray:=if k∈ks then ks else ks++[k]
def setB (l:List ByteArray):List ByteArray:=l.foldl addB []
theorem setB_snoc (l:List ByteArray) (k:ByteArray):setB (l++[k])=addB (setB l) k:=by simp [setB]
theorem mem_addB {ks:List ByteArray} {k x:ByteArray}:x∈addB ks k ↔ x∈ks\/x=k:=by
 unfold addB;split
 ·rename_i h
  exact ⟨.inl,fun q=>q.elim id fun e=>e ▸ h⟩
 ·simp
theorem mem_fold: ∀(l ks:List ByteArray) (x:ByteArray),x∈l.foldl addB ks ↔ x∈ks\/x∈l
 | [],ks,x=>by simp
 | k::l,ks,x=>by
   simp only [List.foldl_cons,mem_fold l,mem_addB,List.mem_cons,or_assoc]
theorem mem_setB {l:List ByteArray} {x:ByteArray}:x∈setB l ↔ x∈l:=by simp [setB,mem_fold]
theorem mfind_out (k:ByteArray): ∀(ks:List ByteArray) (i:Nat),k ∉ ks->yG (.string k) (encB ks) i=some none
 | [],_,_=>rfl
 | p::ks,i,h=>by
   simp only [List.mem_cons,not_or] at h
   have ih:=mfind_out k ks (i+1) h.2
   simp only [encB] at ih
   simp only [encB,List.map_cons,yG,xd,jV,decide_eq_false h.1]
   exact ih
theorem mfind_in (k:ByteArray): ∀(ks:List ByteArray) (i:Nat),k∈ks-> ∃j,yG (.string k) (encB ks) i=some (some (i+j,.bool true))/\(encB ks)[j]? =some (.string k,.bool true)
 | [],_,h=>by simp at h
 | p::ks,i,h=>by
   by_cases he:k=p
   ·exact ⟨0,by simp [encB,yG,xd,he,jV],by simp [encB,he]⟩
   ·obtain ⟨j,h1,h2⟩:=mfind_in k ks (i+1) ((List.mem_cons.1 h).resolve_left he)
    refine ⟨j+1,?_,by simpa [encB] using h2⟩
    simp only [encB] at h1
    simp only [encB,List.map_cons,yG,xd,jV,decide_eq_false he]
    rw [h1];congr 3;omega
theorem mput_encB (k:ByteArray) (ks:List ByteArray):mput (.string k) (.bool true) (encB ks)=some (encB (addB ks k)):=by
 unfold mput
 by_cases h:k∈ks
 ·obtain ⟨j,h1,h2⟩:=mfind_in k ks 0 h
  rw [h1,addB,if_pos h,Nat.zero_add]
  simp only [Option.some.injEq]
  apply List.ext_getElem?
  intro q
  rw [List.getElem?_set]
  split
  ·rename_i e
   subst e
   split
   ·exact h2.symm
   ·rename_i hlt
    rw [List.getElem?_eq_none (by omega)]
  ·rfl
 ·rw [mfind_out k ks 0 h,addB,if_neg h]
  simp [encB]
def uN (table index:Int) (cols:List Int) (ks:List ByteArray):List Row→Nat→List Vio
 | [],_=>[]
 | r::rs,n=>
   if (z7 r cols).any yF=true then uN table index cols ks rs (n+1)
   else if zN (z7 r cols)∈ks then uN table index cols ks rs (n+1)
   else ⟨6,table,index,n,0⟩::uN table index cols ks rs (n+1)
def uc (table index:Int) (cols:List Int) (bad:Bool) (prim:List Int) (there rows:List Row):List Vio:=
 if bad=true then [] else uN table index cols (there.map fun r=>zN (z7 r prim)) rows 0
def F4 (s:Sch) (i:Inst) (b:List Bool) (out:List Vio) (t j to:Nat) (prim:List Int) (there:List Row) (n:Nat):SL:=
 ⟨[(45,.d (.lit (.int .i64 n))),(44,.d (.lit (.int .i64 there.length))),(43,.d (.sl 1 (ze rRow there))),(8,.mp 35),(6,num to),(0,.ptr 1000 0),(1,num t),(2,num j)],
  [(35,.mp (encB (setB ((there.take n).map fun r=>zN (z7 r prim))))),(1000,fO s i (.d (.sl 1 (ze rB b))) out.length),(1001,vO out)]⟩
def G4 (s:Sch) (i:Inst) (b:List Bool) (t j:Nat) (ks:List ByteArray) (rows:List Row) (x:Nat×List Vio):SL:=
 ⟨[(72,.d (.lit (.int .i64 x.1))),(71,.d (.lit (.int .i64 rows.length))),(70,.d (.sl 1 (ze rRow rows))),(8,.mp 35),(0,.ptr 1000 0),(1,num t),(2,num j)],
  [(35,.mp (encB (setB ks))),(1000,fO s i (.d (.sl 1 (ze rB b))) x.2.length),(1001,vO x.2)]⟩
theorem c_foreign (s:Sch) (i:Inst) (b:List Bool) (out:List Vio) (t j to:Nat) (hs:s.length≤1000) (ht:t<s.length) (hti:t<i.length) (hj:j<(s.getD t default).foreigns.length)
 (hto:byT s ((s.getD t default).foreigns.getD j default).table=to) (hts:to<s.length) (htoi:to<i.length) (htb:to<b.length)
 (hl:(i.getD t default).length<=1000) (hl2:(i.getD to default).length<=1000) (ho:out.length<=2000000000000)
 (hcl:((s.getD t default).foreigns.getD j default).columns.length<=1000) (hpl:(s.getD to default).primary.length<=1000)
 (hc: ∀r∈i.getD t default,∀c∈((s.getD t default).foreigns.getD j default).columns,0<=c/\c<r.length)
 (hp:b.getD to default=false-> ∀r∈i.getD to default,∀c∈(s.getD to default).primary,0<=c/\c<r.length)
 (V:List Vio) (hV:uc t j ((s.getD t default).foreigns.getD j default).columns (b.getD to default) (s.getD to default).primary (i.getD to default) (i.getD t default)=V):
 ACall Tryz.prog 169 [.ptr 1000 0,num t,num j] [(1000,fO s i (.d (.sl 1 (ze rB b))) out.length),(1001,vO out)] (.tup [])
  [(1000,fO s i (.d (.sl 1 (ze rB b))) (out++V).length),(1001,vO (out++V))]:=by
 refine zp mixed ttok Tryz.func169 Tryz.ntmps169 Tryz.results169 ?_
 simp -implicitDefEqProofs only [argT,↓zb,push_cast,simprocAttr,tte]
 refine zd [[6],[],[]] [] (c_ptarget s t j to hs ht hj hto) ?_
 simp -implicitDefEqProofs only [↓zb,push_cast,simprocAttr,tte]
 refine ⟨by omega,?_⟩
 refine za (fun hb=>?_) fun hb=>?_
 ·rw [uc,if_pos hb] at hV
  subst hV
  refine ret_as trivial rfl ?_ ?_
  ·simp [ends]
  ·simp [ends]
 have hp:=hp hb
 rw [uc,if_neg (by rw [hb];decide)] at hV
 clear hb
 refine ⟨by omega,?_⟩
 generalize hR2:i.getD to default=there at hl2 hp hV ⊢
 generalize hR1:i.getD t default=rows at hl hc hV ⊢
 generalize hP:(s.getD to default).primary=prim at hpl hp hV
 generalize hC:((s.getD t default).foreigns.getD j default).columns=cols at hcl hc hV
 refine yc mixed ttok (fun n:Nat=>F4 s i b out t j to prim there n) (fun n=>there.length-n) (fun n=>n<=there.length) 0 (Nat.zero_le _) ?_ ?_
 ·exact (Weak.mpAny 35 rfl).trans (Weak.keepL (by simp [F4,ends]) (by simp [F4,encB,setB,ends]) (by simp [F4,ends]))
 intro I hI n hn
 simp -implicitDefEqProofs only [F4,↓zb,push_cast,simprocAttr,tte]
 refine za (fun h=>?_) fun h=>?_
 ·simp only [decide_eq_true_eq] at h
  have h':n<there.length:=by omega
  have hw:=zj h' (by omega)
  refine ⟨(by first | omega | trivial | (refine ⟨?_,?_⟩<;>first | omega | trivial | (refine ⟨?_,?_⟩<;>first | omega | trivial | (refine ⟨?_,?_⟩<;>first | omega | trivial | rfl)))),by omega,?_⟩
  have hpn:=hp _ (zi h')
  have hts:(there.take (n+1)).map (fun r=>zN (z7 r prim))=(there.take n).map (fun r=>zN (z7 r prim))++[zN (z7 (there.getD n default) prim)]:=by rw [zH _ _ h',List.map_append];rfl
  have hset:setB ((there.take (n+1)).map (fun r=>zN (z7 r prim)))=addB (setB ((there.take n).map fun r=>zN (z7 r prim))) (zN (z7 (there.getD n default) prim)):=by rw [hts,setB_snoc]
  rw [hP]
  refine zd [[3],[1]] [] (c_part (there.getD n default) prim (by omega) hpn) ?_
  simp -implicitDefEqProofs only [↓zb,push_cast,simprocAttr,tte]
  refine zd [[3]] [] (kF (z7 (there.getD n default) prim) (by simp [z7];omega)) ?_
  have hm:=mput_encB (zN (z7 (there.getD n default) prim)) (setB ((there.take n).map fun r=>zN (z7 r prim)))
  simp -implicitDefEqProofs only [hm,↓zb,push_cast,simprocAttr,tte]
  refine zw hI (n+1) h' (by show there.length-(n+1)<there.length-n;omega) (Weak.keepL (by simp [F4,hw,ends]) ?_ (by simp [F4,ends]))
  simp only [List.map_take,List.getD_eq_getElem?_getD] at hset
  simp [F4,hset,ends]
 have hnn:n=there.length:=by have:=of_decide_eq_false h;omega
 subst hnn
 clear hI I
 rw [List.take_length]
 generalize hks:there.map (fun r=>zN (z7 r prim))=ks at hV ⊢
 refine ⟨by omega,?_⟩
 rw [hR1]
 refine yc mixed ttok (fun x:Nat×List Vio=>G4 s i b t j ks rows x) (fun x=>rows.length-x.1)
  (fun x=>x.1<=rows.length/\x.2++uN t j cols ks (rows.drop x.1) x.1=out++V/\x.2.length<=out.length+x.1) (0,out) ⟨Nat.zero_le _,by rw [<-hV];rfl,Nat.le_refl _⟩ ?_ ?_
 ·exact Weak.keepL (by simp [G4,ends]) (by simp [G4,ends]) (by simp [G4,ends])
 rintro I hI ⟨n,o2⟩ ⟨hn,hi,hol⟩
 simp only at hn hi hol
 simp -implicitDefEqProofs only [G4,↓zb,push_cast,simprocAttr,tte]
 refine za (fun h2=>?_) fun h2=>?_
 ·simp only [decide_eq_true_eq] at h2
  have h':n<rows.length:=by omega
  have hw:=zj h' (by omega)
  rw [zR rows n h',uN] at hi
  have hcn:=hc _ (zi h')
  refine ⟨(by first | omega | trivial | (refine ⟨?_,?_⟩<;>first | omega | trivial | (refine ⟨?_,?_⟩<;>first | omega | trivial | (refine ⟨?_,?_⟩<;>first | omega | trivial | rfl)))),by omega,by omega,?_⟩
  generalize hrn:rows.getD n default=r at hi hcn
  rw [hC]
  refine zd [[3],[1]] [] (c_part r cols (by omega) hcn) ?_
  have hxl:(z7 r cols).length=cols.length:=by simp [z7]
  generalize hx:z7 r cols=x at hi hxl
  simp -implicitDefEqProofs only [↓zb,push_cast,simprocAttr,tte]
  refine zd [[3]] [] (c_partial x (by omega)) ?_
  cases hN:x.any yF with
  | true=>
    rw [if_pos hN] at hi
    simp -implicitDefEqProofs only [↓zb,push_cast,simprocAttr,tte]
    exact zw hI (n+1,o2) ⟨h',hi,by simp only;omega⟩ (by show rows.length-(n+1)<rows.length-n;omega) (Weak.keepL (by simp [G4,hw,ends]) (by simp [G4,ends]) (by simp [G4,ends]))
  | false=>
    rw [if_neg (by rw [hN];decide)] at hi
    simp -implicitDefEqProofs only [↓zb,push_cast,simprocAttr,tte]
    refine zd [[3]] [] (kF x (by omega)) ?_
    by_cases hin:zN x∈ks
    ·obtain ⟨q,hq,_⟩:=mfind_in (zN x) (setB ks) 0 (mem_setB.2 hin)
     rw [if_pos hin] at hi
     simp -implicitDefEqProofs only [hq,↓zb,push_cast,simprocAttr,tte]
     exact zw hI (n+1,o2) ⟨h',hi,by simp only;omega⟩ (by show rows.length-(n+1)<rows.length-n;omega) (Weak.keepL (by simp [G4,hw,ends]) (by simp [G4,ends]) (by simp [G4,ends]))
    ·have hq:=mfind_out (zN x) (setB ks) 0 (fun q=>hin (mem_setB.1 q))
     rw [if_neg hin] at hi
     simp -implicitDefEqProofs only [hq,↓zb,push_cast,simprocAttr,tte]
     refine zd [[],[],[],[],[],[]] [(1000,1000),(1001,1001)] (gb s i b o2 6 t j n 0 (by omega)) ?_
     simp -implicitDefEqProofs only [↓zb,push_cast,simprocAttr,tte]
     refine zw hI (n+1,o2++[⟨6,t,j,n,0⟩]) ⟨h',by simpa using hi,by simp;omega⟩ (by show rows.length-(n+1)<rows.length-n;omega) (Weak.keepL (by simp [G4,hw,ends]) (by simp [G4,ends]) (by simp [G4,ends]))
 ·simp only [decide_eq_false_iff_not] at h2
  obtain rfl:n=rows.length:=by omega
  have he:out++V=o2:=by rw [<-hi,List.drop_length];simp [uN]
  rw [he]
  refine ret_as trivial rfl ?_ ?_
  ·simp [ends]
  ·simp [ends]
end
end Go.Proofs.YtampbaaiddbacaaGreatDoor
