/- Joins of two tables: a proof over an abstract machine of our own (part Wa) -/
import Derived.Test.YtnmibokjpedkiaaGreatDoorW0
import Derived.Shelf.Strings.Search3
set_option maxRecDepth 100000
set_option maxHeartbeats 4000000
set_option linter.all false
namespace Go.Proofs.YtnmibokjpedkiaaGreatDoor
section
open Go.Proofs Go.Shelf
def Tryz.lays144_ren:Go.Shelf.Ren:=⟨fun | 144=>145 | 143=>185 | 219=>214 | 217=>230 | 225=>231 | 224=>232 | 267=>233 | 266=>251 | 314=>252 | n=>n,fun | 9=>9 | 4=>4 | 3=>3 | 5=>5 | 46=>232 | 146=>252 | 51=>248 | n=>n,fun | 1=>3 | n=>n⟩
theorem Tryz.lays144:Go.Proofs.Lays.n144 Tryz.prog Tryz.lays144_ren:={
 mixed:=by kernel_rfl
 f143:=Tryz.func185.trans (congrArg some (by kernel_rfl))
 f144:=Tryz.func145.trans (congrArg some (by kernel_rfl))
 f217:=Tryz.func230.trans (congrArg some (by kernel_rfl))
 f219:=Tryz.func214.trans (congrArg some (by kernel_rfl))
 f224:=Tryz.func232.trans (congrArg some (by kernel_rfl))
 f225:=Tryz.func231.trans (congrArg some (by kernel_rfl))
 f266:=Tryz.func251.trans (congrArg some (by kernel_rfl))
 f267:=Tryz.func233.trans (congrArg some (by kernel_rfl))
 f314:=Tryz.func252.trans (congrArg some (by kernel_rfl))
 t3:=Tryz.underlying3
 a3:=Tryz.isAgg3
 z3:=Tryz.sizeOf3
 v3:=Tryz.zeroValue3
 t4:=Tryz.underlying4
 a4:=Tryz.isAgg4
 z4:=Tryz.sizeOf4
 v4:=Tryz.zeroValue4
 t5:=Tryz.underlying5
 a5:=Tryz.isAgg5
 z5:=Tryz.sizeOf5
 v5:=Tryz.zeroValue5
 t9:=Tryz.underlying9
 a9:=Tryz.isAgg9
 z9:=Tryz.sizeOf9
 v9:=Tryz.zeroValue9
 t46:=Tryz.underlying232
 a46:=Tryz.isAgg232
 z46:=Tryz.sizeOf232
 v46:=Tryz.zeroValue232
 t51:=Tryz.underlying248
 a51:=Tryz.isAgg248
 z51:=Tryz.sizeOf248
 v51:=Tryz.zeroValue248
 t146:=Tryz.underlying252
 a146:=Tryz.isAgg252
 z146:=Tryz.sizeOf252
 v146:=Tryz.zeroValue252
 g1:=by kernel_rfl}
open Go.RowKit Go.Lib in
theorem Tryz.strings_Contains (s sub:ByteArray) (m:Int) (w:World) (hs:s.size<4294967281) (hm:w.cell? ⟨3,0,none⟩=some (.int .i64 m)):
 Calls Tryz.prog 145 #[.string s,.string sub] w fun e w'=>e= .returned (.bool (Lib.contains s.data.toList sub.data.toList))/\w'=w:=Any.strings_Contains Tryz.lays144 s sub m w hs hm
end
section
open Go.Am
attribute [local simp, local push_cast] num boo str ints aV aTab zv aS
theorem c_contains (s sub:ByteArray) (hs:s.size<4294967281):ACall Tryz.prog 145 [str s,str sub] [] (boo (Lib.contains s.data.toList sub.data.toList)) []:=
 ACall.of_still Tryz.func145 rfl rfl fun w vs E hr hg=>by
  simp only [repL,str,A.rep,D.rep] at hr
  obtain ⟨_,_,rfl,⟨rfl,_⟩,_,_,rfl,⟨rfl,_⟩,rfl⟩:=hr
  obtain ⟨m,hm⟩:=hg 3 (by simp [Tab.ints,tabs])
  exact (Tryz.strings_Contains s sub m w hs hm).mono fun e w' h=>⟨_,h.1,by simp [D.rep,one],h.2⟩
def letM (c:Int):Bool:=decide (c≥97)&&decide (c<=122)
theorem c_letter (c:Int):ACall Tryz.prog 144 [.d (.lit (.int .u8 c))] [] (boo (letM c)) []:=by
 refine zn mixed ttok Tryz.func144 Tryz.ntmps144 Tryz.results144 ?_
 generalize hr:boo (letM c)=R
 simp -implicitDefEqProofs only [argT,↓zb,push_cast,simprocAttr,tte]
 refine za (fun h=>?_) fun h=>?_
 ·exact zi trivial (by rw [<-hr,letM,h,Bool.true_and];rfl) (by simp [ends])
 ·exact zi trivial (by rw [<-hr,letM,h,Bool.false_and];rfl) (by simp [ends])
def resv:ByteArray:=⟨#[32,115,101,108,101,99,116,32,100,105,115,116,105,110,99,116,32,97,108,108,32,102,114,111,109,32,119,104,101,114,101,32,103,114,111,117,112,32,98,121,32,104,97,118,105,110,103,32,97,115,32,111,110,32,117,110,105,111,110,32,101,120,99,101,112,116,32,105,110,116,101,114,115,101,99,116,32,106,111,105,110,32,105,110,110,101,114,32,108,101,102,116,32,114,105,103,104,116,32,102,117,108,108,32,99,114,111,115,115,32,115,101,109,105,32,97,110,116,105,32,97,110,100,32,111,114,32,110,111,116,32,105,115,32,110,117,108,108,32,116,114,117,101,32,102,97,108,115,101,32,105,110,32,99,97,115,101,32,119,104,101,110,32,116,104,101,110,32,101,108,115,101,32,101,110,100,32,118,97,108,117,101,115,32,116,97,98,108,101,32,112,114,105,109,97,114,121,32,117,110,105,113,117,101,32,102,111,114,101,105,103,110,32,114,101,102,101,114,101,110,99,101,115,32,99,104,101,99,107,32,105,110,116,32,98,111,111,108,32,116,101,120,116,32,99,111,117,110,116,32,115,117,109,32,109,105,110,32,109,97,120,32,99,111,97,108,101,115,99,101,32,108,101,110,103,116,104,32,115,97,109,101,32,109,111,100,32]⟩
def words:List ByteArray:=[⟨#[115,101,108,101,99,116]⟩,⟨#[100,105,115,116,105,110,99,116]⟩,⟨#[97,108,108]⟩,⟨#[102,114,111,109]⟩,⟨#[119,104,101,114,101]⟩,⟨#[103,114,111,117,112]⟩,⟨#[98,121]⟩,⟨#[104,97,118,105,110,103]⟩,⟨#[97,115]⟩,⟨#[111,110]⟩,⟨#[117,110,105,111,110]⟩,⟨#[101,120,99,101,112,116]⟩,⟨#[105,110,116,101,114,115,101,99,116]⟩,⟨#[106,111,105,110]⟩,⟨#[105,110,110,101,114]⟩,⟨#[108,101,102,116]⟩,⟨#[114,105,103,104,116]⟩,⟨#[102,117,108,108]⟩,⟨#[99,114,111,115,115]⟩,⟨#[115,101,109,105]⟩,⟨#[97,110,116,105]⟩,⟨#[97,110,100]⟩,⟨#[111,114]⟩,⟨#[110,111,116]⟩,⟨#[105,115]⟩,⟨#[110,117,108,108]⟩,⟨#[116,114,117,101]⟩,⟨#[102,97,108,115,101]⟩,⟨#[105,110]⟩,⟨#[99,97,115,101]⟩,⟨#[119,104,101,110]⟩,⟨#[116,104,101,110]⟩,⟨#[101,108,115,101]⟩,⟨#[101,110,100]⟩,⟨#[118,97,108,117,101,115]⟩,⟨#[116,97,98,108,101]⟩,⟨#[112,114,105,109,97,114,121]⟩,⟨#[117,110,105,113,117,101]⟩,⟨#[102,111,114,101,105,103,110]⟩,⟨#[114,101,102,101,114,101,110,99,101,115]⟩,⟨#[99,104,101,99,107]⟩,⟨#[105,110,116]⟩,⟨#[98,111,111,108]⟩,⟨#[116,101,120,116]⟩,⟨#[99,111,117,110,116]⟩,⟨#[115,117,109]⟩,⟨#[109,105,110]⟩,⟨#[109,97,120]⟩,⟨#[99,111,97,108,101,115,99,101]⟩,⟨#[108,101,110,103,116,104]⟩,⟨#[115,97,109,101]⟩,⟨#[109,111,100]⟩]
def badM (c:Int):Bool:=(!letM c&&(decide (c<48) || decide (c>57)))&&(c !=95)
def vh (s:ByteArray):List Int:=s.data.toList.map fun u=>(u.toNat:Int)
def hasW (s:ByteArray):Bool:=Lib.contains resv.data.toList (⟨#[32]⟩++s++⟨#[32]⟩:ByteArray).data.toList
def ud (s:ByteArray):Bool:=((!(s.toList==[] || decide (s.size>16))&&letM ((s.data[0]?.getD 0).toNat:Nat))&& !hasW s)&&(vh s).all fun c=> !badM c
theorem vC (s:ByteArray):(vh s).length=s.size:=by show (List.map _ _).length=s.data.size;rw [List.length_map,Array.length_toList]
theorem bytesI_getD (s:ByteArray) (n:Nat) (h:n<s.size):(vh s).getD n default=((s.data.getD n 0).toNat:Nat):=by
 have h':n<s.data.size:=h
 simp only [vh,List.getD_eq_getElem?_getD,List.getElem?_map,Array.getElem?_toList]
 rw [Array.getD_eq_getD_getElem?,Array.getElem?_eq_getElem h'];rfl
theorem resv_size:resv.size=287:=rfl
theorem c_name (s:ByteArray):ACall Tryz.prog 83 [str s] [] (boo (ud s)) []:=by
 obtain ⟨b,hb⟩: ∃b,hasW s=b:=⟨_,rfl⟩
 have hc:ACall Tryz.prog 145 [str resv,str (⟨#[32]⟩++s++⟨#[32]⟩)] [] (boo b) []:=by rw [<-hb];exact c_contains _ _ (by rw [resv_size];omega)
 refine zn mixed ttok Tryz.func83 Tryz.ntmps83 Tryz.results83 ?_
 generalize hr:boo (ud s)=R
 have hM:ud s=(((!(s.toList==[] || decide (s.size>16))&&letM ((s.data[0]?.getD 0).toNat:Nat))&& !b)&&(vh s).all fun c=> !badM c):=by rw [ud,hb]
 have he:(ByteArray.mk #[]).toList=[]:=by simp [ByteArray.toList_eq]
 simp -implicitDefEqProofs only [argT,he,↓zb,push_cast,simprocAttr,tte]
 refine za (fun h1=>?_) fun h1=>?_
 ·have:ud s=false:=by rw [hM,h1];rfl
  exact zi trivial (by rw [<-hr,this];rfl) (by simp [ends])
 refine za (fun h2=>?_) fun h2=>?_
 ·have:ud s=false:=by simp only [decide_eq_true_eq] at h2;rw [hM,decide_eq_true (by omega:s.size>16),Bool.or_true];rfl
  exact zi trivial (by rw [<-hr,this];rfl) (by simp [ends])
 have hne:s.size≠0:=by
  intro h0
  have:s=⟨#[]⟩:=by
   apply ByteArray.ext
   exact Array.eq_empty_of_size_eq_zero h0
  rw [this] at h1
  simp [he] at h1
 simp only [decide_eq_false_iff_not] at h2
 refine ⟨by omega,?_⟩
 refine ze [[0]] [] (c_letter ((s.data[0]?.getD 0).toNat:Nat)) ?_
 simp -implicitDefEqProofs only [↓zb,push_cast,simprocAttr,tte]
 refine za (fun h3=>?_) fun h3=>?_
 ·have:ud s=false:=by simp only [Bool.not_eq_true'] at h3;rw [hM,h3];simp
  exact zi trivial (by rw [<-hr,this];rfl) (by simp [ends])
 simp only [Bool.not_eq_false'] at h3
 have hsz:(⟨#[32]⟩++s:ByteArray).size=s.size+1:=by simp [ByteArray.size_append];rw [Nat.add_comm];rfl
 refine ⟨by show ((1+s.size:Nat):Int)<=_;omega,by rw [hsz];show ((s.size+1+1:Nat):Int)<=_;omega,?_⟩
 change jW _ _ _ _ _ [A.d (.lit (.string resv)),_] _ _ _ _ _
 generalize resv=rv at hc ⊢
 refine ze [[0],[0]] [] (hc) ?_
 simp -implicitDefEqProofs only [↓zb,push_cast,simprocAttr,tte]
 refine za (fun h4=>?_) fun h4=>?_
 ·have:ud s=false:=by rw [hM,h4];simp
  exact zi trivial (by rw [<-hr,this];rfl) (by simp [ends])
 have hM2:ud s=(vh s).all fun c=> !badM c:=by rw [hM,h1,h3,h4,decide_eq_false (by omega)];rfl
 refine zo mixed ttok 26 [0,25] [] (by simp only [zC,ends,push_cast,simprocAttr];rfl) (by simp only [zH,zp,ends,push_cast,simprocAttr];rfl) s.size (fun n=>((vh s).drop n).all (fun c=> !badM c)=(vh s).all fun c=> !badM c) (fun _=>[]) (fun _=>[]) rfl ?_ ?_
 ·exact Weak.keepL (by simp [cst,ends]) (by simp [cst,ends]) (by simp [cst,ends])
 intro I hI n hn hi
 simp -implicitDefEqProofs only [cst,↓zb,push_cast,simprocAttr,tte]
 refine za (fun k=>?_) fun k=>?_
 ·simp only [decide_eq_true_eq] at k
  have k':n<s.size:=by omega
  have hw:=zj k' (by omega)
  rw [z8 _ n (by rw [vC];exact k'),List.all_cons,bytesI_getD s n k'] at hi
  refine ⟨by omega,?_⟩
  generalize hcc:(((s.data.getD n 0).toNat:Nat):Int)=c at hi ⊢
  have bad:badM c=true->ud s=false:=fun h=>by rw [hM2,<-hi,h];rfl
  have good:badM c=false->((vh s).drop (n+1)).all (fun c=> !badM c)=(vh s).all fun c=> !badM c:=fun h=>by rw [<-hi,h];rfl
  refine ze [[0]] [] (c_letter c) ?_
  simp -implicitDefEqProofs only [↓zb,push_cast,simprocAttr,tte]
  refine za (fun g1=>?_) fun g1=>?_
  ·refine za (fun g2=>?_) fun g2=>?_
   ·refine za (fun g3=>?_) fun g3=>?_
    ·exact zi trivial (by rw [<-hr,bad (by rw [badM,g1,g2,g3];rfl)];rfl) (by simp [ends])
    ·exact zq hI n rfl k' (good (by rw [badM,g3,Bool.and_false])) (by simp [hw,ends]) (by simp [hw,ends]) (by simp [hw,ends]) (by simp [hw,ends])
   ·refine za (fun g4=>?_) fun g4=>?_
    ·refine za (fun g3=>?_) fun g3=>?_
     ·exact zi trivial (by rw [<-hr,bad (by rw [badM,g1,g2,g3,g4];rfl)];rfl) (by simp [ends])
     ·exact zq hI n rfl k' (good (by rw [badM,g3,Bool.and_false])) (by simp [hw,ends]) (by simp [hw,ends]) (by simp [hw,ends]) (by simp [hw,ends])
    ·exact zq hI n rfl k' (good (by rw [badM,g1,g2,g4];rfl)) (by simp [hw,ends]) (by simp [hw,ends]) (by simp [hw,ends]) (by simp [hw,ends])
  ·exact zq hI n rfl k' (good (by rw [badM,g1];rfl)) (by simp [hw,ends]) (by simp [hw,ends]) (by simp [hw,ends]) (by simp [hw,ends])
 ·simp only [decide_eq_false_iff_not] at k
  obtain rfl:n=s.size:=by omega
  have:ud s=true:=by rw [hM2,<-hi,List.drop_eq_nil_of_le (by rw [vC];omega)];rfl
  exact zi trivial (by rw [<-hr,this];rfl) (by simp [ends])
end
section
open Go.Am
attribute [local simp, local push_cast] num boo str ints aV aTab zv aS
def aT (t:Tbl):A:= .agg [.d (.lit (.string t.name)),.d (.sl 3 (zd rC t.columns)),.d (.sl 1 (zd rI t.primary)),.d (.sl 1 (zd rIs t.uniques)),.d (.sl 2 (zd rF t.foreigns)),.d (.sl 6 (zd rE t.checks))]
def aC (c:Col):A:= .agg [.d (.lit (.string c.name)),.d (.lit (.int .i64 c.type)),.d (.lit (.bool c.nullable))]
attribute [local simp, local push_cast] aT aC
theorem c_find1 (t:Tbl) (name:ByteArray):ACall Tryz.prog 107 [aT t,.ptr 1000 0] [(1000,.var [str name])] (boo (t.name.toList==name.toList)) [(1000,.var [str name])]:=by
 refine zn mixed ttok Tryz.func107 Tryz.ntmps107 Tryz.results107 ?_
 generalize hr:boo (t.name.toList==name.toList)=R
 simp -implicitDefEqProofs only [argT,↓zb,push_cast,simprocAttr,tte]
 refine zu [0] rfl (by simp) (by simp [zc]<;>omega) ?_ (by first | rfl | simp [ends] | (subst_vars;simp [ends])) (by simp [ends]) (by simp [ends])
 exact hr
theorem c_idxT (l:List Tbl) (name:ByteArray) (hl:l.length<=1000000000):
 ACall Tryz.prog 106 [.d (.sl 6 (zd rT l)),.clo 107 [.ptr 1000 0]] [(1000,.var [str name])] (num (fidx (fun t=>t.name.toList==name.toList) l)) [(1000,.var [str name])]:=by
 refine zn mixed ttok Tryz.func106 Tryz.ntmps106 Tryz.results106 ?_
 generalize hr:num (fidx (fun t=>t.name.toList==name.toList) l)=R
 simp -implicitDefEqProofs only [argT,↓zb,push_cast,simprocAttr,tte]
 refine zo mixed ttok 8 [0,1,6,7] [1000] (by simp only [zC,ends,push_cast,simprocAttr];rfl) (by simp only [zH,zp,ends,push_cast,simprocAttr];rfl) l.length (fun n=> ∀i,i<n->((l.getD i default).name.toList==name.toList)=false) (fun _=>[]) (fun _=>[]) (fun i h=>absurd h (Nat.not_lt_zero _)) ?_ ?_
 ·exact Weak.keepL (by simp [cst,ends]) (by simp [cst,ends]) (by simp [cst,ends])
 intro I hI n hn hi
 simp -implicitDefEqProofs only [cst,↓zb,push_cast,simprocAttr,tte]
 refine za (fun h=>?_) fun h=>?_
 ·simp only [decide_eq_true_eq] at h
  have h':n<l.length:=by omega
  have hw:=zj h' (by omega)
  refine ⟨(by first | omega | trivial | (refine ⟨?_,?_⟩<;>first | omega | trivial | (refine ⟨?_,?_⟩<;>first | omega | trivial | (refine ⟨?_,?_⟩<;>first | omega | trivial | rfl)))),?_⟩
  refine ze [[0,3,1,1,2,6],[]] [(1000,1000)] (c_find1 (l.getD n default) name) ?_
  simp -implicitDefEqProofs only [↓zb,push_cast,simprocAttr,tte]
  refine za (fun g=>?_) fun g=>?_
  ·refine zu [0] rfl (by simp) (by simp [zc]<;>omega) ?_ (by first | rfl | simp [ends] | (subst_vars;simp [ends])) (by simp [ends]) (by simp [ends])
   rw [<-hr,vA _ l n h' hi g];rfl
  ·exact zq hI n rfl h' (fun i h2=>if h3:i=n then by rw [h3];exact g else hi i (by omega)) (by simp [hw,ends]) (by simp [hw,ends]) (by simp [hw,ends]) (by simp [hw,ends])
 ·simp only [decide_eq_false_iff_not] at h
  obtain rfl:n=l.length:=by omega
  refine zu [0] rfl (by simp) (by simp [zc]<;>omega) ?_ (by first | rfl | simp [ends] | (subst_vars;simp [ends])) (by simp [ends]) (by simp [ends])
  rw [<-hr,xE _ l hi];rfl
theorem c_col1 (t:Col) (name:ByteArray):ACall Tryz.prog 187 [aC t,.ptr 1000 0] [(1000,.var [str name])] (boo (t.name.toList==name.toList)) [(1000,.var [str name])]:=by
 refine zn mixed ttok Tryz.func187 Tryz.ntmps187 Tryz.results187 ?_
 generalize hr:boo (t.name.toList==name.toList)=R
 simp -implicitDefEqProofs only [argT,↓zb,push_cast,simprocAttr,tte]
 refine zu [0] rfl (by simp) (by simp [zc]<;>omega) ?_ (by first | rfl | simp [ends] | (subst_vars;simp [ends])) (by simp [ends]) (by simp [ends])
 exact hr
theorem c_idxC (l:List Col) (name:ByteArray) (hl:l.length<=1000000000):
 ACall Tryz.prog 186 [.d (.sl 3 (zd rC l)),.clo 187 [.ptr 1000 0]] [(1000,.var [str name])] (num (fidx (fun t=>t.name.toList==name.toList) l)) [(1000,.var [str name])]:=by
 refine zn mixed ttok Tryz.func186 Tryz.ntmps186 Tryz.results186 ?_
 generalize hr:num (fidx (fun t=>t.name.toList==name.toList) l)=R
 simp -implicitDefEqProofs only [argT,↓zb,push_cast,simprocAttr,tte]
 refine zo mixed ttok 8 [0,1,6,7] [1000] (by simp only [zC,ends,push_cast,simprocAttr];rfl) (by simp only [zH,zp,ends,push_cast,simprocAttr];rfl) l.length (fun n=> ∀i,i<n->((l.getD i default).name.toList==name.toList)=false) (fun _=>[]) (fun _=>[]) (fun i h=>absurd h (Nat.not_lt_zero _)) ?_ ?_
 ·exact Weak.keepL (by simp [cst,ends]) (by simp [cst,ends]) (by simp [cst,ends])
 intro I hI n hn hi
 simp -implicitDefEqProofs only [cst,↓zb,push_cast,simprocAttr,tte]
 refine za (fun h=>?_) fun h=>?_
 ·simp only [decide_eq_true_eq] at h
  have h':n<l.length:=by omega
  have hw:=zj h' (by omega)
  refine ⟨(by first | omega | trivial | (refine ⟨?_,?_⟩<;>first | omega | trivial | (refine ⟨?_,?_⟩<;>first | omega | trivial | (refine ⟨?_,?_⟩<;>first | omega | trivial | rfl)))),?_⟩
  refine ze [[0,0,0],[]] [(1000,1000)] (c_col1 (l.getD n default) name) ?_
  simp -implicitDefEqProofs only [↓zb,push_cast,simprocAttr,tte]
  refine za (fun g=>?_) fun g=>?_
  ·refine zu [0] rfl (by simp) (by simp [zc]<;>omega) ?_ (by first | rfl | simp [ends] | (subst_vars;simp [ends])) (by simp [ends]) (by simp [ends])
   rw [<-hr,vA _ l n h' hi g];rfl
  ·exact zq hI n rfl h' (fun i h2=>if h3:i=n then by rw [h3];exact g else hi i (by omega)) (by simp [hw,ends]) (by simp [hw,ends]) (by simp [hw,ends]) (by simp [hw,ends])
 ·simp only [decide_eq_false_iff_not] at h
  obtain rfl:n=l.length:=by omega
  refine zu [0] rfl (by simp) (by simp [zc]<;>omega) ?_ (by first | rfl | simp [ends] | (subst_vars;simp [ends])) (by simp [ends]) (by simp [ends])
  rw [<-hr,xE _ l hi];rfl
def byT (l:List Tbl) (name:ByteArray):Int:=fidx (fun t=>t.name.toList==name.toList) l
def byC (l:List Col) (name:ByteArray):Int:=fidx (fun t=>t.name.toList==name.toList) l
def zR (k:Int):A:= .tup [num (if 0>k then 0 else k),boo (decide (k≥0))]
theorem c_find (s:Sch) (name:ByteArray) (hl:s.length<=1000000000):ACall Tryz.prog 59 [aS s,str name] [] (zR (byT s name)) []:=by
 refine zn mixed ttok Tryz.func59 Tryz.ntmps59 Tryz.results59 ?_
 generalize hr:zR (byT s name)=R
 simp -implicitDefEqProofs only [argT,↓zb,push_cast,simprocAttr,tte]
 refine ze [[6],[]] [(1000,3)] (c_idxT s name hl) ?_
 simp -implicitDefEqProofs only [↓zb,push_cast,simprocAttr,tte]
 exact zN trivial (by rw [<-hr,zR,byT];rfl) (by simp [ends])
theorem c_column (t:Tbl) (name:ByteArray) (hl:t.columns.length<=1000000000):ACall Tryz.prog 146 [aT t,str name] [] (zR (byC t.columns name)) []:=by
 refine zn mixed ttok Tryz.func146 Tryz.ntmps146 Tryz.results146 ?_
 generalize hr:zR (byC t.columns name)=R
 simp -implicitDefEqProofs only [argT,↓zb,push_cast,simprocAttr,tte]
 refine ze [[3],[]] [(1000,3)] (c_idxC t.columns name hl) ?_
 simp -implicitDefEqProofs only [↓zb,push_cast,simprocAttr,tte]
 exact zN trivial (by rw [<-hr,zR,byC];rfl) (by simp [ends])
theorem gx (l:Sch) (name:ByteArray) (hl:l.length<=1000000000):ACall Tryz.prog 25 [aS l,str name] [] (zR (byT l name)) []:=by
 refine zn mixed ttok Tryz.func25 Tryz.ntmps25 Tryz.results25 ?_
 generalize hr:zR (byT l name)=R
 simp -implicitDefEqProofs only [argT,↓zb,push_cast,simprocAttr,tte]
 refine zo mixed ttok 6 [1,2] [2] (by simp only [zC,ends,push_cast,simprocAttr];rfl) (by simp only [zH,zp,ends,push_cast,simprocAttr];rfl) l.length (fun n=> ∀i,i<n->((l.getD i default).name.toList==name.toList)=false) (fun _=>[]) (fun _=>[]) (fun i h=>absurd h (Nat.not_lt_zero _)) ?_ ?_
 ·exact Weak.keepL (by simp [cst,ends]) (by simp [cst,ends]) (by simp [cst,ends])
 intro I hI n hn hi
 simp -implicitDefEqProofs only [cst,↓zb,push_cast,simprocAttr,tte]
 refine za (fun h=>?_) fun h=>?_
 ·simp only [decide_eq_true_eq] at h
  have h':n<l.length:=by omega
  have hw:=zj h' (by omega)
  refine ⟨(by first | omega | trivial | (refine ⟨?_,?_⟩<;>first | omega | trivial | (refine ⟨?_,?_⟩<;>first | omega | trivial | (refine ⟨?_,?_⟩<;>first | omega | trivial | rfl)))),?_⟩
  refine za (fun g=>?_) fun g=>?_
  ·have hk:byT l name=n:=vA _ l n h' hi g
   exact zN trivial (by rw [<-hr,hk,zR,if_neg (by omega),decide_eq_true (by omega)];rfl) (by simp [ends])
  ·exact zq hI n rfl h' (fun i h2=>if h3:i=n then by rw [h3];exact g else hi i (by omega)) (by simp [hw,ends]) (by simp [hw,ends]) (by simp [hw,ends]) (by simp [hw,ends])
 ·simp only [decide_eq_false_iff_not] at h
  obtain rfl:n=l.length:=by omega
  have hk:byT l name= -1:=xE _ l hi
  exact zN trivial (by rw [<-hr,hk];rfl) (by simp [ends])
theorem c_rcolumn (t:Tbl) (name:ByteArray) (hl:t.columns.length<=1000000000):ACall Tryz.prog 156 [aT t,str name] [] (zR (byC t.columns name)) []:=by
 refine zn mixed ttok Tryz.func156 Tryz.ntmps156 Tryz.results156 ?_
 generalize hr:zR (byC t.columns name)=R
 generalize hcl:t.columns=l at hl hr
 simp -implicitDefEqProofs only [argT,hcl,↓zb,push_cast,simprocAttr,tte]
 refine zo mixed ttok 6 [1,2] [2] (by simp only [zC,ends,push_cast,simprocAttr];rfl) (by simp only [zH,zp,ends,push_cast,simprocAttr];rfl) l.length (fun n=> ∀i,i<n->((l.getD i default).name.toList==name.toList)=false) (fun _=>[]) (fun _=>[]) (fun i h=>absurd h (Nat.not_lt_zero _)) ?_ ?_
 ·exact Weak.keepL (by simp [cst,ends]) (by simp [cst,ends]) (by simp [cst,ends])
 intro I hI n hn hi
 simp -implicitDefEqProofs only [cst,↓zb,push_cast,simprocAttr,tte]
 refine za (fun h=>?_) fun h=>?_
 ·simp only [decide_eq_true_eq] at h
  have h':n<l.length:=by omega
  have hw:=zj h' (by omega)
  refine ⟨(by first | omega | trivial | (refine ⟨?_,?_⟩<;>first | omega | trivial | (refine ⟨?_,?_⟩<;>first | omega | trivial | (refine ⟨?_,?_⟩<;>first | omega | trivial | rfl)))),?_⟩
  refine za (fun g=>?_) fun g=>?_
  ·have hk:byC l name=n:=vA _ l n h' hi g
   exact zN trivial (by rw [<-hr,hk,zR,if_neg (by omega),decide_eq_true (by omega)];rfl) (by simp [ends])
  ·exact zq hI n rfl h' (fun i h2=>if h3:i=n then by rw [h3];exact g else hi i (by omega)) (by simp [hw,ends]) (by simp [hw,ends]) (by simp [hw,ends]) (by simp [hw,ends])
 ·simp only [decide_eq_false_iff_not] at h
  obtain rfl:n=l.length:=by omega
  have hk:byC l name= -1:=xE _ l hi
  exact zN trivial (by rw [<-hr,hk];rfl) (by simp [ends])
def zD (t:Tbl):List Int:=t.columns.map (·.type)
theorem wu (t:Tbl) (hl:t.columns.length<=1000000000):ACall Tryz.prog 22 [aT t] [] (ints (zD t)) []:=by
 refine zn mixed ttok Tryz.func22 Tryz.ntmps22 Tryz.results22 ?_
 generalize hr:ints (zD t)=R
 simp -implicitDefEqProofs only [argT,↓zb,push_cast,simprocAttr,tte]
 refine zo mixed ttok 4 [1] [1] (by simp only [zC,ends,push_cast,simprocAttr];rfl) (by simp only [zH,zp,ends,push_cast,simprocAttr];rfl) t.columns.length (fun _=>True) (fun n=>[(3,.vec 500 n)]) (fun n=>[(500,.vec 3 1 (zd rI ((t.columns.take n).map (·.type))) 0)]) trivial ?_ ?_
 ·exact (Weak.nilL 3 500 3 1 rfl rfl).trans (Weak.keepL (by simp [cst,ends]) (by simp [cst,ends]) (by simp [cst,ends]))
 intro I hI n hn hi
 have hl2:((t.columns.take n).map (·.type)).length=n:=by simp;omega
 simp -implicitDefEqProofs only [cst,↓zb,push_cast,simprocAttr,tte]
 refine za (fun h=>?_) fun h=>?_
 ·simp only [decide_eq_true_eq] at h
  have h':n<t.columns.length:=by omega
  have hw:=zj h' (by omega)
  have ht:(t.columns.take (n+1)).map (·.type)=(t.columns.take n).map (·.type)++[(t.columns.getD n default).type]:=by rw [z7 _ _ h',List.map_append];rfl
  refine ⟨(by first | omega | trivial | (refine ⟨?_,?_⟩<;>first | omega | trivial | (refine ⟨?_,?_⟩<;>first | omega | trivial | (refine ⟨?_,?_⟩<;>first | omega | trivial | rfl)))),⟨hl2.symm,by rw [hl2];omega⟩,?_⟩
  exact zq hI n rfl h' trivial (by simp [hw,ht,hl2,zh,Nat.min_eq_left hn,ends]) (by simp [hw,ht,hl2,zh,Nat.min_eq_left hn,ends]) (by simp [hw,ht,hl2,zh,Nat.min_eq_left hn,ends]) (by simp [hw,ht,hl2,zh,Nat.min_eq_left hn,ends])
 ·simp only [decide_eq_false_iff_not] at h
  obtain rfl:n=t.columns.length:=by omega
  refine zu [1] rfl (by simp) (by simp [zc]<;>omega) ?_ (by first | rfl | simp [ends] | (subst_vars;simp [ends])) (by simp [ends]) (by simp [ends])
  rw [<-hr,zD,List.take_length];rfl
end
section
open Go.Am
attribute [local simp, local push_cast] num boo str ints aV aTab zv aS aT aC
theorem c_types (t:Tbl) (hl:t.columns.length<=1000000000):ACall Tryz.prog 98 [aT t] [] (ints (zD t)) []:=by
 refine zn mixed ttok Tryz.func98 Tryz.ntmps98 Tryz.results98 ?_
 generalize hr:ints (zD t)=R
 simp -implicitDefEqProofs only [argT,↓zb,push_cast,simprocAttr,tte]
 refine zo mixed ttok 9 [7,8] [] (by simp only [zC,ends,push_cast,simprocAttr];rfl) (by simp only [zH,zp,ends,push_cast,simprocAttr];rfl) t.columns.length (fun _=>True) (fun n=>[(3,.vec 500 n)]) (fun n=>[(500,.vec 3 1 (zd rI ((t.columns.take n).map (·.type))) 0)]) trivial ?_ ?_
 ·exact (Weak.nilL 3 500 3 1 rfl rfl).trans (Weak.keepL (by simp [cst,ends]) (by simp [cst,ends]) (by simp [cst,ends]))
 intro I hI n hn hi
 have hl2:((t.columns.take n).map (·.type)).length=n:=by simp;omega
 simp -implicitDefEqProofs only [cst,↓zb,push_cast,simprocAttr,tte]
 refine za (fun h=>?_) fun h=>?_
 ·simp only [decide_eq_true_eq] at h
  have h':n<t.columns.length:=by omega
  have hw:=zj h' (by omega)
  have ht:(t.columns.take (n+1)).map (·.type)=(t.columns.take n).map (·.type)++[(t.columns.getD n default).type]:=by rw [z7 _ _ h',List.map_append];rfl
  refine ⟨(by first | omega | trivial | (refine ⟨?_,?_⟩<;>first | omega | trivial | (refine ⟨?_,?_⟩<;>first | omega | trivial | (refine ⟨?_,?_⟩<;>first | omega | trivial | rfl)))),⟨hl2.symm,by rw [hl2];omega⟩,?_⟩
  exact zq hI n rfl h' trivial (by simp [hw,ht,hl2,zh,Nat.min_eq_left hn,ends]) (by simp [hw,ht,hl2,zh,Nat.min_eq_left hn,ends]) (by simp [hw,ht,hl2,zh,Nat.min_eq_left hn,ends]) (by simp [hw,ht,hl2,zh,Nat.min_eq_left hn,ends])
 ·simp only [decide_eq_false_iff_not] at h
  obtain rfl:n=t.columns.length:=by omega
  refine zu [1] rfl (by simp) (by simp [zc]<;>omega) ?_ (by first | rfl | simp [ends] | (subst_vars;simp [ends])) (by simp [ends]) (by simp [ends])
  rw [<-hr,zD,List.take_length];rfl
theorem c_indexI (l:List Int) (v:Int) (hl:l.length<=1000000000):ACall Tryz.prog 234 [ints l,num v] [] (num (fidx (fun x=>v==x) l)) []:=by
 refine zn mixed ttok Tryz.func234 Tryz.ntmps234 Tryz.results234 ?_
 generalize hr:num (fidx (fun x=>v==x) l)=R
 simp -implicitDefEqProofs only [argT,↓zb,push_cast,simprocAttr,tte]
 refine zo mixed ttok 8 [0,1,6,7] [] (by simp only [zC,ends,push_cast,simprocAttr];rfl) (by simp only [zH,zp,ends,push_cast,simprocAttr];rfl) l.length (fun n=> ∀i,i<n->(v==l.getD i default)=false) (fun _=>[]) (fun _=>[]) (fun i h=>absurd h (Nat.not_lt_zero _)) ?_ ?_
 ·exact Weak.keepL (by simp [cst,ends]) (by simp [cst,ends]) (by simp [cst,ends])
 intro I hI n hn hi
 simp -implicitDefEqProofs only [cst,↓zb,push_cast,simprocAttr,tte]
 refine za (fun h=>?_) fun h=>?_
 ·simp only [decide_eq_true_eq] at h
  have h':n<l.length:=by omega
  have hw:=zj h' (by omega)
  refine ⟨(by first | omega | trivial | (refine ⟨?_,?_⟩<;>first | omega | trivial | (refine ⟨?_,?_⟩<;>first | omega | trivial | (refine ⟨?_,?_⟩<;>first | omega | trivial | rfl)))),?_⟩
  refine za (fun g=>?_) fun g=>?_
  ·exact zi trivial (by rw [<-hr,vA _ l n h' hi g];rfl) (by simp [ends])
  ·exact zq hI n rfl h' (fun i h2=>if h3:i=n then by rw [h3];exact g else hi i (by omega)) (by simp [hw,ends]) (by simp [hw,ends]) (by simp [hw,ends]) (by simp [hw,ends])
 ·simp only [decide_eq_false_iff_not] at h
  obtain rfl:n=l.length:=by omega
  exact zi trivial (by rw [<-hr,xE _ l hi];rfl) (by simp [ends])
theorem has_fidx (l:List Int) (v:Int):decide (fidx (fun x=>v==x) l≥0)=l.contains v:=by
 have h:=ku (fun x=>v==x) l
 rw [List.contains_eq_any_beq]
 cases ha:l.any (fun x=>v==x) with
 | false=>rw [ha] at h;simp at h;simp;omega
 | true=>rw [ha] at h;simp at h;simp;omega
theorem c_containsI (l:List Int) (v:Int) (hl:l.length<=1000000000):ACall Tryz.prog 215 [ints l,num v] [] (boo (l.contains v)) []:=by
 refine zn mixed ttok Tryz.func215 Tryz.ntmps215 Tryz.results215 ?_
 generalize hr:boo (l.contains v)=R
 simp -implicitDefEqProofs only [argT,↓zb,push_cast,simprocAttr,tte]
 refine ze [[1],[0]] [] (c_indexI l v hl) ?_
 simp -implicitDefEqProofs only [↓zb,push_cast,simprocAttr,tte]
 exact zi trivial (by rw [<-hr,<-has_fidx];rfl) (by simp [ends])
def okAt (c:Nat) (l:List Int) (i:Nat):Bool:=(decide (0<=l.getD i default)&&decide (l.getD i default<c))&& !(l.take i).contains (l.getD i default)
def yG (c:Nat) (l:List Int):Bool:=(List.range l.length).all (okAt c l)&& !l.isEmpty
theorem all_range {p:Nat->Bool} {N:Nat}:(List.range N).all p=true ↔ ∀i,i<N->p i=true:=by simp [List.all_eq_true]
theorem xG {p:Nat->Bool} {N n:Nat} (h:n<N) (hp:p n=false):(List.range N).all p=false:=by
 cases hq:(List.range N).all p with
 | false=>rfl
 | true=>rw [all_range.1 hq n h] at hp;cases hp
theorem c_key (t:Tbl) (l:List Int) (hl:l.length≤1000000000):ACall Tryz.prog 188 [aT t,ints l] [] (num (if yG t.columns.length l then 0 else 6)) []:=by
 refine zn mixed ttok Tryz.func188 Tryz.ntmps188 Tryz.results188 ?_
 generalize hr:num (if yG t.columns.length l then 0 else 6)=R
 simp -implicitDefEqProofs only [argT,↓zb,push_cast,simprocAttr,tte]
 refine zo mixed ttok 9 [1,2,7,8] [2] (by simp only [zC,ends,push_cast,simprocAttr];rfl) (by simp only [zH,zp,ends,push_cast,simprocAttr];rfl) l.length (fun n=> ∀i,i<n->okAt t.columns.length l i=true) (fun _=>[]) (fun _=>[]) (fun i h=>absurd h (Nat.not_lt_zero _)) ?_ ?_
 ·exact Weak.keepL (by simp [cst,ends]) (by simp [cst,ends]) (by simp [cst,ends])
 intro I hI n hn hi
 have bad:n<l.length->okAt t.columns.length l n=false->yG t.columns.length l=false:=fun h1 h2=>by rw [yG,xG h1 h2];rfl
 simp -implicitDefEqProofs only [cst,↓zb,push_cast,simprocAttr,tte]
 refine za (fun h=>?_) fun h=>?_
 ·simp only [decide_eq_true_eq] at h
  have h':n<l.length:=by omega
  have hw:=zj h' (by omega)
  have bad:=bad h'
  refine ⟨(by first | omega | trivial | (refine ⟨?_,?_⟩<;>first | omega | trivial | (refine ⟨?_,?_⟩<;>first | omega | trivial | (refine ⟨?_,?_⟩<;>first | omega | trivial | rfl)))),?_⟩
  refine za (fun g1=>?_) fun g1=>?_
  ·have:=bad (by simp only [decide_eq_true_eq] at g1;rw [okAt,decide_eq_false (by omega)];rfl)
   exact zi trivial (by rw [<-hr,this];rfl) (by simp [ends])
  refine za (fun g2=>?_) fun g2=>?_
  ·have:=bad (by simp only [decide_eq_true_eq] at g2;rw [okAt,decide_eq_false (by omega: ¬l.getD n default<t.columns.length),Bool.and_false];rfl)
   exact zi trivial (by rw [<-hr,this];rfl) (by simp [ends])
  simp only [decide_eq_false_iff_not] at g1 g2
  refine ⟨(by first | omega | trivial | (refine ⟨?_,?_⟩<;>first | omega | trivial | (refine ⟨?_,?_⟩<;>first | omega | trivial | (refine ⟨?_,?_⟩<;>first | omega | trivial | rfl)))),?_⟩
  refine ze [[1],[0]] [] (c_containsI (l.take n) (l.getD n default) (by simp;omega)) ?_
  simp -implicitDefEqProofs only [↓zb,push_cast,simprocAttr,tte]
  refine za (fun g3=>?_) fun g3=>?_
  ·have:=bad (by rw [okAt,g3,Bool.not_true,Bool.and_false])
   exact zi trivial (by rw [<-hr,this];rfl) (by simp [ends])
  ·exact zq hI n rfl h' (fun i h2=>if h3:i=n then by rw [h3,okAt,g3,decide_eq_true (by omega),decide_eq_true (by omega)];rfl else hi i (by omega)) (by simp [hw,ends]) (by simp [hw,ends]) (by simp [hw,ends]) (by simp [hw,ends])
 ·simp only [decide_eq_false_iff_not] at h
  obtain rfl:n=l.length:=by omega
  refine za (fun g=>?_) fun g=>?_
  ·have:yG t.columns.length l=false:=by
    have:l=[]:=by simpa using g
    rw [this];rfl
   exact zi trivial (by rw [<-hr,this];rfl) (by simp [ends])
  ·have:yG t.columns.length l=true:=by
    rw [yG,all_range.2 hi]
    cases l with
    | nil=>simp at g
    | cons _ _=>rfl
   exact zi trivial (by rw [<-hr,this];rfl) (by simp [ends])
end
section
open Go.Am
attribute [local simp, local push_cast] num boo str ints aV aTab zv aS aT aC
theorem c_clone (l:List (List Int)) (hl:l.length<=1000000):ACall Tryz.prog 190 [.d (.sl 1 (zd rIs l))] [] (.vec 1000 l.length) [(1000,.vec 22 1 (zd rIs l) 0)]:=by
 refine zn mixed ttok Tryz.func190 Tryz.ntmps190 Tryz.results190 ?_
 cases l with
 | nil=>
   simp -implicitDefEqProofs only [argT,zY,List.isEmpty_nil,if_true,↓zb,push_cast,simprocAttr,tte]
   exact ⟨ret_nil 22 1 trivial trivial,ret_vec 5 trivial (by omega) rfl rfl ⟨.inl (by omega),.inl (by omega),trivial⟩⟩
 | cons x l=>
   simp only [List.length_cons] at hl
   simp -implicitDefEqProofs only [argT,zG,List.isEmpty_cons,↓zb,push_cast,simprocAttr,tte]
   exact ⟨by omega,ret_vec 5 trivial (by omega) rfl rfl ⟨.inl (by omega),.inl (by omega),trivial⟩⟩
def vT (t:Tbl):Ob:= .var [.d (.lit (.string t.name)),.d (.sl 3 (zd rC t.columns)),.d (.sl 1 (zd rI t.primary)),.d (.sl 1 (zd rIs t.uniques)),.d (.sl 2 (zd rF t.foreigns)),.d (.sl 6 (zd rE t.checks))]
def vV (t:Tbl) (k:Int):Bool:=(t.columns.getD k.toNat default).nullable
def inC (t:Tbl) (k:Int):Prop:=0<=k/\k<t.columns.length
theorem c_keys1 (t:Tbl) (k:Int) (hk:inC t k):ACall Tryz.prog 189 [num k,.ptr 1000 0] [(1000,vT t)] (boo (vV t k)) [(1000,vT t)]:=by
 refine zn mixed ttok Tryz.func189 Tryz.ntmps189 Tryz.results189 ?_
 generalize hr:boo (vV t k)=R
 obtain ⟨h1,h2⟩:=hk
 simp -implicitDefEqProofs only [argT,vT,↓zb,push_cast,simprocAttr,tte]
 refine ⟨(by first | omega | trivial | (refine ⟨?_,?_⟩<;>first | omega | trivial | (refine ⟨?_,?_⟩<;>first | omega | trivial | (refine ⟨?_,?_⟩<;>first | omega | trivial | rfl)))),?_⟩
 refine zu [0] rfl (by simp) (by simp [zc]<;>omega) ?_ (by first | rfl | simp [ends] | (subst_vars;simp [ends])) (by simp [ends]) (by simp [ends])
 exact hr
theorem c_idxK (l:List Int) (t:Tbl) (hl:l.length<=1000000000) (hk: ∀k∈l,inC t k):
 ACall Tryz.prog 197 [ints l,.clo 189 [.ptr 1000 0]] [(1000,vT t)] (num (fidx (vV t) l)) [(1000,vT t)]:=by
 refine zn mixed ttok Tryz.func197 Tryz.ntmps197 Tryz.results197 ?_
 generalize hr:num (fidx (vV t) l)=R
 simp -implicitDefEqProofs only [argT,vT,↓zb,push_cast,simprocAttr,tte]
 refine zo mixed ttok 8 [0,1,6,7] [1000] (by simp only [zC,ends,push_cast,simprocAttr];rfl) (by simp only [zH,zp,ends,push_cast,simprocAttr];rfl) l.length (fun n=> ∀i,i<n->vV t (l.getD i default)=false) (fun _=>[]) (fun _=>[]) (fun i h=>absurd h (Nat.not_lt_zero _)) ?_ ?_
 ·exact Weak.keepL (by simp [cst,ends]) (by simp [cst,ends]) (by simp [cst,ends])
 intro I hI n hn hi
 simp -implicitDefEqProofs only [cst,↓zb,push_cast,simprocAttr,tte]
 refine za (fun h=>?_) fun h=>?_
 ·simp only [decide_eq_true_eq] at h
  have h':n<l.length:=by omega
  have hw:=zj h' (by omega)
  refine ⟨(by first | omega | trivial | (refine ⟨?_,?_⟩<;>first | omega | trivial | (refine ⟨?_,?_⟩<;>first | omega | trivial | (refine ⟨?_,?_⟩<;>first | omega | trivial | rfl)))),?_⟩
  have hc:=c_keys1 t (l.getD n default) (hk _ (zk h'))
  unfold vT at hc
  refine ze [[0],[]] [(1000,1000)] (hc) ?_
  simp -implicitDefEqProofs only [↓zb,push_cast,simprocAttr,tte]
  refine za (fun g=>?_) fun g=>?_
  ·refine zu [0] rfl (by simp) (by simp [zc]<;>omega) ?_ (by first | rfl | simp [ends] | (subst_vars;simp [ends])) (by simp [ends]) (by simp [ends])
   rw [<-hr,vA _ l n h' hi g];rfl
  ·exact zq hI n rfl h' (fun i h2=>if h3:i=n then by rw [h3];exact g else hi i (by omega)) (by simp [hw,ends]) (by simp [hw,ends]) (by simp [hw,ends]) (by simp [hw,ends])
 ·simp only [decide_eq_false_iff_not] at h
  obtain rfl:n=l.length:=by omega
  refine zu [0] rfl (by simp) (by simp [zc]<;>omega) ?_ (by first | rfl | simp [ends] | (subst_vars;simp [ends])) (by simp [ends]) (by simp [ends])
  rw [<-hr,xE _ l hi];rfl
theorem any_fidx {α:Type} (p:α->Bool) (l:List α):decide (fidx p l≥0)=l.any p:=by
 have h:=ku p l
 cases ha:l.any p with
 | false=>rw [ha] at h;simp only [iff_true] at h;exact decide_eq_false (by omega)
 | true=>rw [ha] at h;simp only [Bool.true_eq_false,iff_false] at h;exact decide_eq_true (by omega)
theorem c_containsK (l:List Int) (t:Tbl) (hl:l.length<=1000000000) (hk: ∀k∈l,inC t k):
 ACall Tryz.prog 160 [ints l,.clo 189 [.ptr 1000 0]] [(1000,vT t)] (boo (l.any (vV t))) [(1000,vT t)]:=by
 refine zn mixed ttok Tryz.func160 Tryz.ntmps160 Tryz.results160 ?_
 generalize hr:boo (l.any (vV t))=R
 simp -implicitDefEqProofs only [argT,vT,↓zb,push_cast,simprocAttr,tte]
 have hc:=c_idxK l t hl hk
 unfold vT at hc
 refine ze [[1],[]] [(1000,1000)] (hc) ?_
 simp -implicitDefEqProofs only [↓zb,push_cast,simprocAttr,tte]
 refine zu [0] rfl (by simp) (by simp [zc]<;>omega) ?_ (by first | rfl | simp [ends] | (subst_vars;simp [ends])) (by simp [ends]) (by simp [ends])
 rw [<-hr,<-any_fidx];rfl
structure SmallT (t:Tbl):Prop where
 cols:t.columns.length<=1000
 prim:t.primary.length<=1000
 uniq:t.uniques.length<=1000
 uniqs: ∀u∈t.uniques,u.length<=1000
 fors:t.foreigns.length<=1000
 forss: ∀f∈t.foreigns,f.columns.length<=1000
 chk:t.checks.length<=1000
 chks: ∀e∈t.checks,Ok12 e
def yq (t:Tbl):List (List Int):=t.uniques++t.foreigns.map (·.columns)
def xm (t:Tbl):Int:=if yG t.columns.length t.primary then if t.primary.any (vV t) then 4 else if (yq t).all (yG t.columns.length) then 0 else 6 else 6
theorem qS {t:Tbl} {l:List Int} (h:yG t.columns.length l=true): ∀k∈l,inC t k:=by
 intro k hk
 obtain ⟨i,hi,rfl⟩:=List.getElem_of_mem hk
 simp only [yG,Bool.and_eq_true] at h
 have:=all_range.1 h.1 i hi
 simp only [okAt,Bool.and_eq_true,decide_eq_true_eq,List.getD_eq_getElem?_getD,List.getElem?_eq_getElem hi,Option.getD_some] at this
 exact this.1
theorem c_keys (t:Tbl) (ht:SmallT t):ACall Tryz.prog 147 [aT t] [] (num (xm t)) []:=by
 refine zn mixed ttok Tryz.func147 Tryz.ntmps147 Tryz.results147 ?_
 generalize hr:num (xm t)=R
 have hp:=ht.prim
 have hU:=ht.uniq
 have hF:=ht.fors
 simp -implicitDefEqProofs only [argT,↓zb,push_cast,simprocAttr,tte]
 refine ze [[0,3,1,1,2,6],[1]] [] (c_key t t.primary (by omega)) ?_
 simp -implicitDefEqProofs only [↓zb,push_cast,simprocAttr,tte]
 cases hk:yG t.columns.length t.primary with
 | false=>
   simp only [hk,Bool.false_eq_true,if_false]
   refine za (fun h=>?_) (fun h=>absurd h (by decide))
   exact zi trivial (by rw [<-hr,xm,hk];rfl) (by simp [ends])
 | true=>
 simp only [hk,if_true]
 refine za (fun h=>absurd h (by decide)) (fun _=>?_)
 have hc:=c_containsK t.primary t (by omega) (qS hk)
 unfold vT at hc
 refine ze [[1],[]] [(1000,1)] (hc) ?_
 simp -implicitDefEqProofs only [↓zb,push_cast,simprocAttr,tte]
 refine za (fun g=>?_) fun g=>?_
 ·exact zi trivial (by rw [<-hr,xm,hk,g];rfl) (by simp [ends])
 refine ze [[1]] [(1000,600)] (c_clone t.uniques (by omega)) ?_
 simp -implicitDefEqProofs only [↓zb,push_cast,simprocAttr,tte]
 have hM:xm t=if (yq t).all (yG t.columns.length) then 0 else 6:=by rw [xm,hk,g];rfl
 refine zo mixed ttok 27 [1,25,26] [1] (by simp only [zC,ends,push_cast,simprocAttr];rfl) (by simp only [zH,zp,ends,push_cast,simprocAttr];rfl) t.foreigns.length (fun _=>True) (fun n=>[(4,.vec 600 (t.uniques.length+n))]) (fun n=>[(600,.vec 22 1 (zd rIs (t.uniques++(t.foreigns.take n).map (·.columns))) 0)]) trivial ?_ ?_
 ·exact Weak.keepL (by simp [cst,ends]) (by simp [cst,ends]) (by simp [cst,ends])
 intro I hI n hn hi
 have hl2:(t.uniques++(t.foreigns.take n).map (·.columns)).length=t.uniques.length+n:=by simp;omega
 simp -implicitDefEqProofs only [cst,↓zb,push_cast,simprocAttr,tte]
 refine za (fun h=>?_) fun h=>?_
 ·simp only [decide_eq_true_eq] at h
  have h':n<t.foreigns.length:=by omega
  have hw:=zj h' (by omega)
  have hs:(t.foreigns.take (n+1)).map (·.columns)=(t.foreigns.take n).map (·.columns)++[(t.foreigns.getD n default).columns]:=by rw [z7 _ _ h',List.map_append];rfl
  refine ⟨(by first | omega | trivial | (refine ⟨?_,?_⟩<;>first | omega | trivial | (refine ⟨?_,?_⟩<;>first | omega | trivial | (refine ⟨?_,?_⟩<;>first | omega | trivial | rfl)))),⟨hl2.symm,by rw [hl2];omega⟩,?_⟩
  exact zq hI n rfl h' trivial (by simp [hw,hs,hl2,zh,Nat.min_eq_left hn,Nat.add_assoc,ends]) (by simp [hw,hs,hl2,zh,Nat.min_eq_left hn,Nat.add_assoc,ends]) (by simp [hw,hs,hl2,zh,Nat.min_eq_left hn,Nat.add_assoc,ends]) (by simp [hw,hs,hl2,zh,Nat.min_eq_left hn,Nat.add_assoc,ends])
 simp only [decide_eq_false_iff_not] at h
 obtain rfl:n=t.foreigns.length:=by omega
 clear hI
 have hL:t.uniques++(t.foreigns.take t.foreigns.length).map (·.columns)=yq t:=by rw [List.take_length,yq]
 have hll:(yq t).length=t.uniques.length+t.foreigns.length:=by rw [<-hL];exact hl2
 rw [hL]
 refine ⟨hll.symm,?_⟩
 rw [<-hll]
 refine zo mixed ttok 39 [1,37,38] [1,600] (by simp only [zC,ends,push_cast,simprocAttr];rfl) (by simp only [zH,zp,ends,push_cast,simprocAttr];rfl) (yq t).length (fun n=> ∀i,i<n->yG t.columns.length ((yq t).getD i default)=true) (fun _=>[]) (fun _=>[]) (fun i h=>absurd h (Nat.not_lt_zero _)) ?_ ?_
 ·exact Weak.keepL (by simp [cst,hll,ends]) (by simp [cst,ends]) (by simp [cst,ends])
 intro I hI n hn hi
 simp -implicitDefEqProofs only [cst,↓zb,push_cast,simprocAttr,tte]
 refine za (fun h=>?_) fun h=>?_
 ·simp only [decide_eq_true_eq] at h
  have h':n<(yq t).length:=by omega
  have hw:=zj h' (by omega)
  refine ⟨(by first | omega | trivial | (refine ⟨?_,?_⟩<;>first | omega | trivial | (refine ⟨?_,?_⟩<;>first | omega | trivial | (refine ⟨?_,?_⟩<;>first | omega | trivial | rfl)))),h',?_⟩
  have hlen:((yq t).getD n default).length<=1000:=by
   have hm:=zk h'
   generalize (yq t).getD n default=x at hm ⊢
   simp only [yq,List.mem_append,List.mem_map] at hm
   rcases hm with hm | ⟨f,hf,rfl⟩
   ·exact ht.uniqs _ hm
   ·exact ht.forss f hf
  refine ze [[0,3,1,1,2,6],[1]] [] (c_key t ((yq t).getD n default) (by omega)) ?_
  simp -implicitDefEqProofs only [↓zb,push_cast,simprocAttr,tte]
  cases hk2:yG t.columns.length ((yq t).getD n default) with
  | false=>
    simp only [hk2,Bool.false_eq_true,if_false]
    refine za (fun h=>?_) (fun h=>absurd h (by decide))
    have:(yq t).all (yG t.columns.length)=false:=by
     rw [List.all_eq_false]
     exact ⟨_,zk h',by rw [hk2];decide⟩
    exact zi trivial (by rw [<-hr,hM,this];rfl) (by simp [ends])
  | true=>
    simp only [hk2,if_true]
    refine za (fun h=>absurd h (by decide)) (fun _=>?_)
    exact zq hI n rfl h' (fun i h2=>if h3:i=n then by rw [h3];exact hk2 else hi i (by omega)) (by simp [hw,ends]) (by simp [hw,ends]) (by simp [hw,ends]) (by simp [hw,ends])
 ·simp only [decide_eq_false_iff_not] at h
  have hn':n=(yq t).length:=by omega
  have:(yq t).all (yG t.columns.length)=true:=by
   rw [List.all_eq_true]
   intro x hx
   obtain ⟨i,hi2,rfl⟩:=List.getElem_of_mem hx
   have:=hi i (by omega)
   rwa [List.getD_eq_getElem?_getD,List.getElem?_eq_getElem hi2] at this
  exact zi trivial (by rw [<-hr,hM,this];rfl) (by simp [ends])
end
section
open Go.Am
attribute [local simp, local push_cast] num boo str ints aV aTab zv aS aT aC
def oddR (c:Int):Bool:=(decide (c<32) || decide (c>126)) || c==39
theorem c_text1 (c:Int):ACall Tryz.prog 154 [.d (.lit (.int .i32 c))] [] (boo (oddR c)) []:=by
 refine zn mixed ttok Tryz.func154 Tryz.ntmps154 Tryz.results154 ?_
 generalize hr:boo (oddR c)=R
 simp -implicitDefEqProofs only [argT,↓zb,push_cast,simprocAttr,tte]
 refine za (fun h1=>?_) fun h1=>?_
 ·exact zi trivial (by rw [<-hr,oddR,h1,Bool.true_or,Bool.true_or];rfl) (by simp [ends])
 refine za (fun h2=>?_) fun h2=>?_
 ·exact zi trivial (by rw [<-hr,oddR,h1,h2,Bool.or_true,Bool.true_or];rfl) (by simp [ends])
 ·exact zi trivial (by rw [<-hr,oddR,h1,h2,Bool.or_false,Bool.false_or];rfl) (by simp [ends])
def ui (s:ByteArray) (p:Nat):Nat->Int
 | 0=> -1
 | n+1=>if p<s.size then (if oddR (Utf8.decode s p).1 then p else ui s (p+(Utf8.decode s p).2) n) else -1
theorem dec_pos (s:ByteArray) (p:Nat):0<(Utf8.decode s p).2:=by
 unfold Utf8.decode
 simp only []
 repeat' split
 all_goals simp
theorem qU (s:ByteArray): ∀(n p m:Nat),s.size-p<=n->n<=m->ui s p n=ui s p m
 | 0,p,m,h,_=>by
   cases m with
   | zero=>rfl
   | succ m=>simp only [ui];rw [if_neg (by omega)]
 | n+1,p,0,h,h2=>by omega
 | n+1,p,m+1,h,h2=>by
   simp only [ui]
   have:=dec_pos s p
   rw [qU s n (p+(Utf8.decode s p).2) m (by omega) (by omega)]
def wZ (s:ByteArray) (p:Nat):Int:=ui s p s.size
theorem oddIdx_eq (s:ByteArray) (p:Nat):wZ s p=if p<s.size then (if oddR (Utf8.decode s p).1 then (p:Int) else wZ s (p+(Utf8.decode s p).2)) else -1:=by
 unfold wZ
 rw [qU s s.size p (s.size+1) (by omega) (by omega)]
 rfl
theorem c_indexF (s:ByteArray):ACall Tryz.prog 193 [str s,.clo 154 [],boo true] [] (num (wZ s 0)) []:=by
 refine zn mixed ttok Tryz.func193 Tryz.ntmps193 Tryz.results193 ?_
 generalize hr:num (wZ s 0)=R
 simp -implicitDefEqProofs only [argT,↓zb,push_cast,simprocAttr,tte]
 refine u6 mixed ttok (fun p:{p:Nat // wZ s p=wZ s 0}=>(⟨[(10,.itr 10),(1,.clo 154 []),(2,boo true)],[(10,.it s p.1)]⟩:SL)) (fun p=>s.size-p.1) ⟨0,rfl⟩ ?_ fun ⟨p,hp⟩=>?_
 ·exact Weak.keepL (by simp [ends]) (by simp [ends]) (by simp [ends])
 generalize hI:(fun p:{p:Nat // wZ s p=wZ s 0}=>(⟨[(10,.itr 10),(1,.clo 154 []),(2,boo true)],[(10,.it s p.1)]⟩:SL))=I
 rw [oddIdx_eq] at hp
 by_cases h:p<s.size
 ·rw [if_pos h] at hp
  simp -implicitDefEqProofs only [nextOf_lt h,↓zb,push_cast,simprocAttr,tte]
  refine ze [[0]] [] (c_text1 (Utf8.decode s p).1) ?_
  simp -implicitDefEqProofs only [↓zb,push_cast,simprocAttr,tte]
  refine za (fun g=>?_) fun g=>?_
  ·have g':oddR (Utf8.decode s p).1=true:=by simpa [qk] using g
   rw [g',if_pos rfl] at hp
   exact zi trivial (by rw [<-hr,<-hp];rfl) (by simp [ends])
  ·have g':oddR (Utf8.decode s p).1=false:=by simpa [qk] using g
   rw [g',if_neg (by decide)] at hp
   have:=dec_pos s p
   refine loopK_again (⟨p+(Utf8.decode s p).2,hp⟩:{p:Nat // wZ s p=wZ s 0}) (by show s.size-(p+(Utf8.decode s p).2)<s.size-p;omega) ?_ ?_ ?_<;>subst hI
   ·simp [ends]
   ·simp [ends]
   ·simp [ends]
 ·rw [if_neg h] at hp
  simp -implicitDefEqProofs only [nextOf_ge h,↓zb,push_cast,simprocAttr,tte]
  exact zi trivial (by rw [<-hr,<-hp];rfl) (by simp [ends])
theorem c_indexFunc (s:ByteArray):ACall Tryz.prog 153 [str s,.clo 154 []] [] (num (wZ s 0)) []:=by
 refine zn mixed ttok Tryz.func153 Tryz.ntmps153 Tryz.results153 ?_
 generalize hr:num (wZ s 0)=R
 simp -implicitDefEqProofs only [argT,↓zb,push_cast,simprocAttr,tte]
 refine ze [[0],[],[0]] [] (c_indexF s) ?_
 simp -implicitDefEqProofs only [↓zb,push_cast,simprocAttr,tte]
 exact zi trivial (by rw [<-hr];rfl) (by simp [ends])
def qe (s:ByteArray):Bool:=decide (s.size<=24)&&decide (wZ s 0<0)
theorem c_vtext (s:ByteArray):ACall Tryz.prog 87 [str s] [] (boo (qe s)) []:=by
 refine zn mixed ttok Tryz.func87 Tryz.ntmps87 Tryz.results87 ?_
 generalize hr:boo (qe s)=R
 have hM:decide ((s.size:Int)<=24)=decide (s.size<=24):=decide_eq_decide.2 (by omega)
 simp -implicitDefEqProofs only [argT,hM,↓zb,push_cast,simprocAttr,tte]
 refine za (fun h=>?_) fun h=>?_
 ·refine ze [[0],[]] [] (c_indexFunc s) ?_
  simp -implicitDefEqProofs only [↓zb,push_cast,simprocAttr,tte]
  exact zi trivial (by rw [<-hr,qe,h,Bool.true_and];rfl) (by simp [ends])
 ·exact zi trivial (by rw [<-hr,qe,h,Bool.false_and];rfl) (by simp [ends])
def zJ (v:Val):Bool:=
 if v.kind=0 then (v.num==0)&&(v.text.toList==[])
 else if v.kind=1 then (decide (v.num≥ -1000000000000)&&decide (v.num<=1000000000000))&&(v.text.toList==[])
 else if v.kind=2 then ((v.num==0) || (v.num==1))&&(v.text.toList==[])
 else if v.kind=3 then (v.num==0)&&qe v.text
 else false
theorem um (v:Val):ACall Tryz.prog 45 [aV v] [] (boo (zJ v)) []:=by
 refine zn mixed ttok Tryz.func45 Tryz.ntmps45 Tryz.results45 ?_
 generalize hr:boo (zJ v)=R
 have he:(ByteArray.mk #[]).toList=[]:=by simp [ByteArray.toList_eq]
 simp -implicitDefEqProofs only [argT,he,↓zb,push_cast,simprocAttr,tte]
 refine za (fun k0=>?_) fun k0=>?_
 ·have hk:v.kind=0:=by simpa using k0
  have hM:zJ v=((v.num==0)&&(v.text.toList==[])):=by rw [zJ,if_pos hk]
  refine za (fun g=>?_) fun g=>?_
  ·exact zi trivial (by rw [<-hr,hM,g,Bool.true_and];rfl) (by simp [ends])
  ·exact zi trivial (by rw [<-hr,hM,g,Bool.false_and];rfl) (by simp [ends])
 have hk0: ¬v.kind=0:=by simpa using k0
 refine za (fun k1=>?_) fun k1=>?_
 ·have hk:v.kind=1:=by simpa using k1
  have hM:zJ v=((decide (v.num≥ -1000000000000)&&decide (v.num<=1000000000000))&&(v.text.toList==[])):=by rw [zJ,if_neg hk0,if_pos hk]
  refine za (fun g=>?_) fun g=>?_
  ·refine za (fun g2=>?_) fun g2=>?_
   ·exact zi trivial (by rw [<-hr,hM,g,g2,Bool.true_and,Bool.true_and];rfl) (by simp [ends])
   ·exact zi trivial (by rw [<-hr,hM,g,g2,Bool.true_and,Bool.false_and];rfl) (by simp [ends])
  ·exact zi trivial (by rw [<-hr,hM,g,Bool.false_and,Bool.false_and];rfl) (by simp [ends])
 have hk1: ¬v.kind=1:=by simpa using k1
 refine za (fun k2=>?_) fun k2=>?_
 ·have hk:v.kind=2:=by simpa using k2
  have hM:zJ v=(((v.num==0) || (v.num==1))&&(v.text.toList==[])):=by rw [zJ,if_neg hk0,if_neg hk1,if_pos hk]
  refine za (fun g=>?_) fun g=>?_
  ·exact zi trivial (by rw [<-hr,hM,g,Bool.true_or,Bool.true_and];rfl) (by simp [ends])
  ·refine za (fun g2=>?_) fun g2=>?_
   ·exact zi trivial (by rw [<-hr,hM,g,g2,Bool.false_or,Bool.true_and];rfl) (by simp [ends])
   ·exact zi trivial (by rw [<-hr,hM,g,g2,Bool.false_or,Bool.false_and];rfl) (by simp [ends])
 have hk2: ¬v.kind=2:=by simpa using k2
 refine za (fun k3=>?_) fun k3=>?_
 ·have hk:v.kind=3:=by simpa using k3
  have hM:zJ v=((v.num==0)&&qe v.text):=by rw [zJ,if_neg hk0,if_neg hk1,if_neg hk2,if_pos hk]
  refine za (fun g=>?_) fun g=>?_
  ·refine ze [[0]] [] (c_vtext v.text) ?_
   simp -implicitDefEqProofs only [↓zb,push_cast,simprocAttr,tte]
   exact zi trivial (by rw [<-hr,hM,g,Bool.true_and];rfl) (by simp [ends])
  ·exact zi trivial (by rw [<-hr,hM,g,Bool.false_and];rfl) (by simp [ends])
 ·have hk3: ¬v.kind=3:=by simpa using k3
  have hM:zJ v=false:=by rw [zJ,if_neg hk0,if_neg hk1,if_neg hk2,if_neg hk3]
  exact zi trivial (by rw [<-hr,hM];rfl) (by simp [ends])
end
section
open Go.Am
attribute [local simp, local push_cast] num boo str ints aV aTab zv aS aT aC
def kH (s:ByteArray) (i:Nat):Int:=((s.data.getD i 0).toNat:Nat)
theorem get_byte (s:ByteArray) (i:Nat) (h:i<s.size):((s.get! i).toNat:Int)=kH s i:=by
 have h':i<s.data.size:=h
 show (((s.data[i]!).toNat:Nat):Int)=_
 rw [kH,Array.getD_eq_getD_getElem?,Array.getElem?_eq_getElem h',getElem!_pos s.data i h']
 rfl
theorem decode_low (s:ByteArray) (p:Nat) (h:(s.get! p).toNat<128):Utf8.decode s p=((s.get! p).toNat,1):=by
 unfold Utf8.decode
 simp only [Nat.add_zero]
 rw [if_pos h]
theorem decode_high (s:ByteArray) (p:Nat) (h: ¬(s.get! p).toNat<128):127<(Utf8.decode s p).1:=by
 unfold Utf8.decode
 simp only [Nat.add_zero]
 rw [if_neg h]
 repeat' split
 all_goals first | (simp [Utf8.runeError];done) | (simp only [Bool.and_eq_true,decide_eq_true_eq,ge_iff_le] at *;omega)
theorem oddR_high {c:Int} (h:126<c):oddR c=true:=by rw [oddR,decide_eq_true (by omega:c>126),Bool.or_true,Bool.true_or]
theorem oddFrom_neg (s:ByteArray): ∀(n p:Nat),s.size-p≤n→(ui s p n<0 ↔ ∀i,p≤i→i<s.size→oddR (kH s i)=false)
 | 0,p,h=>⟨fun _ i h1 h2=>by omega,fun _=>by show (-1:Int)<0;decide⟩
 | n+1,p,h=>by
   simp only [ui]
   by_cases hp:p<s.size
   ·rw [if_pos hp]
    by_cases hl:(s.get! p).toNat<128
    ·rw [decode_low s p hl]
     simp only []
     rw [get_byte s p hp]
     by_cases ho:oddR (kH s p)=true
     ·rw [if_pos ho]
      exact ⟨fun h=>by omega,fun h=>by rw [h p (Nat.le_refl _) hp] at ho;cases ho⟩
     ·rw [if_neg ho,oddFrom_neg s n (p+1) (by omega)]
      simp only [Bool.not_eq_true] at ho
      exact ⟨fun h i h1 h2=>if hi:i=p then hi ▸ ho else h i (by omega) h2,fun h i h1 h2=>h i (by omega) h2⟩
    ·have:=decode_high s p hl
     rw [if_pos (oddR_high (by omega))]
     refine ⟨fun h=>by omega,fun h=>?_⟩
     have h2:=h p (Nat.le_refl _) hp
     rw [<-get_byte s p hp,oddR_high (by omega)] at h2
     cases h2
   ·rw [if_neg hp]
    exact ⟨fun _ i h1 h2=>by omega,fun _=>by decide⟩
def kO (s:ByteArray):Bool:=(List.range s.size).all fun i=> !oddR (kH s i)
theorem textM_eq (s:ByteArray):qe s=(decide (s.size<=24)&&kO s):=by
 have h:=oddFrom_neg s s.size 0 (by omega)
 rw [qe]
 congr 1
 rw [Bool.eq_iff_iff,decide_eq_true_eq]
 show ui s 0 s.size<0 ↔ _
 rw [h,kO,all_range]
 exact ⟨fun h i hi=>by rw [h i (Nat.zero_le _) hi];rfl,fun h i _ hi=>by simpa using h i hi⟩
theorem kG (v:Val):ACall Tryz.prog 47 [aV v] [] (boo (zJ v)) []:=by
 refine zn mixed ttok Tryz.func47 Tryz.ntmps47 Tryz.results47 ?_
 generalize hr:boo (zJ v)=R
 have he:(ByteArray.mk #[]).toList=[]:=by simp [ByteArray.toList_eq]
 simp -implicitDefEqProofs only [argT,he,↓zb,push_cast,simprocAttr,tte]
 refine za (fun k0=>?_) fun k0=>?_
 ·have hk:v.kind=0:=by simpa using k0
  have hM:zJ v=((v.num==0)&&(v.text.toList==[])):=by rw [zJ,if_pos hk]
  refine za (fun g=>?_) fun g=>?_
  ·exact zi trivial (by rw [<-hr,hM,g,Bool.true_and];rfl) (by simp [ends])
  ·exact zi trivial (by rw [<-hr,hM,g,Bool.false_and];rfl) (by simp [ends])
 have hk0: ¬v.kind=0:=by simpa using k0
 refine za (fun k1=>?_) fun k1=>?_
 ·have hk:v.kind=1:=by simpa using k1
  have hM:zJ v=((decide (v.num≥ -1000000000000)&&decide (v.num<=1000000000000))&&(v.text.toList==[])):=by rw [zJ,if_neg hk0,if_pos hk]
  refine za (fun g=>?_) fun g=>?_
  ·refine za (fun g2=>?_) fun g2=>?_
   ·exact zi trivial (by rw [<-hr,hM,g,g2,Bool.true_and,Bool.true_and];rfl) (by simp [ends])
   ·exact zi trivial (by rw [<-hr,hM,g,g2,Bool.true_and,Bool.false_and];rfl) (by simp [ends])
  ·exact zi trivial (by rw [<-hr,hM,g,Bool.false_and,Bool.false_and];rfl) (by simp [ends])
 have hk1: ¬v.kind=1:=by simpa using k1
 refine za (fun k2=>?_) fun k2=>?_
 ·have hk:v.kind=2:=by simpa using k2
  have hM:zJ v=(((v.num==0) || (v.num==1))&&(v.text.toList==[])):=by rw [zJ,if_neg hk0,if_neg hk1,if_pos hk]
  refine za (fun g=>?_) fun g=>?_
  ·exact zi trivial (by rw [<-hr,hM,g,Bool.true_or,Bool.true_and];rfl) (by simp [ends])
  ·refine za (fun g2=>?_) fun g2=>?_
   ·exact zi trivial (by rw [<-hr,hM,g,g2,Bool.false_or,Bool.true_and];rfl) (by simp [ends])
   ·exact zi trivial (by rw [<-hr,hM,g,g2,Bool.false_or,Bool.false_and];rfl) (by simp [ends])
 have hk2: ¬v.kind=2:=by simpa using k2
 refine za (fun k3=>?_) fun k3=>?_
 ·have hk:v.kind=3:=by simpa using k3
  have hM:zJ v=((v.num==0)&&(decide (v.text.size<=24)&&kO v.text)):=by rw [zJ,if_neg hk0,if_neg hk1,if_neg hk2,if_pos hk,textM_eq]
  refine za (fun g1=>?_) fun g1=>?_
  ·have:(v.num==0)=false:=by simpa [bne] using g1
   exact zi trivial (by rw [<-hr,hM,this,Bool.false_and];rfl) (by simp [ends])
  have g1':(v.num==0)=true:=by simpa [bne] using g1
  refine za (fun g2=>?_) fun g2=>?_
  ·simp only [decide_eq_true_eq] at g2
   exact zi trivial (by rw [<-hr,hM,decide_eq_false (by omega: ¬v.text.size<=24),Bool.false_and,Bool.and_false];rfl) (by simp [ends])
  simp only [decide_eq_false_iff_not] at g2
  have hM2:zJ v=kO v.text:=by rw [hM,g1',decide_eq_true (by omega:v.text.size<=24),Bool.true_and,Bool.true_and]
  refine zo mixed ttok 3 [1] [1] (by simp only [zC,ends,push_cast,simprocAttr];rfl) (by simp only [zH,zp,ends,push_cast,simprocAttr];rfl) v.text.size (fun n=> ∀i,i<n->(!oddR (kH v.text i))=true) (fun _=>[]) (fun _=>[]) (fun i h=>absurd h (Nat.not_lt_zero _)) ?_ ?_
  ·exact Weak.keepL (by simp [cst,ends]) (by simp [cst,ends]) (by simp [cst,ends])
  intro I hI n hn hi
  simp -implicitDefEqProofs only [cst,↓zb,push_cast,simprocAttr,tte]
  refine za (fun h=>?_) fun h=>?_
  ·simp only [decide_eq_true_eq] at h
   have h':n<v.text.size:=by omega
   have hw:=zj h' (by omega)
   have bad:oddR (kH v.text n)=true->zJ v=false:=fun h=>by rw [hM2,kO,xG h' (by rw [h];rfl)]
   refine ⟨(by first | omega | trivial | (refine ⟨?_,?_⟩<;>first | omega | trivial | (refine ⟨?_,?_⟩<;>first | omega | trivial | (refine ⟨?_,?_⟩<;>first | omega | trivial | rfl)))),?_⟩
   generalize hcc:(((v.text.data.getD n 0).toNat:Nat):Int)=c
   have hcb:kH v.text n=c:=hcc
   rw [hcb] at bad
   refine za (fun g3=>?_) fun g3=>?_
   ·exact zi trivial (by rw [<-hr,bad (by rw [oddR,g3];rfl)];rfl) (by simp [ends])
   refine ⟨(by first | omega | trivial | (refine ⟨?_,?_⟩<;>first | omega | trivial | (refine ⟨?_,?_⟩<;>first | omega | trivial | (refine ⟨?_,?_⟩<;>first | omega | trivial | rfl)))),?_⟩
   refine za (fun g4=>?_) fun g4=>?_
   ·exact zi trivial (by rw [<-hr,bad (by rw [oddR,g3,g4];rfl)];rfl) (by simp [ends])
   refine ⟨(by first | omega | trivial | (refine ⟨?_,?_⟩<;>first | omega | trivial | (refine ⟨?_,?_⟩<;>first | omega | trivial | (refine ⟨?_,?_⟩<;>first | omega | trivial | rfl)))),?_⟩
   refine za (fun g5=>?_) fun g5=>?_
   ·exact zi trivial (by rw [<-hr,bad (by rw [oddR,g3,g4,g5];rfl)];rfl) (by simp [ends])
   ·exact zq hI n rfl h' (fun i h2=>if h3:i=n then by rw [h3,hcb,oddR,g3,g4,g5];rfl else hi i (by omega)) (by simp [hw,ends]) (by simp [hw,ends]) (by simp [hw,ends]) (by simp [hw,ends])
  ·simp only [decide_eq_false_iff_not] at h
   obtain rfl:n=v.text.size:=by omega
   exact zi trivial (by rw [<-hr,hM2,kO,all_range.2 hi];rfl) (by simp [ends])
 ·have hk3: ¬v.kind=3:=by simpa using k3
  have hM:zJ v=false:=by rw [zJ,if_neg hk0,if_neg hk1,if_neg hk2,if_neg hk3]
  exact zi trivial (by rw [<-hr,hM];rfl) (by simp [ends])
end
section
open Go.Am
attribute [local simp, local push_cast] num boo str ints aV aTab zv aS aT aC
theorem kC (e:Ex): ∀(l:List Ex) (n:Int),depthL n (l++[e])=(if xA e>depthL n l then xA e else depthL n l)
 | [],n=>by simp [depthL]
 | x::l,n=>by simp only [List.cons_append,depthL];exact kC e l _
theorem c_size: ∀e:Ex,Ok12 e->ACall Tryz.prog 95 [aE e] [] (num (wD e)) []:=
 uY (p:=fun e=>Ok12 e->ACall Tryz.prog 95 [aE e] [] (num (wD e)) []) fun e ih ho=>by
 refine zn mixed ttok Tryz.func95 Tryz.ntmps95 Tryz.results95 ?_
 generalize hr:num (wD e)=R
 have hl:=ho.kids
 simp -implicitDefEqProofs only [argT,↓zb,push_cast,simprocAttr,tte]
 refine zo mixed ttok 9 [7,8] [] (by simp only [zC,ends,push_cast,simprocAttr];rfl) (by simp only [zH,zp,ends,push_cast,simprocAttr];rfl) e.kids.length (fun n=>sizeL (sizeL 1 (e.kids.take n)) (e.kids.drop n)=sizeL 1 e.kids) (fun n=>[(3,num (sizeL 1 (e.kids.take n)))]) (fun _=>[]) rfl ?_ ?_
 ·exact Weak.keepL (by simp [cst,sizeL,ends]) (by simp [cst,ends]) (by simp [cst,ends])
 intro I hI n hn hi
 simp -implicitDefEqProofs only [cst,↓zb,push_cast,simprocAttr,tte]
 refine za (fun h=>?_) fun h=>?_
 ·simp only [decide_eq_true_eq] at h
  have h':n<e.kids.length:=by omega
  have hw:=zj h' (by omega)
  have ht:=vo (e.kids.getD n default) (e.kids.take n) 1
  rw [<-z7 _ _ h'] at ht
  refine ⟨(by first | omega | trivial | (refine ⟨?_,?_⟩<;>first | omega | trivial | (refine ⟨?_,?_⟩<;>first | omega | trivial | (refine ⟨?_,?_⟩<;>first | omega | trivial | rfl)))),?_⟩
  refine ze [[0,0,0,0,0,6]] [] (ih _ (zk h') (ho.kid (zk h'))) ?_
  simp -implicitDefEqProofs only [↓zb,push_cast,simprocAttr,tte]
  exact zq hI n rfl h' (by rw [z8 _ n h',sizeL] at hi;rw [ht];exact hi) (by simp [hw,ht,ends]) (by simp [hw,ht,ends]) (by simp [hw,ht,ends]) (by simp [hw,ht,ends])
 ·simp only [decide_eq_false_iff_not] at h
  obtain rfl:n=e.kids.length:=by omega
  exact zi trivial (by rw [<-hr,sizeW_eq,List.take_length];rfl) (by simp [ends])
theorem c_depth: ∀e:Ex,Ok12 e->ACall Tryz.prog 191 [aE e] [] (num (xA e)) []:=
 uY (p:=fun e=>Ok12 e->ACall Tryz.prog 191 [aE e] [] (num (xA e)) []) fun e ih ho=>by
 refine zn mixed ttok Tryz.func191 Tryz.ntmps191 Tryz.results191 ?_
 generalize hr:num (xA e)=R
 have hl:=ho.kids
 simp -implicitDefEqProofs only [argT,↓zb,push_cast,simprocAttr,tte]
 refine zo mixed ttok 9 [7,8] [] (by simp only [zC,ends,push_cast,simprocAttr];rfl) (by simp only [zH,zp,ends,push_cast,simprocAttr];rfl) e.kids.length (fun n=>depthL (depthL 0 (e.kids.take n)) (e.kids.drop n)=depthL 0 e.kids) (fun n=>[(3,num (depthL 0 (e.kids.take n)))]) (fun _=>[]) rfl ?_ ?_
 ·exact Weak.keepL (by simp [cst,depthL,ends]) (by simp [cst,ends]) (by simp [cst,ends])
 intro I hI n hn hi
 simp -implicitDefEqProofs only [cst,↓zb,push_cast,simprocAttr,tte]
 refine za (fun h=>?_) fun h=>?_
 ·simp only [decide_eq_true_eq] at h
  have h':n<e.kids.length:=by omega
  have hw:=zj h' (by omega)
  have ht:=kC (e.kids.getD n default) (e.kids.take n) 0
  rw [<-z7 _ _ h'] at ht
  refine ⟨(by first | omega | trivial | (refine ⟨?_,?_⟩<;>first | omega | trivial | (refine ⟨?_,?_⟩<;>first | omega | trivial | (refine ⟨?_,?_⟩<;>first | omega | trivial | rfl)))),?_⟩
  refine ze [[0,0,0,0,0,6]] [] (ih _ (zk h') (ho.kid (zk h'))) ?_
  simp -implicitDefEqProofs only [↓zb,push_cast,simprocAttr,tte]
  exact zq hI n rfl h' (by rw [z8 _ n h',depthL] at hi;rw [ht];exact hi) (by simp [hw,ht,ends]) (by simp [hw,ht,ends]) (by simp [hw,ht,ends]) (by simp [hw,ht,ends])
 ·simp only [decide_eq_false_iff_not] at h
  obtain rfl:n=e.kids.length:=by omega
  exact zi trivial (by rw [<-hr,depthW_eq,List.take_length];rfl) (by simp [ends])
theorem c_rdepth: ∀e:Ex,Ok12 e->ACall Tryz.prog 194 [aE e] [] (num (xA e)) []:=
 uY (p:=fun e=>Ok12 e->ACall Tryz.prog 194 [aE e] [] (num (xA e)) []) fun e ih ho=>by
 refine zn mixed ttok Tryz.func194 Tryz.ntmps194 Tryz.results194 ?_
 generalize hr:num (xA e)=R
 have hl:=ho.kids
 simp -implicitDefEqProofs only [argT,↓zb,push_cast,simprocAttr,tte]
 refine zo mixed ttok 4 [1] [1] (by simp only [zC,ends,push_cast,simprocAttr];rfl) (by simp only [zH,zp,ends,push_cast,simprocAttr];rfl) e.kids.length (fun n=>depthL (depthL 0 (e.kids.take n)) (e.kids.drop n)=depthL 0 e.kids) (fun n=>[(3,num (depthL 0 (e.kids.take n)))]) (fun _=>[]) rfl ?_ ?_
 ·exact Weak.keepL (by simp [cst,depthL,ends]) (by simp [cst,ends]) (by simp [cst,ends])
 intro I hI n hn hi
 simp -implicitDefEqProofs only [cst,↓zb,push_cast,simprocAttr,tte]
 refine za (fun h=>?_) fun h=>?_
 ·simp only [decide_eq_true_eq] at h
  have h':n<e.kids.length:=by omega
  have hw:=zj h' (by omega)
  have ht:=kC (e.kids.getD n default) (e.kids.take n) 0
  rw [<-z7 _ _ h'] at ht
  refine ⟨(by first | omega | trivial | (refine ⟨?_,?_⟩<;>first | omega | trivial | (refine ⟨?_,?_⟩<;>first | omega | trivial | (refine ⟨?_,?_⟩<;>first | omega | trivial | rfl)))),?_⟩
  refine ze [[0,0,0,0,0,6]] [] (ih _ (zk h') (ho.kid (zk h'))) ?_
  simp -implicitDefEqProofs only [↓zb,push_cast,simprocAttr,tte]
  exact zq hI n rfl h' (by rw [z8 _ n h',depthL] at hi;rw [ht];exact hi) (by simp [hw,ht,ends]) (by simp [hw,ht,ends]) (by simp [hw,ht,ends]) (by simp [hw,ht,ends])
 ·simp only [decide_eq_false_iff_not] at h
  obtain rfl:n=e.kids.length:=by omega
  exact zi trivial (by rw [<-hr,depthW_eq,List.take_length];rfl) (by simp [ends])
theorem c_isType (k:Int):ACall Tryz.prog 217 [num k] [] (boo ((k==1 || k==2) || k==3)) []:=by
 refine zn mixed ttok Tryz.func217 Tryz.ntmps217 Tryz.results217 ?_
 generalize hr:boo ((k==1 || k==2) || k==3)=R
 simp -implicitDefEqProofs only [argT,↓zb,push_cast,simprocAttr,tte]
 refine za (fun h1=>?_) fun h1=>?_
 ·exact zi trivial (by rw [<-hr,h1,Bool.true_or,Bool.true_or];rfl) (by simp [ends])
 refine za (fun h2=>?_) fun h2=>?_
 ·exact zi trivial (by rw [<-hr,h1,h2,Bool.or_true,Bool.true_or];rfl) (by simp [ends])
 ·exact zi trivial (by rw [<-hr,h1,h2,Bool.or_false,Bool.false_or];rfl) (by simp [ends])
def opAt (op:Int):OpD:=opTab.getD op.toNat default
def isOp (op:Int):Bool:=decide (1<=op)&&decide (op<=28)
def y9 (op:Int):OpD:=if isOp op then opAt op else default
def aOp (o:OpD):A:= .agg [.d (.lit (.string o.word)),.d (.lit (.int .i64 o.kids)),.d (.lit (.int .i64 o.types)),.d (.lit (.int .i64 o.own))]
theorem flat4: ∀(l:List OpD) (n j:Nat),j<4->n<l.length->(List.map A.d (l.map rOp).flatten)[n * 4+j]? =((rOp (l.getD n default)).map A.d)[j]?
 | [],n,j,hj,h=>by simp at h
 | o::l,0,j,hj,_=>by
   rw [List.map_cons,List.flatten_cons,List.map_append,Nat.zero_mul,Nat.zero_add,List.getElem?_append_left (by simpa [rOp] using hj)]
   rfl
 | o::l,n+1,j,hj,h=>by
   rw [List.map_cons,List.flatten_cons,List.map_append,List.getElem?_append_right (by simp [rOp];omega)]
   have:(n+1) * 4+j-(List.map A.d (rOp o)).length=n * 4+j:=by simp [rOp];omega
   rw [this,flat4 l n j hj (by simpa using h)]
   simp
theorem flat4_drop: ∀(l:List OpD) (n:Nat),n<l.length->((List.map A.d (l.map rOp).flatten).drop (n * 4)).take 4=(rOp (l.getD n default)).map A.d
 | [],n,h=>by simp at h
 | o::l,0,_=>by
   rw [List.map_cons,List.flatten_cons,List.map_append,Nat.zero_mul,List.drop_zero,List.take_append_of_le_length (by simp [rOp])]
   simp [rOp]
 | o::l,n+1,h=>by
   rw [List.map_cons,List.flatten_cons,List.map_append]
   have:(n+1) * 4=(List.map A.d (rOp o)).length+n * 4:=by simp [rOp];omega
   rw [this,List.drop_append]
   simp only [List.drop_eq_nil_of_le (Nat.le_add_right _ _),Nat.add_sub_cancel_left,List.nil_append]
   rw [flat4_drop l n (by simpa using h)]
   simp
theorem word_some: ∀n:Nat,1<=n->n<29->((opTab.getD n default).word.toList==[])=false:=by
 have h:(List.range 29).all (fun n=>decide (n=0) || !(opTab.getD n default).word.data.toList.isEmpty)=true:=by decide
 intro n h1 h2
 have:=all_range.1 h n h2
 rw [decide_eq_false (by omega),Bool.false_or] at this
 rw [ByteArray.toList_eq]
 cases hw:(opTab.getD n default).word.data.toList with
 | nil=>rw [hw] at this;cases this
 | cons _ _=>rfl
theorem c_ofind (op:Int):ACall Tryz.prog 164 [num op] [] (.tup [aOp (y9 op),boo (isOp op)]) []:=by
 refine zn mixed ttok Tryz.func164 Tryz.ntmps164 Tryz.results164 ?_
 generalize hr:A.tup [aOp (y9 op),boo (isOp op)]=R
 have he:(ByteArray.mk #[]).toList=[]:=by simp [ByteArray.toList_eq]
 by_cases ho:0<=op/\op<29
 ·obtain ⟨h0,h29⟩:=ho
  have h1:(List.map A.d opRow)[op.toNat * 4]? =some (.d (.lit (.string (opAt op).word))):=by
   have:=flat4 opTab op.toNat 0 (by omega) (by rw [qQ];omega)
   rw [Nat.add_zero] at this
   exact this
  have h4:=flat4_drop opTab op.toNat (by rw [qQ];omega)
  have h3:((List.map A.d opRow).drop (op.toNat * 4)).take 4=[.d (.lit (.string (opAt op).word)),.d (.lit (.int .i64 (opAt op).kids)),.d (.lit (.int .i64 (opAt op).types)),.d (.lit (.int .i64 (opAt op).own))]:=h4
  simp -implicitDefEqProofs only [argT,tab0,he,h1,h3,↓zb,push_cast,simprocAttr,tte]
  refine za (fun h=>absurd h (by simp;omega)) fun _=>za (fun h=>absurd h (by simp;omega)) fun _=>?_
  refine ⟨⟨h0,by omega⟩,?_⟩
  subst hr
  by_cases hz:op=0
  ·subst hz
   have hw:((opAt 0).word.toList==[])=true:=by rw [ByteArray.toList_eq];rfl
   refine za (fun _=>?_) fun h=>absurd h (by rw [hw];decide)
   refine zx [[0,0,0,0],[0]] rfl (by simp) (by simp [zc]<;>omega) ?_ (by first | rfl | simp [ends] | (subst_vars;simp [ends])) (by simp [ends]) (by simp [ends])
   rfl
  ·have hw:((opAt op).word.toList==[])=false:=word_some op.toNat (by omega) (by omega)
   refine za (fun h=>absurd h (by rw [hw];decide)) fun _=>?_
   have hy:isOp op=true:=by rw [isOp,decide_eq_true (by omega),decide_eq_true (by omega)];rfl
   have hlen:(List.map A.d opRow).length=116:=rfl
   refine ⟨⟨h0,by omega⟩,by rw [hlen];omega,?_⟩
   rw [y9,hy]
   refine zx [[0,0,0,0],[0]] rfl (by simp) (by simp [zc]<;>omega) ?_ (by first | rfl | simp [ends] | (subst_vars;simp [ends])) (by simp [ends]) (by simp [ends])
   rfl
 ·have hn:isOp op=false:=by
   rw [isOp,Bool.and_eq_false_iff,decide_eq_false_iff_not,decide_eq_false_iff_not];omega
  simp -implicitDefEqProofs only [argT,tab0,he,↓zb,push_cast,simprocAttr,tte]
  have hf:A.tup [aOp default,boo false]=R:=by rw [<-hr,y9,hn];rfl
  subst hf
  refine za (fun g=>?_) fun g=>?_
  ·refine zx [[0,0,0,0],[0]] rfl (by simp) (by simp [zc]<;>omega) ?_ (by first | rfl | simp [ends] | (subst_vars;simp [ends])) (by simp [ends]) (by simp [ends])
   rfl
  ·refine za (fun _=>?_) fun h=>absurd h (by simp at g;simp;omega)
   refine zx [[0,0,0,0],[0]] rfl (by simp) (by simp [zc]<;>omega) ?_ (by first | rfl | simp [ends] | (subst_vars;simp [ends])) (by simp [ends]) (by simp [ends])
   rfl
end
section
open Go.Am
attribute [local simp, local push_cast] num boo str ints aV aTab zv aS aT aC
def yA (e:Ex):Bool:=isOp e.op&&(((e.kids.length:Int)==(y9 e.op).kids) || ((e.op==28)&&decide ((e.kids.length:Int)>(y9 e.op).kids)))
theorem c_known (e:Ex):ACall Tryz.prog 108 [aE e] [] (.tup [aOp (y9 e.op),boo (isOp e.op),boo (yA e)]) []:=by
 refine zn mixed ttok Tryz.func108 Tryz.ntmps108 Tryz.results108 ?_
 obtain ⟨c,hc⟩: ∃c,yA e=c:=⟨_,rfl⟩
 rw [hc]
 have hM:=hc
 rw [yA] at hM
 simp -implicitDefEqProofs only [argT,↓zb,push_cast,simprocAttr,tte]
 refine ze [[0]] [] (c_ofind e.op) ?_
 generalize y9 e.op=o at hM ⊢
 simp -implicitDefEqProofs only [aOp,↓zb,push_cast,simprocAttr,tte]
 have fin: ∀b:Bool,b=c->A.tup [aOp o,boo (isOp e.op),boo b]=A.tup [aOp o,boo (isOp e.op),boo c]:=fun b h=>by rw [h]
 refine za (fun g=>?_) fun g=>?_
 ·rw [g,Bool.true_and] at hM
  refine za (fun g1=>?_) fun g1=>?_
  ·rw [g1,Bool.true_or] at hM
   refine ⟨zf (by kernel_rfl),?_⟩
   subst hM
   refine zx [[0,0,0,0],[0],[0]] rfl (by simp) (by simp [zc]<;>omega) ?_ (by first | rfl | simp [ends] | (subst_vars;simp [ends])) (by simp [ends]) (by simp [ends])
   simp only [g]
  ·rw [g1,Bool.false_or] at hM
   refine za (fun g2=>?_) fun g2=>?_
   ·rw [g2,Bool.true_and] at hM
    refine ⟨zf (by kernel_rfl),?_⟩
    subst hM
    refine zx [[0,0,0,0],[0],[0]] rfl (by simp) (by simp [zc]<;>omega) ?_ (by first | rfl | simp [ends] | (subst_vars;simp [ends])) (by simp [ends]) (by simp [ends])
    simp only [g]
   ·rw [g2,Bool.false_and] at hM
    refine ⟨zf (by kernel_rfl),?_⟩
    subst hM
    refine zx [[0,0,0,0],[0],[0]] rfl (by simp) (by simp [zc]<;>omega) ?_ (by first | rfl | simp [ends] | (subst_vars;simp [ends])) (by simp [ends]) (by simp [ends])
    simp only [g]
 ·rw [g,Bool.false_and] at hM
  refine ⟨zf (by kernel_rfl),?_⟩
  subst hM
  refine zx [[0,0,0,0],[0],[0]] rfl (by simp) (by simp [zc]<;>omega) ?_ (by first | rfl | simp [ends] | (subst_vars;simp [ends])) (by simp [ends]) (by simp [ends])
  simp only [g]
def okF (e:Ex):Bool:=
 if e.op=1 then ((e.type==1 || e.type==2) || e.type==3) else if e.op=2 then zJ ⟨1,e.num,ByteArray.empty⟩ else if e.op=3 then zJ ⟨2,e.num,ByteArray.empty⟩
 else if e.op=4 then zJ ⟨3,0,e.text⟩ else true
def noT (e:Ex):Bool:=if e.op=1 then true else e.type==0
def noN (e:Ex):Bool:=if e.op=2 then true else if e.op=3 then true else e.num==0
def noX (e:Ex):Bool:=if e.op=4 then true else e.text.toList==[]
def noC (e:Ex):Bool:=if e.op=5 then true else e.col==0
def yd (e:Ex):Bool:=(((okF e&&noT e)&&noN e)&&noX e)&&noC e
theorem c_clean (e:Ex):ACall Tryz.prog 216 [aE e] [] (boo (yd e)) []:=by
 refine zn mixed ttok Tryz.func216 Tryz.ntmps216 Tryz.results216 ?_
 generalize hr:boo (yd e)=R
 have he:(ByteArray.mk #[]).toList=[]:=by simp [ByteArray.toList_eq]
 have he2:ByteArray.empty.toList=[]:=by simp [ByteArray.toList_eq]
 have hh:(([]:List UInt8)==[])=true:=rfl
 have h00:((0:Int)==0)=true:=rfl
 simp -implicitDefEqProofs only [argT,he,hh,h00,↓zb,push_cast,simprocAttr,tte]
 refine za (fun k1=>?_) fun k1=>?_
 ·have hk:e.op=1:=by simpa using k1
  have hM:yd e=((((((e.type==1 || e.type==2) || e.type==3)&&true)&&(e.num==0))&&(e.text.toList==[]))&&(e.col==0)):=by simp [yd,okF,noT,noN,noX,noC,hk]
  refine ze [[0]] [] (c_isType e.type) ?_
  simp -implicitDefEqProofs only [he,hh,h00,↓zb,push_cast,simprocAttr,tte]
  repeat' first | (refine za (fun _=>?_) fun _=>?_) | exact zi trivial (by rw [<-hr,hM];simp only [*,Bool.true_and,Bool.and_true,Bool.false_and,boo]) (by simp [ends])
 refine za (fun k2=>?_) fun k2=>?_
 ·have hk:e.op=2:=by simpa using k2
  have hM:yd e=((((zJ ⟨1,e.num,ByteArray.empty⟩&&(e.type==0))&&true)&&(e.text.toList==[]))&&(e.col==0)):=by simp [yd,okF,noT,noN,noX,noC,hk]
  refine ze [[0,0,0]] [] (um ⟨1,e.num,ByteArray.empty⟩) ?_
  simp -implicitDefEqProofs only [he,he2,hh,h00,↓zb,push_cast,simprocAttr,tte]
  repeat' first | (refine za (fun _=>?_) fun _=>?_) | exact zi trivial (by rw [<-hr,hM];simp only [*,Bool.true_and,Bool.and_true,Bool.false_and,boo]) (by simp [ends])
 refine za (fun k3=>?_) fun k3=>?_
 ·have hk:e.op=3:=by simpa using k3
  have hM:yd e=((((zJ ⟨2,e.num,ByteArray.empty⟩&&(e.type==0))&&true)&&(e.text.toList==[]))&&(e.col==0)):=by simp [yd,okF,noT,noN,noX,noC,hk]
  refine ze [[0,0,0]] [] (um ⟨2,e.num,ByteArray.empty⟩) ?_
  simp -implicitDefEqProofs only [he,he2,hh,h00,↓zb,push_cast,simprocAttr,tte]
  repeat' first | (refine za (fun _=>?_) fun _=>?_) | exact zi trivial (by rw [<-hr,hM];simp only [*,Bool.true_and,Bool.and_true,Bool.false_and,boo]) (by simp [ends])
 refine za (fun k4=>?_) fun k4=>?_
 ·have hk:e.op=4:=by simpa using k4
  have hM:yd e=((((zJ ⟨3,0,e.text⟩&&(e.type==0))&&(e.num==0))&&true)&&(e.col==0)):=by simp [yd,okF,noT,noN,noX,noC,hk]
  refine ze [[0,0,0]] [] (um ⟨3,0,e.text⟩) ?_
  simp -implicitDefEqProofs only [he,he2,hh,h00,↓zb,push_cast,simprocAttr,tte]
  repeat' first | (refine za (fun _=>?_) fun _=>?_) | exact zi trivial (by rw [<-hr,hM];simp only [*,Bool.true_and,Bool.and_true,Bool.false_and,boo]) (by simp [ends])
 refine za (fun k5=>?_) fun k5=>?_
 ·have hk:e.op=5:=by simpa using k5
  have hM:yd e=((((true&&(e.type==0))&&(e.num==0))&&(e.text.toList==[]))&&true):=by simp [yd,okF,noT,noN,noX,noC,hk]
  repeat' first | (refine za (fun _=>?_) fun _=>?_) | exact zi trivial (by rw [<-hr,hM];simp only [*,Bool.true_and,Bool.and_true,Bool.false_and,boo]) (by simp [ends])
 have hk1: ¬e.op=1:=by simpa using k1
 have hk2: ¬e.op=2:=by simpa using k2
 have hk3: ¬e.op=3:=by simpa using k3
 have hk4: ¬e.op=4:=by simpa using k4
 have hk5: ¬e.op=5:=by simpa using k5
 have hM:yd e=((((true&&(e.type==0))&&(e.num==0))&&(e.text.toList==[]))&&(e.col==0)):=by simp [yd,okF,noT,noN,noX,noC,hk1,hk2,hk3,hk4,hk5]
 repeat' first | (refine za (fun _=>?_) fun _=>?_) | exact zi trivial (by rw [<-hr,hM];simp only [*,Bool.true_and,Bool.and_true,Bool.false_and,boo]) (by simp [ends])
end
end Go.Proofs.YtnmibokjpedkiaaGreatDoor
