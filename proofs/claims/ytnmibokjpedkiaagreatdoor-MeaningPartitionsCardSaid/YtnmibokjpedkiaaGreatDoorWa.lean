/- Made queries answer as specified (part Wa) -/
import Derived.Test.YtnmibokjpedkiaaGreatDoorW0
import Derived.Shelf.Strings.Search3
set_option maxRecDepth 100000
set_option maxHeartbeats 4000000
set_option linter.all false
namespace Go.Proofs.YtnmibokjpedkiaaGreatDoor
open Go.Am
section
open Go.Proofs Go.Shelf
def Tryz.lays144_ren:Go.Shelf.Ren:=⟨fun | 144=>145 | 143=>185 | 219=>214 | 217=>230 | 225=>231 | 224=>232 | 267=>233 | 266=>251 | 314=>252 | n=>n,fun | 9=>9 | 4=>4 | 3=>3 | 5=>5 | 46=>232 | 146=>252 | 51=>248 | n=>n,fun | 1=>3 | n=>n⟩
theorem Tryz.lays144:Go.Proofs.Lays.n144 Tryz.prog Tryz.lays144_ren:={
 mixed:=Zg
 f143:=Tryz.func185.trans (congrArg some Zg)
 f144:=Tryz.func145.trans (congrArg some Zg)
 f217:=Tryz.func230.trans (congrArg some Zg)
 f219:=Tryz.func214.trans (congrArg some Zg)
 f224:=Tryz.func232.trans (congrArg some Zg)
 f225:=Tryz.func231.trans (congrArg some Zg)
 f266:=Tryz.func251.trans (congrArg some Zg)
 f267:=Tryz.func233.trans (congrArg some Zg)
 f314:=Tryz.func252.trans (congrArg some Zg)
 t3:=Tryz.underlying3
 a3:=Tryz.isAgg3
 z3:=Tryz.sizeOf3
 v3:=Tryz.zeroValue3
 t4:=Tryz.underlying4
 a4:=Tryz.isAgg4
 z4:=Tryz.sizeOf4
 v4:=Tryz.zeroValue4
 t5:=Tryz.underlying5
 a5:=Tryz.isAgg5
 z5:=Tryz.sizeOf5
 v5:=Tryz.zeroValue5
 t9:=Tryz.underlying9
 a9:=Tryz.isAgg9
 z9:=Tryz.sizeOf9
 v9:=Tryz.zeroValue9
 t46:=Tryz.underlying232
 a46:=Tryz.isAgg232
 z46:=Tryz.sizeOf232
 v46:=Tryz.zeroValue232
 t51:=Tryz.underlying248
 a51:=Tryz.isAgg248
 z51:=Tryz.sizeOf248
 v51:=Tryz.zeroValue248
 t146:=Tryz.underlying252
 a146:=Tryz.isAgg252
 z146:=Tryz.sizeOf252
 v146:=Tryz.zeroValue252
 g1:=Zg}
open Go.RowKit Go.Lib in
theorem Tryz.strings_Contains (s sub:ByteArray) (m:Int) (w:World) (hs:s.size<4294967281) (hm:w.cell? ⟨3,0,none⟩=some (.int .i64 m)):
 Calls Tryz.prog 145 #[.string s,.string sub] w fun e w'=>e= .returned (.bool (Lib.contains s.data.toList sub.data.toList))/\w'=w:=Any.strings_Contains Tryz.lays144 s sub m w hs hm
end
section
attribute [local simp, local push_cast] num boo str ints aV aTab z8 aS
theorem c_contains (s sub:ByteArray) (hs:s.size<4294967281):ACall Tryz.prog 145 [str s,str sub] [] (boo (Lib.contains s.data.toList sub.data.toList)) []:=
 ACall.of_still Tryz.func145 rfl rfl fun w vs E hr hg=>by
  simp only [repL,str,A.rep,D.rep] at hr;obtain ⟨_,_,rfl,⟨rfl,_⟩,_,_,rfl,⟨rfl,_⟩,rfl⟩:=hr;obtain ⟨m,hm⟩:=hg 3 (by simp [Tab.ints,tabs]);exact (Tryz.strings_Contains s sub m w hs hm).mono fun e w' h=>⟨_,h.1,by simp [D.rep,one],h.2⟩
def letM (c:Int):Bool:=decide (c≥97)&&decide (c<=122)
theorem c_letter (c:Int):ACall Tryz.prog 144 [.d (.lit (.int .u8 c))] [] (boo (letM c)) []:=by
 refine zn mixed ttok Tryz.func144 Tryz.ntmps144 Tryz.results144 ?_;generalize hr:boo (letM c)=R;refine Zn ?_;refine za (fun h=>?_) fun h=>?_
 ·exact zm trivial (by rw [<-hr,letM,h,Yo];rfl) Zb
 ·exact zm trivial (by rw [<-hr,letM,h,Yl];rfl) Zb
def resv:ByteArray:=⟨#[32,115,101,108,101,99,116,32,100,105,115,116,105,110,99,116,32,97,108,108,32,102,114,111,109,32,119,104,101,114,101,32,103,114,111,117,112,32,98,121,32,104,97,118,105,110,103,32,97,115,32,111,110,32,117,110,105,111,110,32,101,120,99,101,112,116,32,105,110,116,101,114,115,101,99,116,32,106,111,105,110,32,105,110,110,101,114,32,108,101,102,116,32,114,105,103,104,116,32,102,117,108,108,32,99,114,111,115,115,32,115,101,109,105,32,97,110,116,105,32,97,110,100,32,111,114,32,110,111,116,32,105,115,32,110,117,108,108,32,116,114,117,101,32,102,97,108,115,101,32,105,110,32,99,97,115,101,32,119,104,101,110,32,116,104,101,110,32,101,108,115,101,32,101,110,100,32,118,97,108,117,101,115,32,116,97,98,108,101,32,112,114,105,109,97,114,121,32,117,110,105,113,117,101,32,102,111,114,101,105,103,110,32,114,101,102,101,114,101,110,99,101,115,32,99,104,101,99,107,32,105,110,116,32,98,111,111,108,32,116,101,120,116,32,99,111,117,110,116,32,115,117,109,32,109,105,110,32,109,97,120,32,99,111,97,108,101,115,99,101,32,108,101,110,103,116,104,32,115,97,109,101,32,109,111,100,32]⟩
def words:List ByteArray:=[⟨#[115,101,108,101,99,116]⟩,⟨#[100,105,115,116,105,110,99,116]⟩,⟨#[97,108,108]⟩,⟨#[102,114,111,109]⟩,⟨#[119,104,101,114,101]⟩,⟨#[103,114,111,117,112]⟩,⟨#[98,121]⟩,⟨#[104,97,118,105,110,103]⟩,⟨#[97,115]⟩,⟨#[111,110]⟩,⟨#[117,110,105,111,110]⟩,⟨#[101,120,99,101,112,116]⟩,⟨#[105,110,116,101,114,115,101,99,116]⟩,⟨#[106,111,105,110]⟩,⟨#[105,110,110,101,114]⟩,⟨#[108,101,102,116]⟩,⟨#[114,105,103,104,116]⟩,⟨#[102,117,108,108]⟩,⟨#[99,114,111,115,115]⟩,⟨#[115,101,109,105]⟩,⟨#[97,110,116,105]⟩,⟨#[97,110,100]⟩,⟨#[111,114]⟩,⟨#[110,111,116]⟩,⟨#[105,115]⟩,⟨#[110,117,108,108]⟩,⟨#[116,114,117,101]⟩,⟨#[102,97,108,115,101]⟩,⟨#[105,110]⟩,⟨#[99,97,115,101]⟩,⟨#[119,104,101,110]⟩,⟨#[116,104,101,110]⟩,⟨#[101,108,115,101]⟩,⟨#[101,110,100]⟩,⟨#[118,97,108,117,101,115]⟩,⟨#[116,97,98,108,101]⟩,⟨#[112,114,105,109,97,114,121]⟩,⟨#[117,110,105,113,117,101]⟩,⟨#[102,111,114,101,105,103,110]⟩,⟨#[114,101,102,101,114,101,110,99,101,115]⟩,⟨#[99,104,101,99,107]⟩,⟨#[105,110,116]⟩,⟨#[98,111,111,108]⟩,⟨#[116,101,120,116]⟩,⟨#[99,111,117,110,116]⟩,⟨#[115,117,109]⟩,⟨#[109,105,110]⟩,⟨#[109,97,120]⟩,⟨#[99,111,97,108,101,115,99,101]⟩,⟨#[108,101,110,103,116,104]⟩,⟨#[115,97,109,101]⟩,⟨#[109,111,100]⟩]
def badM (c:Int):Bool:=(!letM c&&(decide (c<48) || decide (c>57)))&&(c !=95)
def u4 (s:ByteArray):List Int:=s.data.toList.map fun u=>(u.toNat:Int)
def hasW (s:ByteArray):Bool:=Lib.contains resv.data.toList (⟨#[32]⟩++s++⟨#[32]⟩:ByteArray).data.toList
def jq (s:ByteArray):Bool:=((!(s.toList==[] || decide (s.size>16))&&letM ((s.data[0]?.getD 0).toNat:Nat))&& !hasW s)&&(u4 s).all fun c=> !badM c
theorem uN (s:ByteArray):(u4 s).length=s.size:=by show (List.map _ _).length=s.data.size;rw [Y2,Uf]
theorem bytesI_getD (s:ByteArray) (n:Nat) (h:n<s.size):(u4 s).getD n default=((s.data.getD n 0).toNat:Nat):=by
 have h':n<s.data.size:=h;simp only [u4,Yf,List.getElem?_map,Array.getElem?_toList];rw [YP,Array.getElem?_eq_getElem h'];rfl
theorem resv_size:resv.size=287:=rfl
theorem Ze {p P0:Prop} (zf_:P0) (h:P0->p:=by intro zf_;simp [zf_,ends]):p:=h zf_
theorem Zh {p:Prop} (h:p:=by simp [cst,ends]):p:=h
theorem Zo {p P0 P1:Prop} (zf_:P0) (zg_:P1) (h:P0->P1->p:=by intro zf_ zg_;rw [<-zf_,zg_];rfl):p:=h zf_ zg_
theorem ZQ {p q P0:Prop} (zf_:P0) (h:q) (e:P0->p=q:=by intro zf_;conv=>lhs;simp -implicitDefEqProofs only [argT,zf_,↓zb,push_cast,simprocAttr,tt]):p:=(e zf_).mpr h
theorem ZZ {p:Prop} (h:p:=by simp [YM]):p:=h
theorem MI{p:Prop}(h:p:=by
 exact zm trivial (Zo hr this) Zb):p:=h
theorem Gd{p:Prop}(h:p:=by
 exact zp hI n rfl k' (good (by rw [badM,g3,YI])) (Ze hw) (Ze hw) (Ze hw) (Ze hw)):p:=h
theorem c_name (s:ByteArray):ACall Tryz.prog 83 [str s] [] (boo (jq s)) []:=by
 obtain ⟨b,hb⟩: ∃b,hasW s=b:=⟨_,rfl⟩
 have hc:ACall Tryz.prog 145 [str resv,str (⟨#[32]⟩++s++⟨#[32]⟩)] [] (boo b) []:=by rw [<-hb];exact c_contains _ _ (by rw [resv_size];omega)
 refine zn mixed ttok Tryz.func83 Tryz.ntmps83 Tryz.results83 ?_;generalize hr:boo (jq s)=R;have hM:jq s=(((!(s.toList==[] || decide (s.size>16))&&letM ((s.data[0]?.getD 0).toNat:Nat))&& !b)&&(u4 s).all fun c=> !badM c):=by rw [jq,hb]
 have he:(ByteArray.mk #[]).toList=[]:=ZZ;refine ZQ he ?_;refine za (fun h1=>?_) fun h1=>?_
 ·have:jq s=false:=by rw [hM,h1];rfl
  exact MI
 refine za (fun h2=>?_) fun h2=>?_
 ·have:jq s=false:=by simp only [Yg] at h2;rw [hM,YV (by omega:s.size>16),Y4];rfl
  exact MI
 have hne:s.size≠0:=by
  intro h0;have:s=⟨#[]⟩:=by
   apply ByteArray.ext;exact Array.eq_empty_of_size_eq_zero h0
  rw [this] at h1;simp [he] at h1
 simp only [Ye] at h2;refine ⟨Za,?_⟩;refine zg [[0]] [] (c_letter ((s.data[0]?.getD 0).toNat:Nat)) ?_;refine Zf ?_;refine za (fun h3=>?_) fun h3=>?_
 ·have:jq s=false:=by simp only [UD] at h3;rw [hM,h3];simp
  exact MI
 simp only [UA] at h3;have hsz:(⟨#[32]⟩++s:ByteArray).size=s.size+1:=by simp [ByteArray.size_append];rw [Nat.add_comm];rfl
 refine ⟨by show ((1+s.size:Nat):Int)<=_;omega,by rw [hsz];show ((s.size+1+1:Nat):Int)<=_;omega,?_⟩
 change qO _ _ _ _ _ [A.d (.lit (.string resv)),_] _ _ _ _ _
 generalize resv=rv at hc ⊢;refine zg [[0],[0]] [] (hc) ?_;refine Zf ?_;refine za (fun h4=>?_) fun h4=>?_
 ·have:jq s=false:=by rw [hM,h4];simp
  exact MI
 have hM2:jq s=(u4 s).all fun c=> !badM c:=by rw [hM,h1,h3,h4,YS (by omega)];rfl
 refine zq mixed ttok 26 [0,25] [] Zv Zw s.size (fun n=>((u4 s).drop n).all (fun c=> !badM c)=(u4 s).all fun c=> !badM c) (fun _=>[]) (fun _=>[]) rfl ?_ ?_
 ·exact Ya Zh Zh Zh
 intro I hI n hn hi;refine Zx ?_;refine za (fun k=>?_) fun k=>?_
 ·simp only [Yg] at k;have k':n<s.size:=Za;have hw:=zh k' Za;rw [zA _ n (by rw [uN];exact k'),List.all_cons,bytesI_getD s n k'] at hi;refine ⟨Za,?_⟩;generalize hcc:(((s.data.getD n 0).toNat:Nat):Int)=c at hi ⊢;have bad:badM c=true->jq s=false:=fun h=>by rw [hM2,<-hi,h];rfl
  have good:badM c=false->((u4 s).drop (n+1)).all (fun c=> !badM c)=(u4 s).all fun c=> !badM c:=fun h=>Zo hi h;refine zg [[0]] [] (c_letter c) ?_
  simp -implicitDefEqProofs only [↓zb,push_cast,simprocAttr,tt]
  refine za (fun g1=>?_) fun g1=>?_
  ·refine za (fun g2=>?_) fun g2=>?_
   ·refine za (fun g3=>?_) fun g3=>?_
    ·exact zm trivial (by rw [<-hr,bad (by rw [badM,g1,g2,g3];rfl)];rfl) Zb
    ·exact Gd
   ·refine za (fun g4=>?_) fun g4=>?_
    ·refine za (fun g3=>?_) fun g3=>?_
     ·exact zm trivial (by rw [<-hr,bad (by rw [badM,g1,g2,g3,g4];rfl)];rfl) Zb
     ·exact Gd
    ·exact zp hI n rfl k' (good (by rw [badM,g1,g2,g4];rfl)) (Ze hw) (Ze hw) (Ze hw) (Ze hw)
  ·exact zp hI n rfl k' (good (by rw [badM,g1];rfl)) (Ze hw) (Ze hw) (Ze hw) (Ze hw)
 ·simp only [Ye] at k;obtain rfl:n=s.size:=Za;have:jq s=true:=by rw [hM2,<-hi,YG (by rw [uN];omega)];rfl
  exact MI
def aT (t:Tbl):A:= .agg [.d (.lit (.string t.name)),.d (.sl 3 (zd rC t.columns)),.d (.sl 1 (zd rI t.primary)),.d (.sl 1 (zd rIs t.uniques)),.d (.sl 2 (zd rF t.foreigns)),.d (.sl 6 (zd rE t.checks))]
def aC (c:Col):A:= .agg [.d (.lit (.string c.name)),.d (.lit (.int .i64 c.type)),.d (.lit (.bool c.nullable))]
attribute [local simp, local push_cast] aT aC
theorem NA{p:Prop}(h:p:=by
 refine zv [0] rfl Zd Zj ?_ Zk Zb Zb;exact hr):p:=h
theorem c_find1 (t:Tbl) (name:ByteArray):ACall Tryz.prog 107 [aT t,.ptr 1000 0] [(1000,.var [str name])] (boo (t.name.toList==name.toList)) [(1000,.var [str name])]:=by
 refine zn mixed ttok Tryz.func107 Tryz.ntmps107 Tryz.results107 ?_;generalize hr:boo (t.name.toList==name.toList)=R;refine Zn ?_;exact NA
theorem Mt{p:Prop}(h:p:=by
 refine za (fun g=>?_) fun g=>?_
 ·refine zv [0] rfl Zd Zj ?_ Zk Zb Zb;rw [<-hr,vC _ l n h' hi g];rfl
 ·exact zp hI n rfl h' (fun i h2=>if h3:i=n then by rw [h3];exact g else hi i Za) (Ze hw) (Ze hw) (Ze hw) (Ze hw)):p:=h
theorem Nk{p:Prop}(h:p:=by
 simp only [Ye] at h;obtain rfl:n=l.length:=Za;refine zv [0] rfl Zd Zj ?_ Zk Zb Zb;rw [<-hr,xE _ l hi];rfl):p:=h
theorem GB{p:Prop}(h:p:=by
 simp -implicitDefEqProofs only [↓zb,push_cast,simprocAttr,tt];exact Mt):p:=h
theorem c_idxT (l:List Tbl) (name:ByteArray) (hl:l.length<=1000000000):
 ACall Tryz.prog 106 [.d (.sl 6 (zd rT l)),.clo 107 [.ptr 1000 0]] [(1000,.var [str name])] (num (fidx (fun t=>t.name.toList==name.toList) l)) [(1000,.var [str name])]:=by
 refine zn mixed ttok Tryz.func106 Tryz.ntmps106 Tryz.results106 ?_;generalize hr:num (fidx (fun t=>t.name.toList==name.toList) l)=R;refine Zn ?_;refine zq mixed ttok 8 [0,1,6,7] [1000] Zv Zw l.length (fun n=> ∀i,i<n->((l.getD i default).name.toList==name.toList)=false) (fun _=>[]) (fun _=>[]) (fun i h=>absurd h (Yu _)) ?_ ?_
 ·exact Ya Zh Zh Zh
 intro I hI n hn hi;refine Zx ?_;refine za (fun h=>?_) fun h=>?_
 ·simp only [Yg] at h;have h':n<l.length:=Za;have hw:=zh h' Za;refine ⟨Zs,?_⟩;refine zg [[0,3,1,1,2,6],[]] [(1000,1000)] (c_find1 (l.getD n default) name) ?_;exact GB
 ·exact Nk
theorem c_col1 (t:Col) (name:ByteArray):ACall Tryz.prog 187 [aC t,.ptr 1000 0] [(1000,.var [str name])] (boo (t.name.toList==name.toList)) [(1000,.var [str name])]:=by
 refine zn mixed ttok Tryz.func187 Tryz.ntmps187 Tryz.results187 ?_;generalize hr:boo (t.name.toList==name.toList)=R;refine Zn ?_;exact NA
theorem c_idxC (l:List Col) (name:ByteArray) (hl:l.length<=1000000000):
 ACall Tryz.prog 186 [.d (.sl 3 (zd rC l)),.clo 187 [.ptr 1000 0]] [(1000,.var [str name])] (num (fidx (fun t=>t.name.toList==name.toList) l)) [(1000,.var [str name])]:=by
 refine zn mixed ttok Tryz.func186 Tryz.ntmps186 Tryz.results186 ?_;generalize hr:num (fidx (fun t=>t.name.toList==name.toList) l)=R;refine Zn ?_;refine zq mixed ttok 8 [0,1,6,7] [1000] Zv Zw l.length (fun n=> ∀i,i<n->((l.getD i default).name.toList==name.toList)=false) (fun _=>[]) (fun _=>[]) (fun i h=>absurd h (Yu _)) ?_ ?_
 ·exact Ya Zh Zh Zh
 intro I hI n hn hi;refine Zx ?_;refine za (fun h=>?_) fun h=>?_
 ·simp only [Yg] at h;have h':n<l.length:=Za;have hw:=zh h' Za;refine ⟨Zs,?_⟩;refine zg [[0,0,0],[]] [(1000,1000)] (c_col1 (l.getD n default) name) ?_;exact GB
 ·exact Nk
def byT (l:List Tbl) (name:ByteArray):Int:=fidx (fun t=>t.name.toList==name.toList) l
def byC (l:List Col) (name:ByteArray):Int:=fidx (fun t=>t.name.toList==name.toList) l
def yj (k:Int):A:= .tup [num (if 0>k then 0 else k),boo (decide (k≥0))]
theorem c_find (s:Sch) (name:ByteArray) (hl:s.length<=1000000000):ACall Tryz.prog 59 [aS s,str name] [] (yj (byT s name)) []:=by
 refine zn mixed ttok Tryz.func59 Tryz.ntmps59 Tryz.results59 ?_;generalize hr:yj (byT s name)=R;refine Zn ?_;refine zg [[6],[]] [(1000,3)] (c_idxT s name hl) ?_;refine Zf ?_;exact zP trivial (by rw [<-hr,yj,byT];rfl) Zb
theorem c_column (t:Tbl) (name:ByteArray) (hl:t.columns.length<=1000000000):ACall Tryz.prog 146 [aT t,str name] [] (yj (byC t.columns name)) []:=by
 refine zn mixed ttok Tryz.func146 Tryz.ntmps146 Tryz.results146 ?_;generalize hr:yj (byC t.columns name)=R;refine Zn ?_;refine zg [[3],[]] [(1000,3)] (c_idxC t.columns name hl) ?_;refine Zf ?_;exact zP trivial (by rw [<-hr,yj,byC];rfl) Zb
theorem Mu{p:Prop}(h:p:=by
 exact zp hI n rfl h' (fun i h2=>if h3:i=n then by rw [h3];exact g else hi i Za) (Ze hw) (Ze hw) (Ze hw) (Ze hw)):p:=h
theorem Gr{p:Prop}(h:p:=by
 exact zP trivial (by rw [<-hr,hk,yj,if_neg (by omega),YV (by omega)];rfl) Zb):p:=h
theorem c_rfind (l:Sch) (name:ByteArray) (hl:l.length<=1000000000):ACall Tryz.prog 25 [aS l,str name] [] (yj (byT l name)) []:=by
 refine zn mixed ttok Tryz.func25 Tryz.ntmps25 Tryz.results25 ?_;generalize hr:yj (byT l name)=R;refine Zn ?_;refine zq mixed ttok 6 [1,2] [2] Zv Zw l.length (fun n=> ∀i,i<n->((l.getD i default).name.toList==name.toList)=false) (fun _=>[]) (fun _=>[]) (fun i h=>absurd h (Yu _)) ?_ ?_
 ·exact Ya Zh Zh Zh
 intro I hI n hn hi;refine Zx ?_;refine za (fun h=>?_) fun h=>?_
 ·simp only [Yg] at h;have h':n<l.length:=Za;have hw:=zh h' Za;refine ⟨Zs,?_⟩
  refine za (fun g=>?_) fun g=>?_
  ·have hk:byT l name=n:=vC _ l n h' hi g;exact Gr
  ·exact Mu
 ·simp only [Ye] at h;obtain rfl:n=l.length:=Za;have hk:byT l name= -1:=xE _ l hi;exact zP trivial (Zo hr hk) Zb
theorem c_rcolumn (t:Tbl) (name:ByteArray) (hl:t.columns.length<=1000000000):ACall Tryz.prog 156 [aT t,str name] [] (yj (byC t.columns name)) []:=by
 refine zn mixed ttok Tryz.func156 Tryz.ntmps156 Tryz.results156 ?_;generalize hr:yj (byC t.columns name)=R;generalize hcl:t.columns=l at hl hr;refine ZQ hcl ?_;refine zq mixed ttok 6 [1,2] [2] Zv Zw l.length (fun n=> ∀i,i<n->((l.getD i default).name.toList==name.toList)=false) (fun _=>[]) (fun _=>[]) (fun i h=>absurd h (Yu _)) ?_ ?_
 ·exact Ya Zh Zh Zh
 intro I hI n hn hi;refine Zx ?_;refine za (fun h=>?_) fun h=>?_
 ·simp only [Yg] at h;have h':n<l.length:=Za;have hw:=zh h' Za;refine ⟨Zs,?_⟩
  refine za (fun g=>?_) fun g=>?_
  ·have hk:byC l name=n:=vC _ l n h' hi g;exact Gr
  ·exact Mu
 ·simp only [Ye] at h;obtain rfl:n=l.length:=Za;have hk:byC l name= -1:=xE _ l hi;exact zP trivial (Zo hr hk) Zb
def yd (t:Tbl):List Int:=t.columns.map (·.type)
theorem M3{p:Prop}(h:p:=by
 intro I hI n hn hi;have hl2:((t.columns.take n).map (·.type)).length=n:=Zt;refine Zx ?_;refine za (fun h=>?_) fun h=>?_
 ·simp only [Yg] at h;have h':n<t.columns.length:=Za;have hw:=zh h' Za;have ht:(t.columns.take (n+1)).map (·.type)=(t.columns.take n).map (·.type)++[(t.columns.getD n default).type]:=by rw [zy _ _ h',YE];rfl
  refine ⟨Zs,⟨hl2.symm,Z2 hl2⟩,?_⟩;exact zp hI n rfl h' trivial (by simp [hw,ht,hl2,zf,Yt hn,ends]) (by simp [hw,ht,hl2,zf,Yt hn,ends]) (by simp [hw,ht,hl2,zf,Yt hn,ends]) (by simp [hw,ht,hl2,zf,Yt hn,ends])
 ·simp only [Ye] at h;obtain rfl:n=t.columns.length:=Za;refine zv [1] rfl Zd Zj ?_ Zk Zb Zb;rw [<-hr,yd,Yk];rfl):p:=h
theorem vr (t:Tbl) (hl:t.columns.length<=1000000000):ACall Tryz.prog 22 [aT t] [] (ints (yd t)) []:=by
 refine zn mixed ttok Tryz.func22 Tryz.ntmps22 Tryz.results22 ?_;generalize hr:ints (yd t)=R;refine Zn ?_;refine zq mixed ttok 4 [1] [1] Zv Zw t.columns.length (fun _=>True) (fun n=>[(3,.vec 500 n)]) (fun n=>[(500,.vec 3 1 (zd rI ((t.columns.take n).map (·.type))) 0)]) trivial ?_ ?_
 ·exact (YU 3 500 3 1 rfl rfl).trans (Ya Zh Zh Zh)
 exact M3
end
section
attribute [local simp, local push_cast] num boo str ints aV aTab z8 aS aT aC
theorem c_types (t:Tbl) (hl:t.columns.length<=1000000000):ACall Tryz.prog 98 [aT t] [] (ints (yd t)) []:=by
 refine zn mixed ttok Tryz.func98 Tryz.ntmps98 Tryz.results98 ?_;generalize hr:ints (yd t)=R;refine Zn ?_;refine zq mixed ttok 9 [7,8] [] Zv Zw t.columns.length (fun _=>True) (fun n=>[(3,.vec 500 n)]) (fun n=>[(500,.vec 3 1 (zd rI ((t.columns.take n).map (·.type))) 0)]) trivial ?_ ?_
 ·exact (YU 3 500 3 1 rfl rfl).trans (Ya Zh Zh Zh)
 exact M3
theorem c_indexI (l:List Int) (v:Int) (hl:l.length<=1000000000):ACall Tryz.prog 234 [ints l,num v] [] (num (fidx (fun x=>v==x) l)) []:=by
 refine zn mixed ttok Tryz.func234 Tryz.ntmps234 Tryz.results234 ?_;generalize hr:num (fidx (fun x=>v==x) l)=R;refine Zn ?_;refine zq mixed ttok 8 [0,1,6,7] [] Zv Zw l.length (fun n=> ∀i,i<n->(v==l.getD i default)=false) (fun _=>[]) (fun _=>[]) (fun i h=>absurd h (Yu _)) ?_ ?_
 ·exact Ya Zh Zh Zh
 intro I hI n hn hi;refine Zx ?_;refine za (fun h=>?_) fun h=>?_
 ·simp only [Yg] at h;have h':n<l.length:=Za;have hw:=zh h' Za;refine ⟨Zs,?_⟩
  refine za (fun g=>?_) fun g=>?_
  ·exact zm trivial (Zo hr (vC _ l n h' hi g)) Zb
  ·exact Mu
 ·simp only [Ye] at h;obtain rfl:n=l.length:=Za;exact zm trivial (Zo hr (xE _ l hi)) Zb
theorem has_fidx (l:List Int) (v:Int):decide (fidx (fun x=>v==x) l≥0)=l.contains v:=by
 have h:=qe (fun x=>v==x) l;rw [List.contains_eq_any_beq];cases ha:l.any (fun x=>v==x) with
 | false=>rw [ha] at h;simp at h;simp;omega
 | true=>rw [ha] at h;simp at h;simp;omega
theorem c_containsI (l:List Int) (v:Int) (hl:l.length<=1000000000):ACall Tryz.prog 215 [ints l,num v] [] (boo (l.contains v)) []:=by
 refine zn mixed ttok Tryz.func215 Tryz.ntmps215 Tryz.results215 ?_;generalize hr:boo (l.contains v)=R;refine Zn ?_;refine zg [[1],[0]] [] (c_indexI l v hl) ?_;refine Zf ?_;exact zm trivial (by rw [<-hr,<-has_fidx];rfl) Zb
def okAt (c:Nat) (l:List Int) (i:Nat):Bool:=(decide (0<=l.getD i default)&&decide (l.getD i default<c))&& !(l.take i).contains (l.getD i default)
def xi (c:Nat) (l:List Int):Bool:=(List.range l.length).all (okAt c l)&& !l.isEmpty
theorem all_range {p:Nat->Bool} {N:Nat}:(List.range N).all p=true ↔ ∀i,i<N->p i=true:=by simp [Ua]
theorem wT {p:Nat->Bool} {N n:Nat} (h:n<N) (hp:p n=false):(List.range N).all p=false:=by
 cases hq:(List.range N).all p with
 | false=>rfl
 | true=>rw [all_range.1 hq n h] at hp;cases hp
theorem c_key (t:Tbl) (l:List Int) (hl:l.length≤1000000000):ACall Tryz.prog 188 [aT t,ints l] [] (num (if xi t.columns.length l then 0 else 6)) []:=by
 refine zn mixed ttok Tryz.func188 Tryz.ntmps188 Tryz.results188 ?_;generalize hr:num (if xi t.columns.length l then 0 else 6)=R;refine Zn ?_;refine zq mixed ttok 9 [1,2,7,8] [2] Zv Zw l.length (fun n=> ∀i,i<n->okAt t.columns.length l i=true) (fun _=>[]) (fun _=>[]) (fun i h=>absurd h (Yu _)) ?_ ?_
 ·exact Ya Zh Zh Zh
 intro I hI n hn hi;have bad:n<l.length->okAt t.columns.length l n=false->xi t.columns.length l=false:=fun h1 h2=>by rw [xi,wT h1 h2];rfl
 refine Zx ?_;refine za (fun h=>?_) fun h=>?_
 ·simp only [Yg] at h;have h':n<l.length:=Za;have hw:=zh h' Za;have bad:=bad h';refine ⟨Zs,?_⟩;refine za (fun g1=>?_) fun g1=>?_
  ·have:=bad (by simp only [Yg] at g1;rw [okAt,YS (by omega)];rfl);exact MI
  refine za (fun g2=>?_) fun g2=>?_
  ·have:=bad (by simp only [Yg] at g2;rw [okAt,YS (by omega: ¬l.getD n default<t.columns.length),YI];rfl);exact MI
  simp only [Ye] at g1 g2;refine ⟨Zs,?_⟩;refine zg [[1],[0]] [] (c_containsI (l.take n) (l.getD n default) Zt) ?_
  simp -implicitDefEqProofs only [↓zb,push_cast,simprocAttr,tt]
  refine za (fun g3=>?_) fun g3=>?_
  ·have:=bad (by rw [okAt,g3,Uk,YI]);exact MI
  ·exact zp hI n rfl h' (fun i h2=>if h3:i=n then by rw [h3,okAt,g3,YV Za,YV Za];rfl else hi i Za) (Ze hw) (Ze hw) (Ze hw) (Ze hw)
 ·simp only [Ye] at h;obtain rfl:n=l.length:=Za
  refine za (fun g=>?_) fun g=>?_
  ·have:xi t.columns.length l=false:=by
    have:l=[]:=Zc g;rw [this];rfl
   exact MI
  ·have:xi t.columns.length l=true:=by
    rw [xi,all_range.2 hi];cases l with
    | nil=>simp at g
    | cons _ _=>rfl
   exact MI
theorem Wr {p q:Prop} (h:q) (e:p=q:=by conv=>lhs;simp -implicitDefEqProofs only [argT,z6,List.isEmpty_cons,↓zb,push_cast,simprocAttr,tt]):p:=(e).mpr h
theorem c_clone (l:List (List Int)) (hl:l.length<=1000000):ACall Tryz.prog 190 [.d (.sl 1 (zd rIs l))] [] (.vec 1000 l.length) [(1000,.vec 22 1 (zd rIs l) 0)]:=by
 refine zn mixed ttok Tryz.func190 Tryz.ntmps190 Tryz.results190 ?_;cases l with
 | nil=>
   simp -implicitDefEqProofs only [argT,zC,List.isEmpty_nil,if_true,↓zb,push_cast,simprocAttr,tt]
   exact ⟨ret_nil 22 1 trivial trivial,ret_vec 5 trivial (by omega) rfl rfl ⟨.inl rfl,.inl rfl,trivial⟩⟩
 | cons x l=>
   simp only [Y5] at hl;refine Wr ?_;exact ⟨Za,ret_vec 5 trivial Za rfl rfl ⟨.inl rfl,.inl rfl,trivial⟩⟩
def vT (t:Tbl):Ob:= .var [.d (.lit (.string t.name)),.d (.sl 3 (zd rC t.columns)),.d (.sl 1 (zd rI t.primary)),.d (.sl 1 (zd rIs t.uniques)),.d (.sl 2 (zd rF t.foreigns)),.d (.sl 6 (zd rE t.checks))]
def jf (t:Tbl) (k:Int):Bool:=(t.columns.getD k.toNat default).nullable
def inC (t:Tbl) (k:Int):Prop:=0<=k/\k<t.columns.length
theorem XP {p q:Prop} (h:q) (e:p=q:=by conv=>lhs;simp -implicitDefEqProofs only [argT,vT,↓zb,push_cast,simprocAttr,tt]):p:=(e).mpr h
theorem c_keys1 (t:Tbl) (k:Int) (hk:inC t k):ACall Tryz.prog 189 [num k,.ptr 1000 0] [(1000,vT t)] (boo (jf t k)) [(1000,vT t)]:=by
 refine zn mixed ttok Tryz.func189 Tryz.ntmps189 Tryz.results189 ?_;generalize hr:boo (jf t k)=R;obtain ⟨h1,h2⟩:=hk;refine XP ?_;refine ⟨Zs,?_⟩;exact NA
theorem c_idxK (l:List Int) (t:Tbl) (hl:l.length<=1000000000) (hk: ∀k∈l,inC t k):
 ACall Tryz.prog 197 [ints l,.clo 189 [.ptr 1000 0]] [(1000,vT t)] (num (fidx (jf t) l)) [(1000,vT t)]:=by
 refine zn mixed ttok Tryz.func197 Tryz.ntmps197 Tryz.results197 ?_;generalize hr:num (fidx (jf t) l)=R;refine XP ?_;refine zq mixed ttok 8 [0,1,6,7] [1000] Zv Zw l.length (fun n=> ∀i,i<n->jf t (l.getD i default)=false) (fun _=>[]) (fun _=>[]) (fun i h=>absurd h (Yu _)) ?_ ?_
 ·exact Ya Zh Zh Zh
 intro I hI n hn hi;refine Zx ?_;refine za (fun h=>?_) fun h=>?_
 ·simp only [Yg] at h;have h':n<l.length:=Za;have hw:=zh h' Za;refine ⟨Zs,?_⟩;have hc:=c_keys1 t (l.getD n default) (hk _ (zk h'));unfold vT at hc;refine zg [[0],[]] [(1000,1000)] (hc) ?_;exact GB
 ·exact Nk
theorem any_fidx {α:Type} (p:α->Bool) (l:List α):decide (fidx p l≥0)=l.any p:=by
 have h:=qe p l;cases ha:l.any p with
 | false=>rw [ha] at h;simp only [iff_true] at h;exact YS Za
 | true=>rw [ha] at h;simp only [Bool.true_eq_false,iff_false] at h;exact YV Za
theorem J3{p:Prop}(h:p:=by
 refine Zf ?_;refine zv [0] rfl Zd Zj ?_ Zk Zb Zb;rw [<-hr,<-any_fidx];rfl):p:=h
theorem c_containsK (l:List Int) (t:Tbl) (hl:l.length<=1000000000) (hk: ∀k∈l,inC t k):
 ACall Tryz.prog 160 [ints l,.clo 189 [.ptr 1000 0]] [(1000,vT t)] (boo (l.any (jf t))) [(1000,vT t)]:=by
 refine zn mixed ttok Tryz.func160 Tryz.ntmps160 Tryz.results160 ?_;generalize hr:boo (l.any (jf t))=R;refine XP ?_;have hc:=c_idxK l t hl hk;unfold vT at hc;refine zg [[1],[]] [(1000,1000)] (hc) ?_;exact J3
structure SmallT (t:Tbl):Prop where
 cols:t.columns.length<=1000
 prim:t.primary.length<=1000
 uniq:t.uniques.length<=1000
 uniqs: ∀u∈t.uniques,u.length<=1000
 fors:t.foreigns.length<=1000
 forss: ∀f∈t.foreigns,f.columns.length<=1000
 chk:t.checks.length<=1000
 chks: ∀e∈t.checks,Ok12 e
def yE (t:Tbl):List (List Int):=t.uniques++t.foreigns.map (·.columns)
def xS (t:Tbl):Int:=if xi t.columns.length t.primary then if t.primary.any (jf t) then 4 else if (yE t).all (xi t.columns.length) then 0 else 6 else 6
theorem okKey_in {t:Tbl} {l:List Int} (h:xi t.columns.length l=true): ∀k∈l,inC t k:=by
 intro k hk;obtain ⟨i,hi,rfl⟩:=Uq hk;simp only [xi,Yy] at h;have:=all_range.1 h.1 i hi;simp only [okAt,Yy,Yg,Yf,List.getElem?_eq_getElem hi,Option.getD_some] at this;exact this.1
theorem ZI {p P0 P1 P2:Prop} (zf_:P0) (zg_:P1) (zh_:P2) (h:P0->P1->P2->p:=by intro zf_ zg_ zh_;rw [<-zf_,zg_,zh_];rfl):p:=h zf_ zg_ zh_
theorem Xa {p P0:Prop} (zf_:P0) (h:P0->p:=by intro zf_;simp [cst,zf_,ends]):p:=h zf_
theorem c_keys (t:Tbl) (ht:SmallT t):ACall Tryz.prog 147 [aT t] [] (num (xS t)) []:=by
 refine zn mixed ttok Tryz.func147 Tryz.ntmps147 Tryz.results147 ?_;generalize hr:num (xS t)=R;have hp:=ht.prim;have hU:=ht.uniq;have hF:=ht.fors;refine Zn ?_;refine zg [[0,3,1,1,2,6],[1]] [] (c_key t t.primary Za) ?_;refine Zf ?_;cases hk:xi t.columns.length t.primary with
 | false=>
   simp only [hk,Yq,if_false];refine za (fun h=>?_) (fun h=>absurd h Zi);exact zm trivial (by rw [<-hr,xS,hk];rfl) Zb
 | true=>
 simp only [hk,if_true];refine za (fun h=>absurd h Zi) (fun _=>?_);have hc:=c_containsK t.primary t Za (okKey_in hk);unfold vT at hc;refine zg [[1],[]] [(1000,1)] (hc) ?_;refine Zf ?_;refine za (fun g=>?_) fun g=>?_
 ·exact zm trivial (by rw [<-hr,xS,hk,g];rfl) Zb
 refine zg [[1]] [(1000,600)] (c_clone t.uniques Za) ?_;refine Zf ?_;have hM:xS t=if (yE t).all (xi t.columns.length) then 0 else 6:=by rw [xS,hk,g];rfl
 refine zq mixed ttok 27 [1,25,26] [1] Zv Zw t.foreigns.length (fun _=>True) (fun n=>[(4,.vec 600 (t.uniques.length+n))]) (fun n=>[(600,.vec 22 1 (zd rIs (t.uniques++(t.foreigns.take n).map (·.columns))) 0)]) trivial ?_ ?_
 ·exact Ya Zh Zh Zh
 intro I hI n hn hi;have hl2:(t.uniques++(t.foreigns.take n).map (·.columns)).length=t.uniques.length+n:=Zt;refine Zx ?_;refine za (fun h=>?_) fun h=>?_
 ·simp only [Yg] at h;have h':n<t.foreigns.length:=Za;have hw:=zh h' Za;have hs:(t.foreigns.take (n+1)).map (·.columns)=(t.foreigns.take n).map (·.columns)++[(t.foreigns.getD n default).columns]:=by rw [zy _ _ h',YE];rfl
  refine ⟨Zs,⟨hl2.symm,Z2 hl2⟩,?_⟩;exact zp hI n rfl h' trivial (by simp [hw,hs,hl2,zf,Yt hn,Y6,ends]) (by simp [hw,hs,hl2,zf,Yt hn,Y6,ends]) (by simp [hw,hs,hl2,zf,Yt hn,Y6,ends]) (by simp [hw,hs,hl2,zf,Yt hn,Y6,ends])
 simp only [Ye] at h;obtain rfl:n=t.foreigns.length:=Za;clear hI;have hL:t.uniques++(t.foreigns.take t.foreigns.length).map (·.columns)=yE t:=by rw [Yk,yE]
 have hll:(yE t).length=t.uniques.length+t.foreigns.length:=by rw [<-hL];exact hl2
 rw [hL];refine ⟨hll.symm,?_⟩;rw [<-hll];refine zq mixed ttok 39 [1,37,38] [1,600] Zv Zw (yE t).length (fun n=> ∀i,i<n->xi t.columns.length ((yE t).getD i default)=true) (fun _=>[]) (fun _=>[]) (fun i h=>absurd h (Yu _)) ?_ ?_
 ·exact Ya (Xa hll) Zh Zh
 intro I hI n hn hi;refine Zx ?_;refine za (fun h=>?_) fun h=>?_
 ·simp only [Yg] at h;have h':n<(yE t).length:=Za;have hw:=zh h' Za;refine ⟨Zs,h',?_⟩;have hlen:((yE t).getD n default).length<=1000:=by
   have hm:=zk h';generalize (yE t).getD n default=x at hm ⊢;simp only [yE,Yr,Yv] at hm;rcases hm with hm | ⟨f,hf,rfl⟩
   ·exact ht.uniqs _ hm
   ·exact ht.forss f hf
  refine zg [[0,3,1,1,2,6],[1]] [] (c_key t ((yE t).getD n default) Za) ?_
  simp -implicitDefEqProofs only [↓zb,push_cast,simprocAttr,tt]
  cases hk2:xi t.columns.length ((yE t).getD n default) with
  | false=>
    simp only [hk2,Yq,if_false];refine za (fun h=>?_) (fun h=>absurd h Zi);have:(yE t).all (xi t.columns.length)=false:=by
     rw [List.all_eq_false];exact ⟨_,zk h',Z8 hk2⟩
    exact zm trivial (ZI hr hM this) Zb
  | true=>
    simp only [hk2,if_true];refine za (fun h=>absurd h Zi) (fun _=>?_);exact zp hI n rfl h' (fun i h2=>if h3:i=n then by rw [h3];exact hk2 else hi i Za) (Ze hw) (Ze hw) (Ze hw) (Ze hw)
 ·simp only [Ye] at h;have hn':n=(yE t).length:=Za;have:(yE t).all (xi t.columns.length)=true:=by
   rw [Ua];intro x hx;obtain ⟨i,hi2,rfl⟩:=Uq hx;have:=hi i Za;rwa [Yf,List.getElem?_eq_getElem hi2] at this
  exact zm trivial (ZI hr hM this) Zb
def oddR (c:Int):Bool:=(decide (c<32) || decide (c>126)) || c==39
theorem c_text1 (c:Int):ACall Tryz.prog 154 [.d (.lit (.int .i32 c))] [] (boo (oddR c)) []:=by
 refine zn mixed ttok Tryz.func154 Tryz.ntmps154 Tryz.results154 ?_;generalize hr:boo (oddR c)=R;refine Zn ?_;refine za (fun h1=>?_) fun h1=>?_
 ·exact zm trivial (by rw [<-hr,oddR,h1,Yz,Yz];rfl) Zb
 refine za (fun h2=>?_) fun h2=>?_
 ·exact zm trivial (by rw [<-hr,oddR,h1,h2,Y4,Yz];rfl) Zb
 ·exact zm trivial (by rw [<-hr,oddR,h1,h2,Y7,Yx];rfl) Zb
def jx (s:ByteArray) (p:Nat):Nat->Int
 | 0=> -1
 | n+1=>if p<s.size then (if oddR (Utf8.decode s p).1 then p else jx s (p+(Utf8.decode s p).2) n) else -1
theorem dec_pos (s:ByteArray) (p:Nat):0<(Utf8.decode s p).2:=by
 unfold Utf8.decode;simp only []
 repeat' split
 all_goals simp
theorem oddFrom_more (s:ByteArray): ∀(n p m:Nat),s.size-p<=n->n<=m->jx s p n=jx s p m
 | 0,p,m,h,_=>by
   cases m with
   | zero=>rfl
   | succ m=>simp only [jx];rw [if_neg Za]
 | n+1,p,0,h,h2=>Za
 | n+1,p,m+1,h,h2=>by
   simp only [jx];have:=dec_pos s p;rw [oddFrom_more s n (p+(Utf8.decode s p).2) m Za Za]
def uw (s:ByteArray) (p:Nat):Int:=jx s p s.size
theorem oddIdx_eq (s:ByteArray) (p:Nat):uw s p=if p<s.size then (if oddR (Utf8.decode s p).1 then (p:Int) else uw s (p+(Utf8.decode s p).2)) else -1:=by
 unfold uw;rw [oddFrom_more s s.size p (s.size+1) Za Za];rfl
theorem c_indexF (s:ByteArray):ACall Tryz.prog 193 [str s,.clo 154 [],boo true] [] (num (uw s 0)) []:=by
 refine zn mixed ttok Tryz.func193 Tryz.ntmps193 Tryz.results193 ?_;generalize hr:num (uw s 0)=R;refine Zn ?_;refine jU mixed ttok (fun p:{p:Nat // uw s p=uw s 0}=>(⟨[(10,.itr 10),(1,.clo 154 []),(2,boo true)],[(10,.it s p.1)]⟩:SL)) (fun p=>s.size-p.1) ⟨0,rfl⟩ ?_ fun ⟨p,hp⟩=>?_
 ·exact Ya Zb Zb Zb
 generalize hI:(fun p:{p:Nat // uw s p=uw s 0}=>(⟨[(10,.itr 10),(1,.clo 154 []),(2,boo true)],[(10,.it s p.1)]⟩:SL))=I;rw [oddIdx_eq] at hp;by_cases h:p<s.size
 ·rw [if_pos h] at hp
  simp -implicitDefEqProofs only [nextOf_lt h,↓zb,push_cast,simprocAttr,tt]
  refine zg [[0]] [] (c_text1 (Utf8.decode s p).1) ?_
  simp -implicitDefEqProofs only [↓zb,push_cast,simprocAttr,tt]
  refine za (fun g=>?_) fun g=>?_
  ·have g':oddR (Utf8.decode s p).1=true:=by simpa [eqEff] using g
   rw [g',if_pos rfl] at hp;exact zm trivial (by rw [<-hr,<-hp];rfl) Zb
  ·have g':oddR (Utf8.decode s p).1=false:=by simpa [eqEff] using g
   rw [g',if_neg Zi] at hp;have:=dec_pos s p;refine loopK_again (⟨p+(Utf8.decode s p).2,hp⟩:{p:Nat // uw s p=uw s 0}) Zl ?_ ?_ ?_<;>subst hI
   ·simp [ends]
   ·simp [ends]
   ·simp [ends]
 ·rw [if_neg h] at hp
  simp -implicitDefEqProofs only [nextOf_ge h,↓zb,push_cast,simprocAttr,tt]
  exact zm trivial (by rw [<-hr,<-hp];rfl) Zb
theorem ZJ {p P0:Prop} (zf_:P0) (h:P0->p:=by intro zf_;rw [<-zf_];rfl):p:=h zf_
theorem N7{p:Prop}(h:p:=by
 exact zm trivial (ZJ hr) Zb):p:=h
theorem c_indexFunc (s:ByteArray):ACall Tryz.prog 153 [str s,.clo 154 []] [] (num (uw s 0)) []:=by
 refine zn mixed ttok Tryz.func153 Tryz.ntmps153 Tryz.results153 ?_;generalize hr:num (uw s 0)=R;refine Zn ?_;refine zg [[0],[],[0]] [] (c_indexF s) ?_;refine Zf ?_;exact N7
def textM (s:ByteArray):Bool:=decide (s.size<=24)&&decide (uw s 0<0)
theorem c_vtext (s:ByteArray):ACall Tryz.prog 87 [str s] [] (boo (textM s)) []:=by
 refine zn mixed ttok Tryz.func87 Tryz.ntmps87 Tryz.results87 ?_;generalize hr:boo (textM s)=R;have hM:decide ((s.size:Int)<=24)=decide (s.size<=24):=decide_eq_decide.2 Za;refine ZQ hM ?_;refine za (fun h=>?_) fun h=>?_
 ·refine zg [[0],[]] [] (c_indexFunc s) ?_
  simp -implicitDefEqProofs only [↓zb,push_cast,simprocAttr,tt]
  exact zm trivial (by rw [<-hr,textM,h,Yo];rfl) Zb
 ·exact zm trivial (by rw [<-hr,textM,h,Yl];rfl) Zb
def zO (v:Val):Bool:=
 if v.kind=0 then (v.num==0)&&(v.text.toList==[])
 else if v.kind=1 then (decide (v.num≥ -1000000000000)&&decide (v.num<=1000000000000))&&(v.text.toList==[])
 else if v.kind=2 then ((v.num==0) || (v.num==1))&&(v.text.toList==[])
 else if v.kind=3 then (v.num==0)&&textM v.text
 else false
theorem MT{p:Prop}(h:p:=by
 have hk:v.kind=1:=Zc k1;have hM:zO v=((decide (v.num≥ -1000000000000)&&decide (v.num<=1000000000000))&&(v.text.toList==[])):=by rw [zO,if_neg hk0,if_pos hk]
 refine za (fun g=>?_) fun g=>?_
 ·refine za (fun g2=>?_) fun g2=>?_
  ·exact zm trivial (by rw [<-hr,hM,g,g2,Yo,Yo];rfl) Zb
  ·exact zm trivial (by rw [<-hr,hM,g,g2,Yo,Yl];rfl) Zb
 ·exact zm trivial (by rw [<-hr,hM,g,Yl,Yl];rfl) Zb):p:=h
theorem MW{p:Prop}(h:p:=by
 have hk:v.kind=2:=Zc k2;have hM:zO v=(((v.num==0) || (v.num==1))&&(v.text.toList==[])):=by rw [zO,if_neg hk0,if_neg hk1,if_pos hk]
 refine za (fun g=>?_) fun g=>?_
 ·exact zm trivial (by rw [<-hr,hM,g,Yz,Yo];rfl) Zb
 ·refine za (fun g2=>?_) fun g2=>?_
  ·exact zm trivial (by rw [<-hr,hM,g,g2,Yx,Yo];rfl) Zb
  ·exact zm trivial (by rw [<-hr,hM,g,g2,Yx,Yl];rfl) Zb):p:=h
theorem Hc{p:Prop}(h:p:=by
 exact zm trivial (by rw [<-hr,hM,g,Yo];rfl) Zb):p:=h
theorem N6{p:Prop}(h:p:=by
 have hk:v.kind=0:=Zc k0;have hM:zO v=((v.num==0)&&(v.text.toList==[])):=by rw [zO,if_pos hk]
 refine za (fun g=>?_) fun g=>?_
 ·exact Hc
 ·exact zm trivial (by rw [<-hr,hM,g,Yl];rfl) Zb):p:=h
theorem J4{p:Prop}(h:p:=by
 have hk3: ¬v.kind=3:=Zc k3;have hM:zO v=false:=by rw [zO,if_neg hk0,if_neg hk1,if_neg hk2,if_neg hk3]
 exact zm trivial (Zo hr hM) Zb):p:=h
theorem u0 (v:Val):ACall Tryz.prog 45 [aV v] [] (boo (zO v)) []:=by
 refine zn mixed ttok Tryz.func45 Tryz.ntmps45 Tryz.results45 ?_;generalize hr:boo (zO v)=R;have he:(ByteArray.mk #[]).toList=[]:=ZZ;refine ZQ he ?_;refine za (fun k0=>?_) fun k0=>?_
 ·exact N6
 have hk0: ¬v.kind=0:=Zc k0;refine za (fun k1=>?_) fun k1=>?_
 ·exact MT
 have hk1: ¬v.kind=1:=Zc k1;refine za (fun k2=>?_) fun k2=>?_
 ·exact MW
 have hk2: ¬v.kind=2:=Zc k2;refine za (fun k3=>?_) fun k3=>?_
 ·have hk:v.kind=3:=Zc k3;have hM:zO v=((v.num==0)&&textM v.text):=by rw [zO,if_neg hk0,if_neg hk1,if_neg hk2,if_pos hk]
  refine za (fun g=>?_) fun g=>?_
  ·refine zg [[0]] [] (c_vtext v.text) ?_;refine Zf ?_;exact Hc
  ·exact zm trivial (by rw [<-hr,hM,g,Yl];rfl) Zb
 ·exact J4
def gD (s:ByteArray) (i:Nat):Int:=((s.data.getD i 0).toNat:Nat)
theorem get_byte (s:ByteArray) (i:Nat) (h:i<s.size):((s.get! i).toNat:Int)=gD s i:=by
 have h':i<s.data.size:=h;show (((s.data[i]!).toNat:Nat):Int)=_;rw [gD,YP,Array.getElem?_eq_getElem h',getElem!_pos s.data i h'];rfl
theorem decode_low (s:ByteArray) (p:Nat) (h:(s.get! p).toNat<128):Utf8.decode s p=((s.get! p).toNat,1):=by
 unfold Utf8.decode;simp only [Nat.add_zero];rw [if_pos h]
theorem decode_high (s:ByteArray) (p:Nat) (h: ¬(s.get! p).toNat<128):127<(Utf8.decode s p).1:=by
 unfold Utf8.decode;simp only [Nat.add_zero];rw [if_neg h]
 repeat' split
 all_goals first | (simp [Utf8.runeError];done) | (simp only [Yy,Yg,ge_iff_le] at *;omega)
theorem oddR_high {c:Int} (h:126<c):oddR c=true:=by rw [oddR,YV (by omega:c>126),Y4,Yz]
theorem oddFrom_neg (s:ByteArray): ∀(n p:Nat),s.size-p≤n→(jx s p n<0 ↔ ∀i,p≤i→i<s.size→oddR (gD s i)=false)
 | 0,p,h=>⟨fun _ i h1 h2=>Za,fun _=>by show (-1:Int)<0;decide⟩
 | n+1,p,h=>by
   simp only [jx];by_cases hp:p<s.size
   ·rw [if_pos hp];by_cases hl:(s.get! p).toNat<128
    ·rw [decode_low s p hl];simp only [];rw [get_byte s p hp];by_cases ho:oddR (gD s p)=true
     ·rw [if_pos ho];exact ⟨fun h=>Za,fun h=>by rw [h p (Ys _) hp] at ho;cases ho⟩
     ·rw [if_neg ho,oddFrom_neg s n (p+1) Za];simp only [Bool.not_eq_true] at ho;exact ⟨fun h i h1 h2=>if hi:i=p then hi ▸ ho else h i Za h2,fun h i h1 h2=>h i Za h2⟩
    ·have:=decode_high s p hl;rw [if_pos (oddR_high Za)];refine ⟨fun h=>Za,fun h=>?_⟩;have h2:=h p (Ys _) hp;rw [<-get_byte s p hp,oddR_high Za] at h2;cases h2
   ·rw [if_neg hp];exact ⟨fun _ i h1 h2=>Za,fun _=>Zi⟩
def gN (s:ByteArray):Bool:=(List.range s.size).all fun i=> !oddR (gD s i)
theorem textM_eq (s:ByteArray):textM s=(decide (s.size<=24)&&gN s):=by
 have h:=oddFrom_neg s s.size 0 Za;rw [textM]
 congr 1
 rw [Ud,Yg];show jx s 0 s.size<0 ↔ _;rw [h,gN,all_range];exact ⟨fun h i hi=>Z4 (h i (Yj _) hi),fun h i _ hi=>by simpa using h i hi⟩
theorem qm (v:Val):ACall Tryz.prog 47 [aV v] [] (boo (zO v)) []:=by
 refine zn mixed ttok Tryz.func47 Tryz.ntmps47 Tryz.results47 ?_;generalize hr:boo (zO v)=R;have he:(ByteArray.mk #[]).toList=[]:=ZZ;refine ZQ he ?_;refine za (fun k0=>?_) fun k0=>?_
 ·exact N6
 have hk0: ¬v.kind=0:=Zc k0;refine za (fun k1=>?_) fun k1=>?_
 ·exact MT
 have hk1: ¬v.kind=1:=Zc k1;refine za (fun k2=>?_) fun k2=>?_
 ·exact MW
 have hk2: ¬v.kind=2:=Zc k2;refine za (fun k3=>?_) fun k3=>?_
 ·have hk:v.kind=3:=Zc k3;have hM:zO v=((v.num==0)&&(decide (v.text.size<=24)&&gN v.text)):=by rw [zO,if_neg hk0,if_neg hk1,if_neg hk2,if_pos hk,textM_eq]
  refine za (fun g1=>?_) fun g1=>?_
  ·have:(v.num==0)=false:=by simpa [bne] using g1
   exact zm trivial (by rw [<-hr,hM,this,Yl];rfl) Zb
  have g1':(v.num==0)=true:=by simpa [bne] using g1
  refine za (fun g2=>?_) fun g2=>?_
  ·simp only [Yg] at g2;exact zm trivial (by rw [<-hr,hM,YS (by omega: ¬v.text.size<=24),Yl,YI];rfl) Zb
  simp only [Ye] at g2;have hM2:zO v=gN v.text:=by rw [hM,g1',YV (by omega:v.text.size<=24),Yo,Yo]
  refine zq mixed ttok 3 [1] [1] Zv Zw v.text.size (fun n=> ∀i,i<n->(!oddR (gD v.text i))=true) (fun _=>[]) (fun _=>[]) (fun i h=>absurd h (Yu _)) ?_ ?_
  ·exact Ya Zh Zh Zh
  intro I hI n hn hi;refine Zx ?_;refine za (fun h=>?_) fun h=>?_
  ·simp only [Yg] at h;have h':n<v.text.size:=Za;have hw:=zh h' Za;have bad:oddR (gD v.text n)=true->zO v=false:=fun h=>by rw [hM2,gN,wT h' (by rw [h];rfl)]
   refine ⟨Zs,?_⟩;generalize hcc:(((v.text.data.getD n 0).toNat:Nat):Int)=c;have hcb:gD v.text n=c:=hcc;rw [hcb] at bad;refine za (fun g3=>?_) fun g3=>?_
   ·exact zm trivial (by rw [<-hr,bad (by rw [oddR,g3];rfl)];rfl) Zb
   refine ⟨Zs,?_⟩;refine za (fun g4=>?_) fun g4=>?_
   ·exact zm trivial (by rw [<-hr,bad (by rw [oddR,g3,g4];rfl)];rfl) Zb
   refine ⟨Zs,?_⟩;refine za (fun g5=>?_) fun g5=>?_
   ·exact zm trivial (by rw [<-hr,bad (by rw [oddR,g3,g4,g5];rfl)];rfl) Zb
   ·exact zp hI n rfl h' (fun i h2=>if h3:i=n then by rw [h3,hcb,oddR,g3,g4,g5];rfl else hi i Za) (Ze hw) (Ze hw) (Ze hw) (Ze hw)
  ·simp only [Ye] at h;obtain rfl:n=v.text.size:=Za;exact zm trivial (by rw [<-hr,hM2,gN,all_range.2 hi];rfl) Zb
 ·exact J4
theorem gz (e:Ex): ∀(l:List Ex) (n:Int),depthL n (l++[e])=(if wD e>depthL n l then wD e else depthL n l)
 | [],n=>by simp [depthL]
 | x::l,n=>by simp only [YN,depthL];exact gz e l _
theorem c_size: ∀e:Ex,Ok12 e->ACall Tryz.prog 95 [aE e] [] (num (ve e)) []:=
 jY (p:=fun e=>Ok12 e->ACall Tryz.prog 95 [aE e] [] (num (ve e)) []) fun e ih ho=>by
 refine zn mixed ttok Tryz.func95 Tryz.ntmps95 Tryz.results95 ?_;generalize hr:num (ve e)=R;have hl:=ho.kids;refine Zn ?_;refine zq mixed ttok 9 [7,8] [] Zv Zw e.kids.length (fun n=>sizeL (sizeL 1 (e.kids.take n)) (e.kids.drop n)=sizeL 1 e.kids) (fun n=>[(3,num (sizeL 1 (e.kids.take n)))]) (fun _=>[]) rfl ?_ ?_
 ·exact Weak.keepL (by simp [cst,sizeL,ends]) (by simp [cst,ends]) (by simp [cst,ends])
 intro I hI n hn hi;refine Zx ?_;refine za (fun h=>?_) fun h=>?_
 ·simp only [Yg] at h;have h':n<e.kids.length:=Za;have hw:=zh h' Za;have ht:=uC (e.kids.getD n default) (e.kids.take n) 1;rw [<-zy _ _ h'] at ht;refine ⟨Zs,?_⟩;refine zg [[0,0,0,0,0,6]] [] (ih _ (zk h') (ho.kid (zk h'))) ?_
  simp -implicitDefEqProofs only [↓zb,push_cast,simprocAttr,tt]
  exact zp hI n rfl h' (by rw [zA _ n h',sizeL] at hi;rw [ht];exact hi) (Z0 hw ht) (Z0 hw ht) (Z0 hw ht) (Z0 hw ht)
 ·simp only [Ye] at h;obtain rfl:n=e.kids.length:=Za;exact zm trivial (by rw [<-hr,sizeW_eq,Yk];rfl) Zb
theorem M8{p:Prop}(h:p:=by
 intro I hI n hn hi;refine Zx ?_;refine za (fun h=>?_) fun h=>?_
 ·simp only [Yg] at h;have h':n<e.kids.length:=Za;have hw:=zh h' Za;have ht:=gz (e.kids.getD n default) (e.kids.take n) 0;rw [<-zy _ _ h'] at ht;refine ⟨Zs,?_⟩;refine zg [[0,0,0,0,0,6]] [] (ih _ (zk h') (ho.kid (zk h'))) ?_
  simp -implicitDefEqProofs only [↓zb,push_cast,simprocAttr,tt]
  exact zp hI n rfl h' (by rw [zA _ n h',depthL] at hi;rw [ht];exact hi) (Z0 hw ht) (Z0 hw ht) (Z0 hw ht) (Z0 hw ht)
 ·simp only [Ye] at h;obtain rfl:n=e.kids.length:=Za;exact zm trivial (by rw [<-hr,depthW_eq,Yk];rfl) Zb):p:=h
theorem c_depth: ∀e:Ex,Ok12 e->ACall Tryz.prog 191 [aE e] [] (num (wD e)) []:=
 jY (p:=fun e=>Ok12 e->ACall Tryz.prog 191 [aE e] [] (num (wD e)) []) fun e ih ho=>by
 refine zn mixed ttok Tryz.func191 Tryz.ntmps191 Tryz.results191 ?_;generalize hr:num (wD e)=R;have hl:=ho.kids;refine Zn ?_;refine zq mixed ttok 9 [7,8] [] Zv Zw e.kids.length (fun n=>depthL (depthL 0 (e.kids.take n)) (e.kids.drop n)=depthL 0 e.kids) (fun n=>[(3,num (depthL 0 (e.kids.take n)))]) (fun _=>[]) rfl ?_ ?_
 ·exact Ya (by simp [cst,depthL,ends]) Zh Zh
 exact M8
theorem c_rdepth: ∀e:Ex,Ok12 e->ACall Tryz.prog 194 [aE e] [] (num (wD e)) []:=
 jY (p:=fun e=>Ok12 e->ACall Tryz.prog 194 [aE e] [] (num (wD e)) []) fun e ih ho=>by
 refine zn mixed ttok Tryz.func194 Tryz.ntmps194 Tryz.results194 ?_;generalize hr:num (wD e)=R;have hl:=ho.kids;refine Zn ?_;refine zq mixed ttok 4 [1] [1] Zv Zw e.kids.length (fun n=>depthL (depthL 0 (e.kids.take n)) (e.kids.drop n)=depthL 0 e.kids) (fun n=>[(3,num (depthL 0 (e.kids.take n)))]) (fun _=>[]) rfl ?_ ?_
 ·exact Ya (by simp [cst,depthL,ends]) Zh Zh
 exact M8
theorem c_isType (k:Int):ACall Tryz.prog 217 [num k] [] (boo ((k==1 || k==2) || k==3)) []:=by
 refine zn mixed ttok Tryz.func217 Tryz.ntmps217 Tryz.results217 ?_;generalize hr:boo ((k==1 || k==2) || k==3)=R;refine Zn ?_;refine za (fun h1=>?_) fun h1=>?_
 ·exact zm trivial (by rw [<-hr,h1,Yz,Yz];rfl) Zb
 refine za (fun h2=>?_) fun h2=>?_
 ·exact zm trivial (by rw [<-hr,h1,h2,Y4,Yz];rfl) Zb
 ·exact zm trivial (by rw [<-hr,h1,h2,Y7,Yx];rfl) Zb
def opAt (op:Int):OpD:=opTab.getD op.toNat default
def isOp (op:Int):Bool:=decide (1<=op)&&decide (op<=28)
def yW (op:Int):OpD:=if isOp op then opAt op else default
def aOp (o:OpD):A:= .agg [.d (.lit (.string o.word)),.d (.lit (.int .i64 o.kids)),.d (.lit (.int .i64 o.types)),.d (.lit (.int .i64 o.own))]
theorem flat4: ∀(l:List OpD) (n j:Nat),j<4->n<l.length->(List.map A.d (l.map rOp).flatten)[n * 4+j]? =((rOp (l.getD n default)).map A.d)[j]?
 | [],n,j,hj,h=>by simp at h
 | o::l,0,j,hj,_=>by
   rw [Y0,List.flatten_cons,YE,Nat.zero_mul,YW,List.getElem?_append_left (by simpa [rOp] using hj)];rfl
 | o::l,n+1,j,hj,h=>by
   rw [Y0,List.flatten_cons,YE,List.getElem?_append_right (by simp [rOp];omega)];have:(n+1) * 4+j-(List.map A.d (rOp o)).length=n * 4+j:=by simp [rOp];omega
   rw [this,flat4 l n j hj (Zc h)];simp
theorem flat4_drop: ∀(l:List OpD) (n:Nat),n<l.length->((List.map A.d (l.map rOp).flatten).drop (n * 4)).take 4=(rOp (l.getD n default)).map A.d
 | [],n,h=>by simp at h
 | o::l,0,_=>by
   rw [Y0,List.flatten_cons,YE,Nat.zero_mul,List.drop_zero,List.take_append_of_le_length (by simp [rOp])];simp [rOp]
 | o::l,n+1,h=>by
   rw [Y0,List.flatten_cons,YE];have:(n+1) * 4=(List.map A.d (rOp o)).length+n * 4:=by simp [rOp];omega
   rw [this,List.drop_append];simp only [YG (Nat.le_add_right _ _),Nat.add_sub_cancel_left,Ue];rw [flat4_drop l n (Zc h)];simp
theorem word_some: ∀n:Nat,1<=n->n<29->((opTab.getD n default).word.toList==[])=false:=by
 have h:(List.range 29).all (fun n=>decide (n=0) || !(opTab.getD n default).word.data.toList.isEmpty)=true:=Zi;intro n h1 h2;have:=all_range.1 h n h2;rw [YS Za,Yx] at this;rw [YM];cases hw:(opTab.getD n default).word.data.toList with
 | nil=>rw [hw] at this;cases this
 | cons _ _=>rfl
theorem Jt{p:Prop}(h:p:=by
 refine zo [[0,0,0,0],[0]] rfl Zd Zj ?_ Zk Zb Zb;rfl):p:=h
theorem c_ofind (op:Int):ACall Tryz.prog 164 [num op] [] (.tup [aOp (yW op),boo (isOp op)]) []:=by
 refine zn mixed ttok Tryz.func164 Tryz.ntmps164 Tryz.results164 ?_;generalize hr:A.tup [aOp (yW op),boo (isOp op)]=R;have he:(ByteArray.mk #[]).toList=[]:=ZZ;by_cases ho:0<=op/\op<29
 ·obtain ⟨h0,h29⟩:=ho;have h1:(List.map A.d opRow)[op.toNat * 4]? =some (.d (.lit (.string (opAt op).word))):=by
   have:=flat4 opTab op.toNat 0 Za (by rw [opTab_length];omega);rw [Nat.add_zero] at this;exact this
  have h4:=flat4_drop opTab op.toNat (by rw [opTab_length];omega);have h3:((List.map A.d opRow).drop (op.toNat * 4)).take 4=[.d (.lit (.string (opAt op).word)),.d (.lit (.int .i64 (opAt op).kids)),.d (.lit (.int .i64 (opAt op).types)),.d (.lit (.int .i64 (opAt op).own))]:=h4;simp -implicitDefEqProofs only [argT,tab0,he,h1,h3,↓zb,push_cast,simprocAttr,tt];refine za (fun h=>absurd h Zt) fun _=>za (fun h=>absurd h Zt) fun _=>?_;refine ⟨⟨h0,Za⟩,?_⟩;subst hr;by_cases hz:op=0
  ·subst hz;have hw:((opAt 0).word.toList==[])=true:=by rw [YM];rfl
   refine za (fun _=>?_) fun h=>absurd h (Z8 hw);exact Jt
  ·have hw:((opAt op).word.toList==[])=false:=word_some op.toNat Za Za;refine za (fun h=>absurd h (Z8 hw)) fun _=>?_;have hy:isOp op=true:=by rw [isOp,YV (by omega),YV (by omega)];rfl
   have hlen:(List.map A.d opRow).length=116:=rfl;refine ⟨⟨h0,Za⟩,Z2 hlen,?_⟩;rw [yW,hy];exact Jt
 ·have hn:isOp op=false:=by
   rw [isOp,Bool.and_eq_false_iff,Ye,Ye];omega
  simp -implicitDefEqProofs only [argT,tab0,he,↓zb,push_cast,simprocAttr,tt]
  have hf:A.tup [aOp default,boo false]=R:=by rw [<-hr,yW,hn];rfl
  subst hf
  refine za (fun g=>?_) fun g=>?_
  ·exact Jt
  ·refine za (fun _=>?_) fun h=>absurd h (by simp at g;simp;omega);exact Jt
def yU (e:Ex):Bool:=isOp e.op&&(((e.kids.length:Int)==(yW e.op).kids) || ((e.op==28)&&decide ((e.kids.length:Int)>(yW e.op).kids)))
theorem Nn{p:Prop}(h:p:=by
 refine ⟨ze Zg,?_⟩;subst hM;refine zo [[0,0,0,0],[0],[0]] rfl Zd Zj ?_ Zk Zb Zb;simp only [g]):p:=h
theorem c_known (e:Ex):ACall Tryz.prog 108 [aE e] [] (.tup [aOp (yW e.op),boo (isOp e.op),boo (yU e)]) []:=by
 refine zn mixed ttok Tryz.func108 Tryz.ntmps108 Tryz.results108 ?_;obtain ⟨c,hc⟩: ∃c,yU e=c:=⟨_,rfl⟩
 rw [hc];have hM:=hc;rw [yU] at hM;refine Zn ?_;refine zg [[0]] [] (c_ofind e.op) ?_;generalize yW e.op=o at hM ⊢;simp -implicitDefEqProofs only [aOp,↓zb,push_cast,simprocAttr,tt];have fin: ∀b:Bool,b=c->A.tup [aOp o,boo (isOp e.op),boo b]=A.tup [aOp o,boo (isOp e.op),boo c]:=fun b h=>ZA h;refine za (fun g=>?_) fun g=>?_
 ·rw [g,Yo] at hM;refine za (fun g1=>?_) fun g1=>?_
  ·rw [g1,Yz] at hM;exact Nn
  ·rw [g1,Yx] at hM;refine za (fun g2=>?_) fun g2=>?_
   ·rw [g2,Yo] at hM;exact Nn
   ·rw [g2,Yl] at hM;exact Nn
 ·rw [g,Yl] at hM;exact Nn
def okF (e:Ex):Bool:=
 if e.op=1 then ((e.type==1 || e.type==2) || e.type==3) else if e.op=2 then zO ⟨1,e.num,ByteArray.empty⟩ else if e.op=3 then zO ⟨2,e.num,ByteArray.empty⟩
 else if e.op=4 then zO ⟨3,0,e.text⟩ else true
def noT (e:Ex):Bool:=if e.op=1 then true else e.type==0
def noN (e:Ex):Bool:=if e.op=2 then true else if e.op=3 then true else e.num==0
def noX (e:Ex):Bool:=if e.op=4 then true else e.text.toList==[]
def noC (e:Ex):Bool:=if e.op=5 then true else e.col==0
def yu (e:Ex):Bool:=(((okF e&&noT e)&&noN e)&&noX e)&&noC e
theorem XD {p:Prop} (h:p:=by rw [<-hr,hM];simp only [*,Yo,YT,Yl,boo]):p:=h
theorem XQ {p P0:Prop} (zf_:P0) (h:P0->p:=by intro zf_;simp [yu,okF,noT,noN,noX,noC,zf_]):p:=h zf_
theorem Ng{p:Prop}(h:p:=by
 repeat' first | (refine za (fun _=>?_) fun _=>?_) | exact zm trivial XD Zb):p:=h
theorem G7{p:Prop}(h:p:=by
 simp -implicitDefEqProofs only [he,he2,hh,h00,↓zb,push_cast,simprocAttr,tt];exact Ng):p:=h
theorem c_clean (e:Ex):ACall Tryz.prog 216 [aE e] [] (boo (yu e)) []:=by
 refine zn mixed ttok Tryz.func216 Tryz.ntmps216 Tryz.results216 ?_;generalize hr:boo (yu e)=R;have he:(ByteArray.mk #[]).toList=[]:=ZZ;have he2:ByteArray.empty.toList=[]:=ZZ;have hh:(([]:List UInt8)==[])=true:=rfl;have h00:((0:Int)==0)=true:=rfl;simp -implicitDefEqProofs only [argT,he,hh,h00,↓zb,push_cast,simprocAttr,tt];refine za (fun k1=>?_) fun k1=>?_
 ·have hk:e.op=1:=Zc k1;have hM:yu e=((((((e.type==1 || e.type==2) || e.type==3)&&true)&&(e.num==0))&&(e.text.toList==[]))&&(e.col==0)):=XQ hk;refine zg [[0]] [] (c_isType e.type) ?_;simp -implicitDefEqProofs only [he,hh,h00,↓zb,push_cast,simprocAttr,tt];exact Ng
 refine za (fun k2=>?_) fun k2=>?_
 ·have hk:e.op=2:=Zc k2;have hM:yu e=((((zO ⟨1,e.num,ByteArray.empty⟩&&(e.type==0))&&true)&&(e.text.toList==[]))&&(e.col==0)):=XQ hk;refine zg [[0,0,0]] [] (u0 ⟨1,e.num,ByteArray.empty⟩) ?_;exact G7
 refine za (fun k3=>?_) fun k3=>?_
 ·have hk:e.op=3:=Zc k3;have hM:yu e=((((zO ⟨2,e.num,ByteArray.empty⟩&&(e.type==0))&&true)&&(e.text.toList==[]))&&(e.col==0)):=XQ hk;refine zg [[0,0,0]] [] (u0 ⟨2,e.num,ByteArray.empty⟩) ?_;exact G7
 refine za (fun k4=>?_) fun k4=>?_
 ·have hk:e.op=4:=Zc k4;have hM:yu e=((((zO ⟨3,0,e.text⟩&&(e.type==0))&&(e.num==0))&&true)&&(e.col==0)):=XQ hk;refine zg [[0,0,0]] [] (u0 ⟨3,0,e.text⟩) ?_;exact G7
 refine za (fun k5=>?_) fun k5=>?_
 ·have hk:e.op=5:=Zc k5;have hM:yu e=((((true&&(e.type==0))&&(e.num==0))&&(e.text.toList==[]))&&true):=XQ hk;exact Ng
 have hk1: ¬e.op=1:=Zc k1;have hk2: ¬e.op=2:=Zc k2;have hk3: ¬e.op=3:=Zc k3;have hk4: ¬e.op=4:=Zc k4;have hk5: ¬e.op=5:=Zc k5;have hM:yu e=((((true&&(e.type==0))&&(e.num==0))&&(e.text.toList==[]))&&(e.col==0)):=by simp [yu,okF,noT,noN,noX,noC,hk1,hk2,hk3,hk4,hk5]
 exact Ng
end
end Go.Proofs.YtnmibokjpedkiaaGreatDoor
