/- Made queries answer as specified (part We) -/
import Derived.Shelf.SlSortCmp.NoneTotal
import Derived.Shelf.Spec.SlicesGrow
import Derived.Test.YtnmibokjpedkiaaGreatDoorWd
set_option maxRecDepth 100000
set_option maxHeartbeats 4000000
set_option linter.all false
namespace Go.Proofs.YtnmibokjpedkiaaGreatDoor
open Go.Am
section
open Go.Proofs Go.Shelf
def Tryz.sortV_ren:Go.Shelf.Ren:=⟨fun | 6=>208 | 15=>226 | 14=>225 | 28=>247 | 29=>248 | 20=>239 | 21=>240 | 22=>241 | 23=>242 | 24=>243 | 25=>244 | 26=>245 | 27=>246 | 46=>253 | 47=>254 | 48=>255 | 49=>256 | 50=>257 | 57=>258 | n=>n,fun | 22=>53 | 24=>71 | 25=>108 | 3=>3 | 39=>232 | 0=>0 | 53=>248 | 55=>250 | 4=>4 | 46=>242 | 45=>241 | 50=>65 | 5=>5 | 9=>9 | 66=>254 | 70=>258 | 76=>260 | 77=>261 | n=>n,fun | n=>n⟩
theorem Tryz.sortV:Go.Proofs.SlLaysF0.n6 Tryz.prog Tryz.sortV_ren:={
 mixed:=Zg
 f6:=⟨Tryz.f208.name,Zi,Tryz.func208.trans (congrArg some Zg)⟩
 f14:=⟨Tryz.f225.name,Zi,Tryz.func225.trans (congrArg some Zg)⟩
 f15:=Tryz.func226.trans (congrArg some Zg)
 f20:=⟨Tryz.f239.name,Zi,Tryz.func239.trans (congrArg some Zg)⟩
 f21:=⟨Tryz.f240.name,Zi,Tryz.func240.trans (congrArg some Zg)⟩
 f22:=⟨Tryz.f241.name,Zi,Tryz.func241.trans (congrArg some Zg)⟩
 f23:=⟨Tryz.f242.name,Zi,Tryz.func242.trans (congrArg some Zg)⟩
 f24:=⟨Tryz.f243.name,Zi,Tryz.func243.trans (congrArg some Zg)⟩
 f25:=⟨Tryz.f244.name,Zi,Tryz.func244.trans (congrArg some Zg)⟩
 f26:=⟨Tryz.f245.name,Zi,Tryz.func245.trans (congrArg some Zg)⟩
 f27:=⟨Tryz.f246.name,Zi,Tryz.func246.trans (congrArg some Zg)⟩
 f28:=Tryz.func247.trans (congrArg some Zg)
 f29:=Tryz.func248.trans (congrArg some Zg)
 f46:=⟨Tryz.f253.name,Zi,Tryz.func253.trans (congrArg some Zg)⟩
 f47:=Tryz.func254.trans (congrArg some Zg)
 f48:=Tryz.func255.trans (congrArg some Zg)
 f49:=⟨Tryz.f256.name,Zi,Tryz.func256.trans (congrArg some Zg)⟩
 f50:=⟨Tryz.f257.name,Zi,Tryz.func257.trans (congrArg some Zg)⟩
 f57:=⟨Tryz.f258.name,Zi,Tryz.func258.trans (congrArg some Zg)⟩
 t0:=Tryz.underlying0
 a0:=Tryz.isAgg0
 z0:=Tryz.sizeOf0
 v0:=Tryz.zeroValue0
 t3:=Tryz.underlying3
 a3:=Tryz.isAgg3
 z3:=Tryz.sizeOf3
 v3:=Tryz.zeroValue3
 t4:=Tryz.underlying4
 a4:=Tryz.isAgg4
 z4:=Tryz.sizeOf4
 v4:=Tryz.zeroValue4
 t5:=Tryz.underlying5
 a5:=Tryz.isAgg5
 z5:=Tryz.sizeOf5
 v5:=Tryz.zeroValue5
 t9:=Tryz.underlying9
 a9:=Tryz.isAgg9
 z9:=Tryz.sizeOf9
 v9:=Tryz.zeroValue9
 t22:=Tryz.underlying53
 a22:=Tryz.isAgg53
 z22:=Tryz.sizeOf53
 v22:=Tryz.zeroValue53
 t25:=Tryz.underlying108
 a25:=Tryz.isAgg108
 z25:=Tryz.sizeOf108
 v25:=Tryz.zeroValue108
 t39:=Tryz.underlying232
 a39:=Tryz.isAgg232
 z39:=Tryz.sizeOf232
 v39:=Tryz.zeroValue232
 t45:=Tryz.underlying241
 a45:=Tryz.isAgg241
 z45:=Tryz.sizeOf241
 v45:=Tryz.zeroValue241
 t46:=Tryz.underlying242
 a46:=Tryz.isAgg242
 z46:=Tryz.sizeOf242
 v46:=Tryz.zeroValue242
 t50:=Tryz.underlying65
 a50:=Tryz.isAgg65
 z50:=Tryz.sizeOf65
 v50:=Tryz.zeroValue65
 t53:=Tryz.underlying248
 a53:=Tryz.isAgg248
 z53:=Tryz.sizeOf248
 v53:=Tryz.zeroValue248
 t55:=Tryz.underlying250
 a55:=Tryz.isAgg250
 z55:=Tryz.sizeOf250
 v55:=Tryz.zeroValue250
 t66:=Tryz.underlying254
 a66:=Tryz.isAgg254
 z66:=Tryz.sizeOf254
 v66:=Tryz.zeroValue254
 t70:=Tryz.underlying258
 a70:=Tryz.isAgg258
 z70:=Tryz.sizeOf258
 v70:=Tryz.zeroValue258
 t76:=Tryz.underlying260
 a76:=Tryz.isAgg260
 z76:=Tryz.sizeOf260
 v76:=Tryz.zeroValue260
 t77:=Tryz.underlying261
 a77:=Tryz.isAgg261
 z77:=Tryz.sizeOf261
 v77:=Tryz.zeroValue261}
end
section
open Go.Proofs Go.Shelf
def Tryz.growI_ren:Go.Shelf.Ren:=⟨fun | 4=>198 | n=>n,fun | 22=>22 | 25=>3 | 3=>3 | 4=>4 | 9=>9 | 20=>20 | 0=>0 | n=>n,fun | n=>n⟩
theorem Tryz.growI:Go.Proofs.Lays8.n4 Tryz.prog Tryz.growI_ren:={
 mixed:=Zg
 f4:=⟨Tryz.f198.name,Zi,Tryz.func198.trans (congrArg some Zg)⟩
 t0:=Tryz.underlying0
 a0:=Tryz.isAgg0
 z0:=Tryz.sizeOf0
 v0:=Tryz.zeroValue0
 t3:=Tryz.underlying3
 a3:=Tryz.isAgg3
 z3:=Tryz.sizeOf3
 v3:=Tryz.zeroValue3
 t4:=Tryz.underlying4
 a4:=Tryz.isAgg4
 z4:=Tryz.sizeOf4
 v4:=Tryz.zeroValue4
 t9:=Tryz.underlying9
 a9:=Tryz.isAgg9
 z9:=Tryz.sizeOf9
 v9:=Tryz.zeroValue9
 t20:=Tryz.underlying20
 a20:=Tryz.isAgg20
 z20:=Tryz.sizeOf20
 v20:=Tryz.zeroValue20
 t22:=Tryz.underlying22
 a22:=Tryz.isAgg22
 z22:=Tryz.sizeOf22
 v22:=Tryz.zeroValue22}
def Tryz.growV_ren:Go.Shelf.Ren:=⟨fun | 4=>174 | n=>n,fun | 22=>53 | 25=>71 | 3=>3 | 4=>4 | 9=>9 | 20=>20 | 0=>0 | n=>n,fun | n=>n⟩
theorem Tryz.growV:Go.Proofs.Lays8.n4 Tryz.prog Tryz.growV_ren:={
 mixed:=Zg
 f4:=⟨Tryz.f174.name,Zi,Tryz.func174.trans (congrArg some Zg)⟩
 t0:=Tryz.underlying0
 a0:=Tryz.isAgg0
 z0:=Tryz.sizeOf0
 v0:=Tryz.zeroValue0
 t3:=Tryz.underlying3
 a3:=Tryz.isAgg3
 z3:=Tryz.sizeOf3
 v3:=Tryz.zeroValue3
 t4:=Tryz.underlying4
 a4:=Tryz.isAgg4
 z4:=Tryz.sizeOf4
 v4:=Tryz.zeroValue4
 t9:=Tryz.underlying9
 a9:=Tryz.isAgg9
 z9:=Tryz.sizeOf9
 v9:=Tryz.zeroValue9
 t20:=Tryz.underlying20
 a20:=Tryz.isAgg20
 z20:=Tryz.sizeOf20
 v20:=Tryz.zeroValue20
 t22:=Tryz.underlying53
 a22:=Tryz.isAgg53
 z22:=Tryz.sizeOf53
 v22:=Tryz.zeroValue53}
end
section
open Go.Am Go.Sort Go.Proofs Go.Shelf Go.RowKit
attribute [local simp, local push_cast] Ta aOp
theorem quiet_grown {Y:Nat->Nat->Prop} {w w':World} (h:Ev Y w w') (hY: ∀b i,¬Y b i): ∃q os',w'=grow (w.drewN q) os':=by
 have hb:=h.below hY;refine ⟨w'.drawn-w.drawn,w'.heap.extract w.heap.size w'.heap.size,?_⟩;have h1:w'.heap=w.heap++w'.heap.extract w.heap.size w'.heap.size:=by
  apply Array.ext_getElem?;intro k;rw [Array.getElem?_append]
  split
  ·rename_i hk;exact hb.block k hk
  ·rename_i hk;rw [Array.getElem?_extract];have:=h.size
   split
   ·congr 1;omega
   ·rename_i hk2;rw [Array.getElem?_eq_none Za]
 have h2:w.drawn+(w'.drawn-w.drawn)=w'.drawn:=by have:=h.drawn;omega
 have e1:=h.os;have e2:=h.tape;have e3:=h.output;unfold grow World.drewN;rw [h2,<-h1,<-e1,<-e2,<-e3]
def encV (v:Val):List Value:=[.int .i64 v.kind,.int .i64 v.num,.string v.text]
def sortV (vs:List Val):List Val:=vs.mergeSort fun x y=> !(ltOf cmpM y x)
theorem jw (vs:List Val):(sortV vs).length=vs.length:=by rw [sortV,List.length_mergeSort]
theorem swo:SWO (ltOf cmpM) where
 irrefl x:=by simp [ltOf,gA]
 trans x y z h1 h2:=by
  simp only [ltOf,Yg] at *;exact kk h1 h2
 ntrans x y z h1 h2:=by
  simp only [ltOf,Ye] at *;intro h3;by_cases h4:cmpM y x<0
  ·exact h2 (kk h4 h3)
  ·have:=cmpM_tri x y h1 h4;subst this;exact h2 h3
theorem rows_flat {R:Rd}: ∀(vs:List Val) (C:Nat->Value->Prop) (k:Nat),(∀i,i<vs.length->C (k+i * 3) (.int .i64 (vs.getD i default).kind)/\C (k+i * 3+1) (.int .i64 (vs.getD i default).num)/\C (k+i * 3+2) (.string (vs.getD i default).text))->
 Go.Am.rowsAt R C 3 k (zd rV vs)
 | [],_,_,_=>by simp [zd,Go.Am.rowsAt]
 | v::vs,C,k,h=>by
   rw [z6];simp only [Go.Am.rowsAt];obtain ⟨h1,h2,h3⟩:=h 0 Zd;simp at h1 h2 h3;refine ⟨rfl,?_,rows_flat vs C (k+3) fun i hi=>?_⟩
   ·simp only [rV,Go.Am.rowAt];exact ⟨⟨_,h1,rfl,rfl⟩,⟨_,h2,rfl,rfl⟩,⟨_,h3,rfl,rfl⟩,trivial⟩
   ·have:=h (i+1) (Zc hi);rw [show k+(i+1) * 3=k+3+i * 3 from Za] at this;simpa using this
theorem flat_rows {R:Rd} {C:Nat->Value->Prop} {vs:List Val} {k:Nat} (h:Go.Am.rowsAt R C 3 k (zd rV vs)) {i:Nat} (hi:i<vs.length):
 C (k+i * 3) (.int .i64 (vs.getD i default).kind)/\C (k+i * 3+1) (.int .i64 (vs.getD i default).num)/\C (k+i * 3+2) (.string (vs.getD i default).text):=by
 have:=(jN _ _ i (by rw [zc];exact hi) h).2;rw [xR _ _ _ hi] at this;simp only [rV,Go.Am.rowAt,D.rep] at this;obtain ⟨⟨v1,a1,b1,_⟩,⟨v2,a2,b2,_⟩,⟨v3,a3,b3,_⟩,_⟩:=this;subst b1 b2 b3;exact ⟨a1,a2,a3⟩
theorem uK (w:World) (b m:Nat) (d:Array Val) (os:Array Obj) (hb:b<w.heap.size) (k:Nat) (hk:k≠b) (hk2:k<w.heap.size):(sortWorldK encV 3 w b 0 m d os).heap[k]? =w.heap[k]? :=by
 unfold sortWorldK grow putRowK putRow mapBlock;simp only [Array.getElem?_append,Array.size_modify];rw [if_pos (by exact hk2),Array.getElem?_modify,if_neg (Ne.symm hk)];rfl
theorem kI (w:World) (b m:Nat) (d:Array Val) (os:Array Obj) {c:Array Value} {e:TypeId} (hb:w.heap[b]? =some (.cells c e (0,0))):
 (sortWorldK encV 3 w b 0 m d os).heap[b]? =some (.cells (putCells id 0 (flatK encV 3 d) c) e (0,0)):=by
 have hlt:b<w.heap.size:=by
  rcases YL b w.heap.size with q | q
  ·exact q
  ·rw [Array.getElem?_eq_none q] at hb;cases hb
 unfold sortWorldK grow putRowK putRow mapBlock;simp only [Array.getElem?_append,Array.size_modify];rw [if_pos (by exact hlt),Array.getElem?_modify,if_pos rfl];show Option.map _ w.heap[b]? =_;rw [hb];rfl
theorem cmp_lays {cx:Cx} {β:UK} {h:UJ} {w:World} {o b e:Nat} {vs:List Val} (rel:Rel cx β h w) (ho:h o=some (.vec e 3 (zd rV vs) 0)) (hb:β o=some (some b)) (hlt:b<w.heap.size) (n:Nat):
 CmpLays Tryz.prog 178 #[] encV 3 cmpM b 0 n w:=by
 intro m os dk hs x y;generalize hW:sortWorldK encV 3 w b 0 m dk os=W;have hsz:w.heap.size<=W.heap.size:=by rw [<-hW];unfold sortWorldK putRowK;simp [grow,ahead,putRow,mapBlock]
 have hcell: ∀bb i v,¬Xh β h bb i->w.cell? ⟨bb,i,none⟩=some v->W.cell? ⟨bb,i,none⟩=some v:=by
  intro bb i v hx hc;have hbl:bb<w.heap.size:=World.block_lt_of_cell? w _ hc;have hne:bb≠b:=by
   rintro rfl;exact hx ⟨o,_,ho,hb,by simp [Ob.excl]⟩
  have:=uK w b m dk os hlt bb hne hbl;rw [hW] at this;unfold World.cell? at *;simp only [this];exact hc
 have hno: ∀bb i,¬Xh (fun _=>none) (lookO []) bb i:=by
  rintro bb i ⟨o',ob,h1,_⟩;cases h1
 have hR: ∀bb i v,(zj cx.Xo β h w).R bb i v->(zj (fun bb i=>cx.Xo bb i\/Xh β h bb i) (fun _=>none) (lookO []) W).R bb i v:=by
  rintro bb i v ⟨h1,h2,h3⟩;exact ⟨fun hx=>hx.elim h1 h2,hno bb i,hcell bb i v h2 h3⟩
 have rel0:Rel ⟨W,fun bb i=>cx.Xo bb i∨Xh β h bb i,Xh (fun _=>none) (lookO []),fun _=>none,lookO []⟩ (fun _=>none) (lookO []) W:=
  {dom:=fun _=>rfl
   obj:=fun o' ob bo h1=>by cases h1
   inj:=fun o' o'' bb h1=>by cases h1
   out:=fun o' bb i h1=>by cases h1
   bnd:=fun bb i hx=>by
    rcases hx with hx | ⟨o',ob,h1,h2,_⟩
    ·have:=rel.bnd bb i hx;have:=rel.ev.size;show bb<W.heap.size;omega
    ·have:=rel.lt h2;show bb<W.heap.size;omega
   ev:=Ev.refl _ _
   own:=fun bb i hx=>absurd hx (hno bb i)
   ent:=fun o' ob h1=>by cases h1
   big:=fun o' h1=>by cases h1
   tab:=fun g row hg=>rowAt_mono hR (hR g) row 0 (rel.tab g row hg)
   gi:=fun g hg=>(rel.gi g hg).imp fun _=>hR _ _ _
   tsz:=fun g row hg=>by
    obtain ⟨c,el,fl,h1,h2⟩:=rel.tsz g row hg;have hgl:g<w.heap.size:=by
     rcases YL g w.heap.size with q | q
     ·exact q
     ·rw [Array.getElem?_eq_none q] at h1;cases h1
    rw [<-hW];by_cases hgb:g=b
    ·subst hgb;have hobj:=rel.obj _ _ _ ho hb;simp only [Ob.rep] at hobj;obtain ⟨_,_,hd | ⟨b',c',hd,g4,_⟩⟩:=hobj
     ·cases hd.1
     ·cases hd;have hcc:=h1.symm.trans g4;simp only [Option.some.injEq,Obj.cells.injEq] at hcc;exact ⟨_,_,_,kI w g m dk os g4,by rw [<-h2,hcc.1];simp [putCells]⟩
    ·exact ⟨c,el,fl,by rw [uK w b m dk os hlt g hgb hgl];exact h1,h2⟩}
 have hargs:repL (zj (fun bb i=>cx.Xo bb i\/Xh β h bb i) (fun _=>none) (lookO []) W) [aV x,aV y] [.agg (encV x).toArray,.agg (encV y).toArray]:=by
  have cells: ∀(E:Env) (v:Val),(aV v).rep E (.agg (encV v).toArray):=by
   intro E v;simp only [aV,A.rep,repL,D.rep];exact ⟨encV v,rfl,⟨_,_,rfl,⟨rfl,rfl⟩,_,_,rfl,⟨rfl,rfl⟩,_,_,rfl,⟨rfl,rfl⟩,rfl⟩,by simp [encV,Am.one]⟩
  simp only [repL];exact ⟨_,_,rfl,cells _ x,_,_,rfl,cells _ y,rfl⟩
 refine ((c_compare x y).calls _ _ W _ rel0 hargs).mono ?_;rintro e' w' ⟨v,β',rfl,rel',hres⟩;have hv:v= .int .i64 (cmpM x y):=by simp only [num,A.rep,D.rep] at hres;exact hres.1
 subst hv;exact ⟨rfl,quiet_grown rel'.ev hno⟩
theorem fn_sort {h:UJ} {o e:Nat} {vs:List Val} (ho:h o=some (.vec e 3 (zd rV vs) 0)) (hl:vs.length<4611686018427387904):
 FnCall Tryz.prog 208 [.vec o vs.length,.clo 178 []] h ⟨True,.tup [],[(o,.vec e 3 (zd rV (sortV vs)) 0)],[o]⟩ where
 fn:=⟨_,Tryz.func208,Zg,Zg⟩
 keyed:=Z3
 calls:=fun h2 hr cx β w us rel hus=>by
  have ho2:h2 o=some (.vec e 3 (zd rV vs) 0):=(hr o Zd).trans ho;simp only [repL] at hus;obtain ⟨u1,_,rfl,g1,u2,_,rfl,g2,rfl⟩:=hus;have hf:u2= .func (.func 178) #[] #[]:=by
   simp only [A.rep,repL] at g2;obtain ⟨_,rfl,rfl⟩:=g2;rfl
  subst hf;have hres: ∀E:Env,(A.tup []).rep E (.tuple #[]):=fun E=>by
   simp only [A.rep,repL];exact ⟨[],rfl,rfl⟩
  rcases uo ho2 (zc _ _).symm g1 with ⟨hb,rfl⟩ | ⟨b,cap,hb,rfl,hcap,_,_⟩
  ·have hd:=rel.obj _ _ _ ho2 hb;simp only [Ob.rep] at hd;obtain ⟨_,_,hd | ⟨_,_,hd,_⟩⟩:=hd
   ·have hv0:vs=[]:=Yi (by have:=congrArg List.length hd.2;rw [zc] at this;simpa using this);subst hv0;refine (AnyF.slices_SortFunc_none Tryz.sortV none 0 (.func (.func 178) #[] #[]) w).mono ?_;rintro e' w' ⟨rfl,rfl⟩;have hp:upds h2 [(o,Ob.vec e 3 (zd rV (sortV [])) 0)]=h2:=by
     show put h2 o _=h2
     funext q
     by_cases hq:q=o
     ·subst hq;rw [yB,ho2];simp [sortV]
     ·rw [zK _ _ hq]
    exact ⟨.tuple #[],β,rfl,by rw [hp];exact rel,by rw [hp];exact Env.Le.refl _,hres _⟩
   ·cases hd
  ·obtain ⟨k1,k2,k3⟩:=rel.obj _ _ _ ho2 hb;rcases k3 with ⟨k3,_⟩ | ⟨b',c,k3,k4,k5,k6⟩
   ·cases k3
   cases k3;have hlt:b<w.heap.size:=rel.lt hb;rw [zc] at k6;have hfl: ∀(d:List Val) (j:Nat),j<d.length * 3-> ∃i q,i<d.length/\q<3/\j=i * 3+q/\(flatK encV 3 d.toArray)[j]! =(encV (d.getD i default))[q]! :=by
    intro d j hj;refine ⟨j / 3,j % 3,Za,Za,Za,?_⟩;rw [get_flatK _ _ _ _ (Zc hj)]
    congr 2
    simp [Yf]
   have hH:HoldsK encV 3 w b 0 vs.toArray:=by
    intro j hj;have hj':j<vs.length * 3:=Zc hj;obtain ⟨i,q,h1,h2',h3,h4⟩:=hfl vs j hj';have hr3:=flat_rows k5 h1;rw [h4];subst h3;simp only [YW] at hr3 ⊢;unfold World.cell? World.frozen?;simp only [k4];refine ⟨?_,Zd⟩
    match q,h2' with
    | 0,_=>simpa [encV] using hr3.1
    | 1,_=>simpa [encV] using hr3.2.1
    | 2,_=>simpa [encV] using hr3.2.2
   have hcon:=AnyQ.slices_SortFunc_total Tryz.sortV 3 Tryz.isAgg71 Tryz.sizeOf71 encV (fun _=>rfl) (fun x v hv=>by simp [encV] at hv;rcases hv with rfl | rfl | rfl<;>rfl) cmpM swo 178 #[] b 0 cap vs.toArray w
    (enters_of Tryz.func178 Zg rfl) (cmp_lays rel ho2 hb hlt _) hH hlt (Zc hl) (fun x y h1 h2=>by
      simp only [ltOf,Ye] at h1 h2;exact cmpM_tri x y h1 h2)
   refine (show Calls Tryz.prog 208 #[.slice (some ⟨b,0,none⟩) vs.length cap,.func (.func 178) #[] #[]] w _ from hcon).mono ?_;rintro e' w' ⟨rfl,n,os,rfl⟩;have hd:(vs.toArray.toList.mergeSort fun x y=> !(ltOf cmpM y x))=sortV vs:=rfl;rw [hd];have hsl:=jw vs;generalize sortV vs=d at hsl;obtain ⟨r1,L1⟩:=rel.write (w':=sortWorldK encV 3 w b 0 n d.toArray os) o b (.vec e 3 (zd rV vs) 0) (.vec e 3 (zd rV d) 0) ho2 hb
    ⟨rfl,rfl,rfl,by unfold sortWorldK putRowK;simp [grow,ahead,putRow,mapBlock],by show w.drawn<=w.drawn+n;omega,fun k hk=>by
     by_cases hkb:k=b
     ·subst hkb
      exact .inr (.inl ⟨c,_,e,k4,kI w k n _ os k4,by simp [putCells],fun i hi=>absurd ⟨rfl,by simp [Ob.excl]⟩ hi⟩)
     ·exact .inl (uK w b n _ os hlt k hkb hk)⟩ (by simp [Ob.grow,zc,hsl]) (fun _ h=>h)
    (fun k hk hk2=>uK w b n _ os hlt k hk hk2) (fun L=>by
      simp only [Ob.rep];have hrows:Go.Am.rowsAt (zj cx.Xo β (put h2 o (some (.vec e 3 (zd rV d) 0))) (sortWorldK encV 3 w b 0 n d.toArray os)).R (fun i v=>(putCells id 0 (flatK encV 3 d.toArray) c)[i]? =some v) 3 0 (zd rV d):=by
       refine rows_flat d _ 0 fun i hi=>?_;have hget: ∀q,q<3->(putCells id 0 (flatK encV 3 d.toArray) c)[0+i * 3+q]? =some ((encV (d.getD i default))[q]!):=by
        intro q hq;have hj:i * 3+q<d.length * 3:=Za;obtain ⟨i',q',h1,h2',h3,h4⟩:=hfl d (i * 3+q) hj;have hi':i'=i:=Za;have hq':q'=q:=Za;subst hi' hq';simp only [putCells,Array.getElem?_mapIdx,YW];rw [Array.getElem?_eq_getElem (show i' * 3+q'<c.size from Za),Ub,if_pos ⟨Yj _,Zc hj⟩,Nat.sub_zero,h4];rfl
       refine ⟨?_,?_,?_⟩
       ·simpa [encV] using hget 0 Za
       ·simpa [encV] using hget 1 Za
       ·simpa [encV] using hget 2 Za
      exact ⟨Yj _,xZ _ _ hrows,.inr ⟨b,_,rfl,kI w b n _ os k4,hrows,by rw [zc,hsl];simpa [putCells] using k6⟩⟩)
   exact ⟨.tuple #[],β,rfl,r1,L1,hres _⟩
end
section
attribute [local simp, local push_cast] Ta
def vecV (vs:List Val):Ob:= .vec 71 3 (zd rV vs) 0
attribute [local simp, local push_cast] vecV
def ngV (v:Val):Bool:=v.kind !=1
theorem c_sum1 (v:Val):ACall Tryz.prog 228 [aV v] [] (boo (ngV v)) []:=by
 refine zn mixed ttok Tryz.func228 Tryz.ntmps228 Tryz.results228 ?_;generalize hr:boo (ngV v)=R;refine Zn ?_;exact N7
theorem ret_dO {p:Prop} {x:D} {t:UL} {o:UM} {R:A} {os':UM} (hp:p) (hr:A.d x=R) (ho:keepO (lookO o) (inO os') os') (hin:keepIn (inO os') o):retx (some (p,A.d x)) ⟨t,o⟩ R os':=by
 subst hr;exact zv [] rfl hp trivial rfl rfl ho hin
theorem c_idxV (vs:List Val) (hl:vs.length<=1000000):
 ACall Tryz.prog 249 [.sub 1000 vs.length 0 vs.length,.clo 228 []] [(1000,vecV vs)] (num (fidx ngV vs)) [(1000,vecV vs)]:=by
 refine zn mixed ttok Tryz.func249 Tryz.ntmps249 Tryz.results249 ?_;generalize hr:num (fidx ngV vs)=R;refine Zn ?_;refine zx mixed ttok (fun n:Nat=>(⟨[(8,.d (.lit (.int .i64 n))),(7,.d (.lit (.int .i64 vs.length))),(0,.sub 1000 vs.length 0 vs.length),(1,.clo 228 [])],[(1000,vecV vs)]⟩:SL)) (fun n=>vs.length-n) (fun n=>n<=vs.length/\ ∀i,i<n->ngV (vs.getD i default)=false) 0 ⟨Yj _,fun i h=>absurd h (Yu _)⟩ ?_ ?_
 ·exact Ya Zb Zb Zb
 intro I hI n ⟨hn,hi⟩;refine Zf ?_;refine za (fun h=>?_) fun h=>?_
 ·simp only [Yg] at h;have h':n<vs.length:=Za;have hw:=zh h' Za;refine ⟨⟨Za,h⟩,h',?_⟩;refine zg [[0,0,0]] [] (c_sum1 (vs.getD n default)) ?_;refine Zf ?_;refine za (fun g=>?_) fun g=>?_
  ·exact ret_dO trivial (Zo hr (vC ngV vs n h' hi g)) Zb Zb
  ·exact zi hI (n+1) ⟨Za,fun i h2=>if h3:i=n then by rw [h3];exact g else hi i Za⟩ Zl (Ya (Ze hw) Zb Zb)
 ·simp only [Ye] at h;obtain rfl:n=vs.length:=Za;exact ret_dO trivial (Zo hr (xE ngV vs hi)) Zb Zb
def wu (vs:List Val):List Val:=vs.filter fun v=> !ngV v
def delM (vs:List Val):List Val:=wu vs++List.replicate (vs.length-(wu vs).length) zl
theorem goodL_len (vs:List Val):(wu vs).length<=vs.length:=YX _ _
theorem set_rV (l:List Val) (i:Nat) (x:Val) (hi:i<l.length):
 (zd rV l).set i (D.lit (.int .i64 x.kind)::D.lit (.int .i64 x.num)::D.lit (.string x.text)::List.drop 3 ((zd rV l).getD i []))=zd rV (l.set i x):=by
 rw [xR _ _ _ hi];exact jM rV l i x
theorem put_rV (l:List Val) (i n:Nat):putRows (zd rV l) i (List.replicate n [D.lit (.int .i64 0),D.lit (.int .i64 0),D.lit (.string ByteArray.empty)])=zd rV (putRows l i (List.replicate n zl)):=by
 have:List.replicate n [D.lit (Value.int .i64 0),D.lit (Value.int .i64 0),D.lit (Value.string ByteArray.empty)]=zd rV (List.replicate n zl):=by
  simp [zd,rV,zl]
 rw [this];simp [putRows,zd]
theorem ret_sub {p:Prop} {a m k n:Nat} {t:UL} {o:UM} {R:A} {os':UM} (hp:p) (hr:A.sub a m k n=R) (hc:inO os' a=true) (ho:keepO (lookO o) (inO os') os') (hin:keepIn (inO os') o):retx (some (p,A.sub a m k n)) ⟨t,o⟩ R os':=by
 subst hr;exact zv [] rfl hp trivial rfl (by simpa [A.closed] using hc) ho hin
theorem fidx_spec {α:Type} [Inhabited α] (p:α→Bool): ∀(l:List α) (n:Nat),fidx p l=n→(∀i,i<n→p (l.getD i default)=false)∧p (l.getD n default)=true
 | [],n,h=>by simp [fidx] at h
 | x::l,n,h=>by
   simp only [fidx] at h;by_cases hx:p x=true
   ·rw [if_pos hx] at h;obtain rfl:n=0:=Za;exact ⟨fun i hi=>absurd hi (Yu _),Zc hx⟩
   ·rw [if_neg hx] at h;by_cases hn:fidx p l<0
    ·rw [if_pos hn] at h;omega
    ·rw [if_neg hn] at h;obtain ⟨m,rfl⟩: ∃m,n=m+1:=⟨n-1,Za⟩
     obtain ⟨h1,h2⟩:=fidx_spec p l m Za;refine ⟨fun i hi=>?_,Zc h2⟩;cases i with
     | zero=>simpa using hx
     | succ i=>simpa using h1 i Za
theorem ji (vs:List Val) (n:Nat) (h:n<vs.length):wu (vs.take (n+1))=if ngV (vs.getD n default)=true then wu (vs.take n) else wu (vs.take n)++[vs.getD n default]:=by
 rw [zy _ _ h];unfold wu;rw [Uy];generalize vs.getD n default=x;cases hb:ngV x<;>simp [hb]
theorem goodL_all (vs:List Val) (h: ∀i,i<vs.length->ngV (vs.getD i default)=false):wu vs=vs:=by
 refine List.filter_eq_self.2 fun v hv=>?_;obtain ⟨i,hi,rfl⟩:=Uq hv;have:=h i hi;rw [Yf,List.getElem?_eq_getElem hi] at this;simpa using this
theorem Jk{p:Prop}(h:p:=by
 refine ⟨⟨hl1.symm,⟨Za,Za,Za⟩,Za⟩,⟨hl1.symm,Za⟩,⟨hdl.symm,⟨Za,Za⟩,.inl trivial⟩,?_⟩;rw [hgi] at hr;exact ret_sub trivial hr Zb Zb Zb):p:=h
theorem c_del (vs:List Val) (hl:vs.length≤1000000):
 ACall Tryz.prog 227 [.sub 1000 vs.length 0 vs.length,.clo 228 []] [(1000,vecV vs)] (.sub 1000 vs.length 0 (wu vs).length) [(1000,vecV (delM vs))]:=by
 refine zn mixed ttok Tryz.func227 Tryz.ntmps227 Tryz.results227 ?_;generalize hr:A.sub 1000 vs.length 0 (wu vs).length=R;refine Zn ?_;refine zg [[0],[0]] [(1000,1000)] (c_idxV vs hl) ?_;refine Zf ?_;by_cases hf:fidx ngV vs= -1
 ·have hall: ∀i,i<vs.length→ngV (vs.getD i default)=false:=by
   intro i hi;have:=(qe ngV vs).1 Za;rw [List.any_eq_false] at this;simpa using this _ (zk hi)
  have hg:=goodL_all vs hall;have hd:delM vs=vs:=by rw [delM,hg];simp
  rw [hg] at hr;rw [hd];refine za (fun _=>?_) fun h=>absurd h (Z8 hf);exact ret_sub trivial hr Zb Zb Zb
 refine za (fun h=>absurd h (Zc hf)) fun _=>?_;have hf0:0<=fidx ngV vs:=by have:=fidx_ge ngV vs;omega
 have hfl:=xU ngV vs;obtain ⟨i0,hi0⟩: ∃i0:Nat,fidx ngV vs=i0:=⟨(fidx ngV vs).toNat,Za⟩
 rw [hi0] at hfl ⊢;obtain ⟨hs1,hs2⟩:=fidx_spec ngV vs i0 hi0;have hi0l:i0<vs.length:=Za;have hw0:=zh hi0l Za;refine zx mixed ttok (fun x:Nat×Nat×List Val=>(⟨[(5,.d (.lit (.int .i64 x.1))),(6,.d (.lit (.int .i64 x.2.1))),(0,.sub 1000 vs.length 0 vs.length),(1,.clo 228 [])],[(1000,.vec 71 3 (zd rV x.2.2) 0)]⟩:SL)) (fun x=>vs.length-x.2.1)
  (fun x=>x.2.2.length=vs.length/\x.1<x.2.1/\x.2.1<=vs.length/\x.2.2.take x.1=wu (vs.take x.2.1)/\x.2.2.drop x.2.1=vs.drop x.2.1) (i0,i0+1,vs) ⟨rfl,Zd,Zt,?_,rfl⟩ ?_ ?_
 ·show vs.take i0=wu (vs.take (i0+1));rw [ji _ _ hi0l,if_pos hs2,goodL_all];intro i hi;simp only [Yh] at hi;have:=hs1 i Za;rw [Yf] at this ⊢;rwa [List.getElem?_take,if_pos Za]
 ·exact Ya (Ze hw0) (Ze hw0) Zb
 intro I hI ⟨i,j,l⟩ ⟨hl1,hij,hj,htk,hdr⟩;simp only at hl1 hij hj htk hdr;refine Zf ?_;refine ⟨Za,?_⟩;refine za (fun h=>?_) fun h=>?_
 ·simp only [Yg] at h;have h':j<vs.length:=Za;have hwj:=zh h' Za;have hgj:l.getD j default=vs.getD j default:=by
   have h1:=zA l j Za;have h2:=zA vs j h';rw [hdr,h2] at h1;injection h1 with h3 _
   exact h3.symm
  have hdr2:l.drop (j+1)=vs.drop (j+1):=by
   have:=congrArg (List.drop 1) hdr;simpa [Uo] using this
  refine ⟨⟨⟨Za,h⟩,hl1.symm⟩,Za,hl1.symm,?_⟩;refine zg [[0,0,0]] [] (c_sum1 (l.getD j default)) ?_;refine Zf ?_;have hsuc:=ji vs j h';rw [<-hgj] at hsuc;refine za (fun g=>?_) fun g=>?_
  ·have g':ngV (l.getD j default)=false:=Zc g;rw [if_neg (Z8 g'),<-htk] at hsuc;have hwi:=zh (N:=vs.length) (n:=i) Za Za;simp only [hwi];refine ⟨⟨⟨Za,Za⟩,hl1.symm⟩,⟨hl1.symm,Za,Za⟩,?_⟩;have hlt:(l.take i++[l.getD j default])=(l.set i (l.getD j default)).take (i+1):=by
    rw [U6 Zt,List.take_set,List.set_eq_of_length_le Zt];simp
   rw [hlt] at hsuc;have hsr:=set_rV l i (l.getD j default) Za;rw [hsr];exact zi hI (i+1,j+1,l.set i (l.getD j default)) ⟨Zc hl1,Zl,h',hsuc.symm,by exact (List.drop_set_of_lt (show i<j+1 by omega)).trans hdr2⟩ Zl
    (Ya (Ze hwj) Zb Zb)
  ·have g':ngV (l.getD j default)=true:=Zc g;rw [if_pos g',<-htk] at hsuc;exact zi hI (i,j+1,l) ⟨hl1,Zl,h',hsuc.symm,hdr2⟩ Zl (Ya (Ze hwj) (Ze hwj) Zb)
 ·simp only [Ye] at h;obtain rfl:j=vs.length:=Za;rw [Yk] at htk;have hgi:(wu vs).length=i:=by rw [<-htk];simp;omega
  have hfin:putRows l i (List.replicate (vs.length-i) zl)=delM vs:=by
   rw [delM,hgi,<-htk];simp only [putRows,YQ];rw [YG Za,Yw]
  rw [put_rV,hfin,zc];have hdl:(delM vs).length=vs.length:=by simp only [delM,Yb,YQ];have:=goodL_len vs;omega
  exact Jk
end
section
attribute [local simp, local push_cast] Ta vecV
def keep (vs:List Val) (j:Nat):Bool:=j==0 || !wz (vs.getD j default) (vs.getD (j-1) default)
def ddTo (vs:List Val) (n:Nat):List Val:=((List.range n).filter (keep vs)).map fun j=>vs.getD j default
def cpM (vs:List Val):List Val:=ddTo vs vs.length++List.replicate (vs.length-(ddTo vs vs.length).length) zl
theorem ddTo_succ (vs:List Val) (n:Nat):ddTo vs (n+1)=if keep vs n=true then ddTo vs n++[vs.getD n default] else ddTo vs n:=by
 unfold ddTo;rw [U8,Uy,YE];cases h:keep vs n<;>simp [h]
theorem ddTo_len (vs:List Val) (n:Nat):(ddTo vs n).length<=n:=by
 rw [ddTo,Y2];exact Y3 (YX _ _) Zd
theorem ddTo_all (vs:List Val): ∀(n:Nat),n<=vs.length->(∀j,j<n->keep vs j=true)->ddTo vs n=vs.take n
 | 0,_,_=>rfl
 | n+1,hn,h=>by rw [ddTo_succ,if_pos (h n (by omega)),ddTo_all vs n (by omega) fun j hj=>h j (by omega),zy _ _ (by omega)]
theorem sameM_eq (x y:Val):(x.kind==y.kind&&(x.num==y.num&&x.text.toList==y.text.toList))=wz x y:=by simp [wz,Bool.and_assoc]
theorem keep1 (vs:List Val): ∀j,j<1->keep vs j=true:=by
 intro j hj;obtain rfl:j=0:=Za;rfl
theorem c_compact (vs:List Val) (hl:vs.length≤1000000):
 ACall Tryz.prog 209 [.sub 1000 vs.length 0 vs.length] [(1000,vecV vs)] (.sub 1000 vs.length 0 (ddTo vs vs.length).length) [(1000,vecV (cpM vs))]:=by
 refine zn mixed ttok Tryz.func209 Tryz.ntmps209 Tryz.results209 ?_;generalize hr:A.sub 1000 vs.length 0 (ddTo vs vs.length).length=R;refine Zn ?_;have hall:(∀j,j<vs.length->keep vs j=true)->A.sub 1000 vs.length 0 vs.length=R/\cpM vs=vs:=fun h=>by
  have:=ddTo_all vs vs.length (Ys _) h;rw [Yk] at this;rw [this] at hr;exact ⟨hr,by rw [cpM,this];simp⟩
 refine za (fun h0=>?_) fun h0=>?_
 ·simp only [Yg] at h0;obtain ⟨e1,e2⟩:=hall fun j hj=>by
   have:j=0:=Za;subst this;rfl
  rw [e2];exact ret_sub trivial e1 Zb Zb Zb
 simp only [Ye] at h0;refine zx mixed ttok (fun k:Nat=>(⟨[(3,.d (.lit (.int .i64 k))),(0,.sub 1000 vs.length 0 vs.length)],[(1000,.vec 71 3 (zd rV vs) 0)]⟩:SL)) (fun k=>vs.length-k)
  (fun k=>1<=k/\k<=vs.length/\ ∀j,j<k->keep vs j=true) 1 ⟨Za,Za,keep1 vs⟩ ?_ ?_
 ·exact Ya Zb Zb Zb
 intro I hI k ⟨hk1,hk,hkj⟩;have hwk:IntKind.i64.wrap ((k:Int)-1)=((k-1:Nat):Int):=Z9;refine Zy hwk ?_;refine za (fun h=>?_) fun h=>?_
 ·simp only [Yg] at h;have h':k<vs.length:=Za;have hwk1:=zh h' Za;refine ⟨⟨Za,h⟩,h',⟨Za,Za⟩,Za,ze Zg,?_⟩;rw [sameM_eq];refine za (fun g=>?_) fun g=>?_
  ·have hkk:keep vs k=false:=by
    have h0:(k==0)=false:=Zt;rw [keep,g,h0];rfl
   refine ⟨⟨⟨Za,Za,Za⟩,.inr h⟩,?_⟩;refine zx mixed ttok (fun x:Nat×Nat×List Val=>(⟨[(3,.d (.lit (.int .i64 x.1))),(5,.d (.lit (.int .i64 x.2.1))),(0,.sub 1000 vs.length 0 vs.length),(4,.sub 1000 vs.length k (vs.length-k))],[(1000,.vec 71 3 (zd rV x.2.2) 0)]⟩:SL)) (fun x=>vs.length-k-x.2.1)
    (fun x=>x.2.2.length=vs.length/\x.1<k+x.2.1/\1<=x.2.1/\x.2.1<=vs.length-k/\x.2.2.take x.1=ddTo vs (k+x.2.1)/\x.2.2.drop (k+x.2.1-1)=vs.drop (k+x.2.1-1)) (k,1,vs) ⟨rfl,Zd,Zd,Zl,?_,rfl⟩ ?_ ?_
   ·show vs.take k=ddTo vs (k+1);rw [ddTo_succ,if_neg (Z8 hkk),ddTo_all vs k hk hkj]
   ·exact Ya Zb Zb Zb
   intro J hJ ⟨q,m,l⟩ ⟨hl1,hqm,hm1,hm,htk,hdr⟩;simp only at hl1 hqm hm1 hm htk hdr;have hwm:IntKind.i64.wrap ((m:Int)-1)=((m-1:Nat):Int):=Z9;refine Zy hwm ?_;refine ⟨hl1.symm,?_⟩;refine za (fun h2=>?_) fun h2=>?_
   ·simp only [Yg] at h2;have h2':k+m<vs.length:=Za;have hwm1:=zh (N:=vs.length) (n:=m) Za Za;have e1:k+m-1=k+(m-1):=Za;have hg1:l.getD (k+(m-1)) default=vs.getD (k+(m-1)) default:=by
     have h3:=zA l (k+m-1) Za;have h4:=zA vs (k+m-1) Za;rw [hdr,h4] at h3;injection h3 with h3 _
     rw [<-e1];exact h3.symm
    have hdr2:l.drop (k+m)=vs.drop (k+m):=by
     have:=congrArg (List.drop 1) hdr;rw [Uo,Uo,show k+m-1+1=k+m from Za] at this;exact this
    have hg2:l.getD (k+m) default=vs.getD (k+m) default:=by
     have h3:=zA l (k+m) Za;have h4:=zA vs (k+m) h2';rw [hdr2,h4] at h3;injection h3 with h3 _
     exact h3.symm
    have hsuc:=ddTo_succ vs (k+m);have hkeep:keep vs (k+m)= !wz (l.getD (k+m) default) (l.getD (k+(m-1)) default):=by
     have h0:(k+m==0)=false:=Zt;rw [keep,h0,hg1,hg2,e1];rfl
    rw [<-hg2] at hsuc;refine ⟨⟨⟨Za,h2⟩,hl1.symm⟩,Za,hl1.symm,⟨⟨Za,Za⟩,hl1.symm⟩,Za,hl1.symm,ze Zg,?_⟩;rw [sameM_eq,<-hkeep];refine za (fun g2=>?_) fun g2=>?_
    ·rw [if_pos g2,←htk] at hsuc;have hwq:=zh (N:=vs.length) (n:=q) Za Za;have hlt:(l.take q++[l.getD (k+m) default])=(l.set q (l.getD (k+m) default)).take (q+1):=by
      rw [U6 Zt,List.take_set,List.set_eq_of_length_le Zt];simp
     rw [hlt] at hsuc;have hsr:=set_rV l q (l.getD (k+m) default) Za;refine ⟨⟨⟨Za,h2⟩,hl1.symm⟩,Za,hl1.symm,⟨⟨Za,Za⟩,hl1.symm⟩,⟨hl1.symm,Za,Za⟩,?_⟩;rw [hsr];exact zi hJ (q+1,m+1,l.set q (l.getD (k+m) default)) ⟨Zc hl1,Zl,Zl,Zl,hsuc.symm,(List.drop_set_of_lt (show q<k+(m+1)-1 from Za)).trans (by rw [show k+(m+1)-1=k+m by omega];exact hdr2)⟩
      Zl (Ya (Z0 hwm1 hwq) Zb Zb)
    ·rw [if_neg (Z8 g2),←htk] at hsuc;exact zi hJ (q,m+1,l) ⟨hl1,Zl,Zl,Zl,hsuc.symm,by show l.drop (k+(m+1)-1)=vs.drop (k+(m+1)-1);rw [show k+(m+1)-1=k+m by omega];exact hdr2⟩
      Zl (Ya (Ze hwm1) Zb Zb)
   ·simp only [Ye] at h2;have hkm:k+m=vs.length:=Za;rw [hkm] at htk;have hgi:(ddTo vs vs.length).length=q:=by rw [<-htk];simp;omega
    have hfin:putRows l q (List.replicate (vs.length-q) zl)=cpM vs:=by
     rw [cpM,hgi,<-htk];simp only [putRows,YQ];rw [YG Za,Yw]
    rw [put_rV,hfin,zc];have hdl:(cpM vs).length=vs.length:=by simp only [cpM,Yb,YQ];have:=ddTo_len vs vs.length;omega
    exact Jk
  ·have hkk:keep vs k=true:=by rw [keep,g];simp
   exact zi hI (k+1) ⟨Za,Za,fun j hj=>if h3:j=k then by rw [h3];exact hkk else hkj j Za⟩ Zl (Ya (Ze hwk1) Zb Zb)
 ·simp only [Ye] at h;obtain rfl:k=vs.length:=Za;obtain ⟨e1,e2⟩:=hall hkj;rw [e2];exact ret_sub trivial e1 Zb Zb Zb
def okV (v:Val):Prop:=i64 v.num/\v.text.size<=9223372036854775807
def sumF (f:Val->Int):List Val->Int
 | []=>0
 | x::l=>f x+sumF f l
theorem gK (f:Val->Int) (x:Val): ∀l:List Val,sumF f (l++[x])=sumF f l+f x
 | []=>by simp [sumF]
 | y::l=>by simp only [YN,sumF,gK f x l];omega
theorem sumF_bound (f:Val->Int) (b:Int) (hb:0<=b): ∀l:List Val,(∀v∈l, -b<=f v/\f v<=b)-> -(b * l.length)<=sumF f l/\sumF f l<=b * l.length
 | [],_=>by simp [sumF]
 | x::l,h=>by
   have h1:=h x Zd;have h2:=sumF_bound f b hb l fun v hv=>h v (Zu hv);simp only [sumF,Y5,Int.natCast_add,Int.mul_add];omega
def hiF (B:Int) (v:Val):Int:=v.num.tdiv B
def loF (B:Int) (v:Val):Int:=v.num.tmod B
def totS (l:List Val):Int:=sumF (fun v=>v.num) l
theorem tot_parts (B:Int): ∀l:List Val,sumF (hiF B) l * B+sumF (loF B) l=totS l
 | []=>by simp [sumF,totS]
 | x::l=>by
   have h1:=Int.tdiv_mul_add_tmod x.num B;have h2:=tot_parts B l;simp only [totS,sumF,hiF,loF,Int.add_mul] at h1 h2 ⊢;omega
theorem loF_lt (v:Val) (B:Int) (hB:0<B): -(B-1)<=loF B v/\loF B v<=B-1:=by
 have h1:=Int.tmod_lt_of_pos v.num hB;have h2: -B<v.num.tmod B:=by
  have:=Int.tmod_lt_of_pos (-v.num) hB;rw [Int.neg_tmod] at this;omega
 unfold loF;omega
theorem hiF_le (v:Val) (B:Int) (hB:0<B) (hv:okV v) (c:Int) (hc:9223372036854775808<=c * B): -c<=hiF B v/\hiF B v<=c:=by
 have h1:=Int.tdiv_mul_add_tmod v.num B;have h2:=loF_lt v B hB;have h3:=hv.1;unfold i64 at h3;unfold hiF loF at *;constructor
 ·refine Int.le_of_mul_le_mul_right (a:=B) ?_ hB;rw [Int.neg_mul];by_cases h4: -c<=v.num.tdiv B
  ·have:=Uh h4 (Int.le_of_lt hB);rwa [Int.neg_mul] at this
  ·have h5:v.num.tdiv B+1≤ -c:=Za;have h6:=Uh h5 (Int.le_of_lt hB);rw [Int.add_mul,Int.neg_mul] at h6;omega
 ·refine Int.le_of_mul_le_mul_right (a:=B) ?_ hB;by_cases h4:v.num.tdiv B<=c
  ·exact Uh h4 (Int.le_of_lt hB)
  ·have h5:c+1≤v.num.tdiv B:=Za;have h6:=Uh h5 (Int.le_of_lt hB);rw [Int.add_mul] at h6;omega
def sumS (vs:List Val):Val:=if wu vs=[] then zl else if -1000000000000<=totS (wu vs)/\totS (wu vs)<=1000000000000 then ⟨1,totS (wu vs),ByteArray.empty⟩ else zl
theorem goodL_mem {vs:List Val} {v:Val} (h:v∈wu vs):v∈vs:=(Uj.1 h).1
theorem delM_get (vs:List Val) {i:Nat} (h:i<(wu vs).length):(delM vs).getD i default=(wu vs).getD i default:=by
 simp only [delM,Yf];rw [List.getElem?_append_left h]
theorem ret_vO {p:Prop} {k n:Int} {s:ByteArray} {t:UL} {o os':UM} {R:A} (hp:p) (hr:aV ⟨k,n,s⟩=R) (ho:keepO (lookO o) (inO os') os') (hin:keepIn (inO os') o):
 retx (some (p,.agg [.d (.lit (.int .i64 k)),.d (.lit (.int .i64 n)),.d (.lit (.string s))])) ⟨t,o⟩ R os':=by
 subst hr;exact zv [0,0,0] rfl hp Zd rfl rfl ho hin
theorem KC{p:Prop}(h:p:=by
 exact ret_vO Zm (Zr hr) Zb Zb):p:=h
theorem c_sum (vs:List Val) (hl:vs.length≤1000) (hv: ∀v∈vs,okV v):
 ACall Tryz.prog 210 [.sub 1000 vs.length 0 vs.length] [(1000,vecV vs)] (aV (sumS vs)) [(1000,vecV (delM vs))]:=by
 refine zn mixed ttok Tryz.func210 Tryz.ntmps210 Tryz.results210 ?_;generalize hr:aV (sumS vs)=R;refine Zn ?_;refine zg [[0],[0]] [(1000,1000)] (c_del vs Za) ?_;refine Zf ?_;have hdl:(delM vs).length=vs.length:=by simp only [delM,Yb,YQ];have:=goodL_len vs;omega
 have hgl:=goodL_len vs;have hget:= @delM_get vs;have hok: ∀v∈wu vs,okV v:=fun v h=>hv v (goodL_mem h);unfold sumS at hr;generalize wu vs=G at hr hgl hget hok ⊢;generalize delM vs=l at hget hdl ⊢;simp only [hdl];refine ⟨trivial,?_⟩;refine za (fun hz=>?_) fun hz=>?_
 ·have hG:G=[]:=Yi (Zc hz);rw [if_pos hG] at hr;exact KC
 have hG: ¬G=[]:=by rintro rfl;simp at hz
 rw [if_neg hG] at hr;refine ⟨trivial,?_⟩;have hbH: ∀n,n<=G.length-> -8589934592000<=sumF (hiF 1073741824) (G.take n)/\sumF (hiF 1073741824) (G.take n)<=8589934592000:=fun n hn=>by
  have:=sumF_bound (hiF 1073741824) 8589934592 Zi (G.take n) fun v h=>hiF_le v _ Zi (hok v (YH h)) _ Zi;rw [Yh,Yt hn] at this;omega
 have hbL: ∀n,n<=G.length-> -1073741823000<=sumF (loF 1073741824) (G.take n)/\sumF (loF 1073741824) (G.take n)<=1073741823000:=fun n hn=>by
  have:=sumF_bound (loF 1073741824) 1073741823 Zi (G.take n) fun v h=>loF_lt v _ Zi;rw [Yh,Yt hn] at this;omega
 refine zx mixed ttok (fun n:Nat=>(⟨[(17,.d (.lit (.int .i64 n))),(3,.d (.lit (.int .i64 (sumF (hiF 1073741824) (G.take n))))),(4,.d (.lit (.int .i64 (sumF (loF 1073741824) (G.take n))))),(16,.d (.lit (.int .i64 G.length))),(15,.sub 1000 vs.length 0 G.length),(2,.ptr 2 0)],[(2,.var [.d (.lit (.int .i64 0)),.d (.lit (.int .i64 0)),.d (.lit (.string ByteArray.empty))]),(1000,.vec 71 3 (zd rV l) 0)]⟩:SL)) (fun n=>G.length-n) (fun n=>n<=G.length) 0 (Yj _) ?_ ?_
 ·exact Weak.keepL (by simp [sumF,ends]) (by simp [ends]) (by simp [ends])
 intro I hI n hn;refine Zf ?_;refine za (fun h=>?_) fun h=>?_
 ·simp only [Yg] at h;have h':n<G.length:=Za;have hw:=zh h' Za;have hgn:=hget h';have b1:=hbH n hn;have b2:=hbL n hn;have b3:=hbH (n+1) h';have b4:=hbL (n+1) h';have s1:sumF (hiF 1073741824) (G.take (n+1))=sumF (hiF 1073741824) (G.take n)+(l.getD n default).num.tdiv 1073741824:=by rw [zy _ _ h',gK,hgn];rfl
  have s2:sumF (loF 1073741824) (G.take (n+1))=sumF (loF 1073741824) (G.take n)+(l.getD n default).num.tmod 1073741824:=by rw [zy _ _ h',gK,hgn];rfl
  have w1:=zt (n:=(l.getD n default).num.tdiv 1073741824) Za Za;have w2:=zt (n:=sumF (hiF 1073741824) (G.take n)+(l.getD n default).num.tdiv 1073741824) Za Za;have w3:=zt (n:=sumF (loF 1073741824) (G.take n)+(l.getD n default).num.tmod 1073741824) Za Za;refine ⟨⟨⟨Za,h⟩,hdl.symm⟩,Za,hdl.symm,ze Zg,?_⟩;simp only [w1,w2,w3];exact zi hI (n+1) h' Zl (Ya (by simp [s1,s2,hw,ends]) Zb Zb)
 ·simp only [Ye] at h;obtain rfl:n=G.length:=Za;have b1:=hbH _ (Ys _);have b2:=hbL _ (Ys _);have hT:=tot_parts 1073741824 G;simp only [Yk] at b1 b2 ⊢;generalize sumF (hiF 1073741824) G=H at b1 hT ⊢;generalize sumF (loF 1073741824) G=L at b2 hT ⊢;have e1:=Int.tdiv_mul_add_tmod L 1073741824;have e2: -1073741823000<=L.tdiv 1073741824/\L.tdiv 1073741824<=1073741823000:=by
   have:=Int.natAbs_tdiv_le_natAbs L 1073741824;omega
  have e3: -1073741823<=L.tmod 1073741824/\L.tmod 1073741824<=1073741823:=by
   have:=loF_lt ⟨0,L,ByteArray.empty⟩ 1073741824 Zi;exact this
  generalize L.tdiv 1073741824=q at e1 e2 ⊢;generalize L.tmod 1073741824=lo at e1 e3 ⊢;have w1:=zt (n:=q) Za Za;have w2:=zt (n:=H+q) Za Za;have w3:IntKind.i64.wrap (-932)= -932:=zt Zi Zi;simp only [w1,w2,w3];generalize hhi:H+q=hi at w2 ⊢;have hT2:totS G=hi * 1073741824+lo:=by rw [<-hhi,Int.add_mul];omega
  rw [hT2] at hr;refine za (fun h1=>?_) fun h1=>?_
  ·simp only [Yg] at h1;rw [if_neg Za] at hr;exact KC
  refine za (fun h2=>?_) fun h2=>?_
  ·simp only [Yg,gt_iff_lt] at h2;rw [if_neg Za] at hr;exact KC
  simp only [Ye,gt_iff_lt] at h1 h2;have w4:=zt (n:=hi * 1073741824) Za Za;have w5:=zt (n:=hi * 1073741824+lo) Za Za;simp only [w4,w5];refine zg [[0,0,0]] [] (u0 ⟨1,hi * 1073741824+lo,ByteArray.empty⟩) ?_;refine Zf ?_;have hval:zO ⟨1,hi * 1073741824+lo,ByteArray.empty⟩=(decide (-1000000000000<=hi * 1073741824+lo)&&decide (hi * 1073741824+lo<=1000000000000)):=by
   simp [zO,empty_list]
  rw [hval];by_cases hin: -1000000000000<=hi * 1073741824+lo/\hi * 1073741824+lo<=1000000000000
  ·rw [if_pos hin] at hr;rw [YV hin.1,YV hin.2];refine za (fun h=>absurd h Zi) fun _=>?_;exact KC
  ·rw [if_neg hin] at hr;refine za (fun _=>?_) fun h=>absurd h ?_
   ·exact KC
   ·intro h3;simp at h3;exact hin h3
end
section
attribute [local simp, local push_cast] Ta aRow rRow
def sing (l:List Val):List Row:=l.map fun v=>[v]
@[simp] theorem xQ (l:List Val):(sing l).length=l.length:=by simp [sing]
theorem sing_small (l:List Val): ∀r∈sing l,r.length<=1000:=by
 intro r h;obtain ⟨v,_,rfl⟩:=Yv.1 h;simp
theorem sing_get (l:List Val) {n:Nat} (h:n<l.length):(sing l).getD n default=[l.getD n default]:=by
 simp [sing,Yf,h]
theorem JM{p:Prop}(h:p:=by
 rw [if_neg Za] at hr;exact zw Zm (Zr hr) Zb):p:=h
theorem c_rsum (S:List Val) (hl:S.length≤1000) (hv: ∀v∈S,okV v):ACall Tryz.prog 184 [aTab (sing S)] [] (aV (sumS S)) []:=by
 refine zn mixed ttok Tryz.func184 Tryz.ntmps184 Tryz.results184 ?_;generalize hr:aV (sumS S)=R;refine Zn ?_;refine zx mixed ttok (fun x:Nat×Bool×Int×Int=>(⟨[(6,.d (.lit (.int .i64 x.1))),(3,boo x.2.1),(4,num x.2.2.1),(5,num x.2.2.2),(0,aTab (sing S)),(2,.ptr 2 0)],[(2,.var [.d (.lit (.int .i64 0)),.d (.lit (.int .i64 0)),.d (.lit (.string ByteArray.empty))])]⟩:SL)) (fun x=>S.length-x.1)
  (fun x=>x.1<=S.length/\x.2.1= !(wu (S.take x.1)).isEmpty/\x.2.2.1 * 1000000000000+x.2.2.2=totS (wu (S.take x.1))/\(-999999999999<=x.2.2.2/\x.2.2.2<=999999999999)/\(-(9300000 * (x.1:Int))<=x.2.2.1/\x.2.2.1<=9300000 * (x.1:Int))) (0,false,0,0) ⟨Yj _,rfl,rfl,Zi,Zi⟩ ?_ ?_
 ·exact Ya Zb Zb Zb
 intro I hI ⟨n,f,hi,lo⟩ ⟨hn,hf,ht,hlo,hhi⟩;simp only at hn hf ht hlo hhi;simp -implicitDefEqProofs only [xQ,↓zb,push_cast,simprocAttr,tt];refine za (fun h=>?_) fun h=>?_
 ·simp only [Yg] at h;have h':n<S.length:=Za;have hw:=zh h' Za;have hg:=sing_get S h';have hsuc:=ji S n h';refine Zy hg ?_;generalize hx:S.getD n default=x at hsuc ⊢;have hxm:okV x:=by rw [<-hx];exact hv _ (zk h')
  have hng:(x.kind !=1)=ngV x:=rfl;refine ⟨⟨Za,h⟩,?_⟩;refine za (fun g=>?_) fun g=>?_
  ·rw [if_pos (by rw [←hng];exact g)] at hsuc;exact zi hI (n+1,f,hi,lo) ⟨h',by show f=_;rw [hsuc];exact hf,by show hi * 1000000000000+lo=_;rw [hsuc];exact ht,hlo,by show -(9300000 * ((n+1:Nat):Int))<=hi/\hi<=9300000 * ((n+1:Nat):Int);omega⟩ Zl
    (Ya (Ze hw) Zb Zb)
  ·rw [if_neg (by rw [←hng,g];decide)] at hsuc;have e1:=Int.tdiv_mul_add_tmod x.num 1000000000000;have b1:=hiF_le x 1000000000000 Zi hxm 9223373 Zi;have b2:=loF_lt x 1000000000000 Zi;unfold hiF at b1;unfold loF at b2;generalize hq:x.num.tdiv 1000000000000=q at e1 b1;generalize hrr:x.num.tmod 1000000000000=r at e1 b2;have w1:=zt (n:=q) Za Za;have w2:=zt (n:=hi+q) Za Za;have w3:=zt (n:=lo+r) Za Za;have e2:=Int.tdiv_mul_add_tmod (lo+r) 1000000000000;have b3:=loF_lt ⟨0,lo+r,ByteArray.empty⟩ 1000000000000 Zi;unfold loF at b3;simp only at b3;generalize hp:(lo+r).tdiv 1000000000000=p at e2;generalize hs:(lo+r).tmod 1000000000000=t at e2 b3;have w4:=zt (n:=p) Za Za;have w5:=zt (n:=hi+q+p) Za Za;simp only [hq,hrr,w1,w2,w3,hp,hs,w4,w5];refine ⟨⟨Za,h⟩,⟨Za,h⟩,?_⟩;have hxs:totS (wu (S.take (n+1)))=totS (wu (S.take n))+x.num:=by rw [hsuc];exact gK _ _ _
   exact zi hI (n+1,true,hi+q+p,t) ⟨h',by show true=_;rw [hsuc];simp,by show (hi+q+p) * 1000000000000+t=_;rw [hxs,<-ht];omega,Zl,
    by show -(9300000 * ((n+1:Nat):Int))<=hi+q+p/\hi+q+p<=9300000 * ((n+1:Nat):Int);omega⟩ Zl
    (Ya (Ze hw) Zb Zb)
 ·simp only [Ye] at h;obtain rfl:n=S.length:=Za;rw [Yk] at hf ht;unfold sumS at hr;generalize wu S=G at hf ht hr;generalize totS G=T at ht hr;have hT:T=hi * 1000000000000+lo:=ht.symm;subst hT;refine za (fun k1=>?_) fun k1=>?_
  ·have hG:G=[]:=by
    rw [hf] at k1;simpa using k1
   rw [if_pos hG] at hr;exact zw Zm (Zr hr) Zb
  have hG: ¬G=[]:=by
   rw [hf] at k1;simpa using k1
  rw [if_neg hG] at hr;refine za (fun k2=>?_) fun k2=>?_
  ·simp only [gt_iff_lt,Yg] at k2;exact JM
  refine za (fun k3=>?_) fun k3=>?_
  ·simp only [Yg] at k3;exact JM
  simp only [gt_iff_lt,Ye] at k2 k3;have w1:=zt (n:=hi * 1000000000000) Za Za;have w2:=zt (n:=hi * 1000000000000+lo) Za Za;simp only [w1,w2];refine za (fun k4=>?_) fun k4=>?_
  ·simp only [gt_iff_lt,Yg] at k4;exact JM
  refine za (fun k5=>?_) fun k5=>?_
  ·simp only [Yg] at k5;exact JM
  simp only [gt_iff_lt,Ye] at k4 k5;rw [if_pos Za] at hr;exact zw Zm (Zr hr) Zb
def leM (x y:Val):Bool:=decide (cmpM x y<=0)
theorem leM_trans (a b c:Val) (h1:leM a b=true) (h2:leM b c=true):leM a c=true:=by
 simp only [leM,Yg] at *;rcases Int.lt_or_eq_of_le h1 with h3 | h3
 ·rcases Int.lt_or_eq_of_le h2 with h4 | h4
  ·exact Int.le_of_lt (kk h3 h4)
  ·rw [wZ] at h4;subst h4;exact h1
 ·rw [wZ] at h3;subst h3;exact h2
theorem leM_total (a b:Val):(leM a b || leM b a)=true:=by
 simp only [leM,Ul,Yg];by_cases h:cmpM b a<0
 ·exact .inr (Int.le_of_lt h)
 ·exact .inl ((cmpM_le a b).2 h)
theorem leM_anti (a b:Val) (h1:leM a b=true) (h2:leM b a=true):a=b:=by
 simp only [leM,Yg] at *;exact cmpM_tri a b ((cmpM_le b a).1 h2) ((cmpM_le a b).1 h1)
theorem sortV_eq (l:List Val):sortV l=l.mergeSort leM:=by
 unfold sortV
 congr 1
 funext x y
 simp only [Go.Proofs.ltOf,leM];rw [Ud];simp only [UD,Ye,Yg];exact (cmpM_le x y).symm
theorem vV (l:List Val):(sortV l).Perm l:=by rw [sortV_eq];exact List.mergeSort_perm l leM
theorem jv (l:List Val):(sortV l).Pairwise fun a b=>leM a b=true:=by rw [sortV_eq];exact List.pairwise_mergeSort leM_trans leM_total l
def canV:Nat->List Val->List Val
 | 0,l=>l
 | n+1,l=>if l.length<2 then l else List.merge (canV n (l.take (l.length / 2))) (canV n (l.drop (l.length / 2))) leM
theorem cmpR_one (x y:Val):cmpR [x] [y]=cmpM x y:=by
 rw [cmpR]
 split
 ·rfl
 ·rename_i h;have:cmpM x y=0:=Zc h;rw [this];rfl
theorem leR_one (x y:Val):leR [x] [y]=leM x y:=by unfold leR leM;rw [cmpR_one]
theorem merge_sing: ∀(n:Nat) (a b:List Val),a.length+b.length<=n->List.merge (sing a) (sing b) leR=sing (List.merge a b leM)
 | n,[],b,_=>by simp [sing]
 | n,x::a,[],_=>by simp [sing]
 | 0,x::a,y::b,h=>by simp at h
 | n+1,x::a,y::b,h=>by
   simp only [Y5] at h;have e1:sing (x::a)=[x]::sing a:=rfl;have e2:sing (y::b)=[y]::sing b:=rfl;rw [e1,e2];cases hq:leM x y
   ·rw [merge_r (by rw [leR_one];exact hq),merge_r hq,←e1,merge_sing n (x::a) b Zt];rfl
   ·rw [merge_l (by rw [leR_one];exact hq),merge_l hq,←e2,merge_sing n a (y::b) Zt];rfl
theorem canF_sing: ∀(n:Nat) (l:List Val),canF n (sing l)=sing (canV n l)
 | 0,l=>rfl
 | n+1,l=>by
   rw [canF,canV,xQ]
   split
   ·rfl
   ·have e1:(sing l).take (l.length / 2)=sing (l.take (l.length / 2)):=by simp [sing]
    have e2:(sing l).drop (l.length / 2)=sing (l.drop (l.length / 2)):=by simp [sing]
    rw [e1,e2,canF_sing n,canF_sing n,merge_sing _ _ _ (Ys _)]
theorem canV_perm: ∀(n:Nat) (l:List Val),(canV n l).Perm l
 | 0,l=>List.Perm.refl _
 | n+1,l=>by
   rw [canV]
   split
   ·exact List.Perm.refl _
   ·refine (List.merge_perm_append leM).trans ?_;refine ((canV_perm n _).append (canV_perm n _)).trans ?_;rw [Yp]
theorem gB: ∀(n:Nat) (l:List Val),l.length<=n+1->(canV n l).Pairwise fun a b=>leM a b=true
 | 0,[],_=>List.Pairwise.nil
 | 0,[x],_=>by simp [canV]
 | 0,_::_::_,h=>by simp at h
 | n+1,l,h=>by
   rw [canV]
   split
   ·rename_i h2
    match l,h2 with
    | [],_=>exact List.Pairwise.nil
    | [x],_=>simp
    | _::_::_,h2=>simp at h2;omega
   ·rename_i h2;exact List.pairwise_merge leM_trans leM_total _ _ (gB n _ Zt) (gB n _ Zt)
theorem canV_sort (l:List Val):canV l.length l=sortV l:=
 List.Perm.eq_of_pairwise (fun a b _ _ h1 h2=>leM_anti a b h1 h2) (gB _ _ Za) (jv l) ((canV_perm _ _).trans (vV l).symm)
theorem can_sing (l:List Val):canF (sing l).length (sing l)=sing (sortV l):=by rw [xQ,canF_sing,canV_sort]
def grpM1 (X:List Row):List Grp:=grpM X []
theorem grpM1_nil:grpM1 []=[]:=rfl
theorem qD (r:Row) (l:List Row):grpM1 (r::l)=⟨r,cntR r (r::l),0⟩::grpM1 ((r::l).drop (cntR r (r::l))):=by
 unfold grpM1;rw [wP Zd];rfl
def dC:Val->List Val->Nat
 | _,[]=>0
 | x,y::l=>if wz y x=true then dC x l else dC y l+1
theorem sameM_iff (x y:Val):wz x y=true ↔ x=y:=by
 rw [<-cmpM_zero,beq_iff_eq,wZ]
theorem grp_len: ∀(l:List Val) (x:Val),(grpM1 (sing (x::l))).length=dC x l+1
 | [],x=>by
   have:sing [x]=[[x]]:=rfl;rw [this,qD,xz,if_pos (yi _)];simp [cntR,grpM1_nil,dC]
 | y::l,x=>by
   have e: ∀(z:Val) (m:List Val),sing (z::m)=[z]::sing m:=fun _ _=>rfl;by_cases h:y=x
   ·subst h;rw [dC,if_pos ((sameM_iff y y).2 rfl),<-grp_len l y];rw [e,e,qD,xz,if_pos (yi _),List.drop_succ_cons,qD];rfl
   ·rw [dC,if_neg (fun h2=>h ((sameM_iff y x).1 h2)),←grp_len l y];have hc:cntR [x] (sing (y::l))=0:=by
     rw [e,xz,cmpR_one,if_neg (fun h2=>h ((wZ y x).1 h2))]
    rw [e x,qD,xz,if_pos (yi _),hc];rfl
theorem ddTo_count (S:List Val) (n:Nat):(ddTo S n).length=(List.range n).countP (keep S):=by
 rw [ddTo,Y2,List.countP_eq_length_filter]
theorem keep_tail (x y:Val) (l:List Val) (j:Nat):keep (x::y::l) (j+2)=keep (y::l) (j+1):=by
 simp [keep]
theorem dd_len: ∀(l:List Val) (x:Val),(List.range (l.length+1)).countP (keep (x::l))=dC x l+1
 | [],x=>rfl
 | y::l,x=>by
   have ih:=dd_len l y;rw [List.range_succ_eq_map,List.countP_cons,List.countP_map,if_pos (show keep (y::l) 0=true from rfl)] at ih;have h1:(List.range l.length).countP (keep (y::l)∘Nat.succ)=dC y l:=Za;rw [Y5,List.range_succ_eq_map,List.countP_cons,List.countP_map,if_pos (show keep (x::y::l) 0=true from rfl),List.range_succ_eq_map,List.countP_cons,List.countP_map];have h2:(keep (x::y::l)∘Nat.succ)∘Nat.succ=keep (y::l)∘Nat.succ:=by
    funext j
    exact keep_tail x y l j
   have h3:(keep (x::y::l)∘Nat.succ) 0= !wz y x:=rfl;rw [h2,h1,h3,dC];cases hs:wz y x
   ·simp
   ·have:=(sameM_iff y x).1 hs;subst this;simp
theorem dist_len (S:List Val):(grpM1 (sing S)).length=(ddTo S S.length).length:=by
 cases S with
 | nil=>rfl
 | cons x l=>rw [grp_len,ddTo_count,Y5,dd_len]
end
end Go.Proofs.YtnmibokjpedkiaaGreatDoor
