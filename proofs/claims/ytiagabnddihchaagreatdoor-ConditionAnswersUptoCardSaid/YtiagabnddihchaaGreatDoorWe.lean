/- Conditions over finite domains (part We) -/
import Derived.Shelf.SlSortCmp.NoneTotal
import Derived.Test.YtiagabnddihchaaGreatDoorWb
set_option maxRecDepth 100000
set_option maxHeartbeats 4000000
set_option linter.all false
namespace Go.Proofs.YtiagabnddihchaaGreatDoor
section
open Go.Proofs Go.Shelf
def Tryz.sortV_ren:Go.Shelf.Ren:=⟨fun | 6=>126 | 15=>143 | 14=>142 | 28=>160 | 29=>161 | 20=>152 | 21=>153 | 22=>154 | 23=>155 | 24=>156 | 25=>157 | 26=>158 | 27=>159 | 46=>163 | 47=>164 | 48=>165 | 49=>166 | 50=>167 | 57=>168 | n=>n,fun | 22=>32 | 24=>53 | 25=>111 | 3=>3 | 39=>135 | 0=>0 | 53=>148 | 55=>150 | 4=>4 | 46=>142 | 45=>141 | 50=>97 | 5=>5 | 9=>9 | 66=>152 | 70=>156 | 76=>158 | 77=>159 | n=>n,fun | n=>n⟩
theorem Tryz.sortV:Go.Proofs.SlLaysF0.n6 Tryz.prog Tryz.sortV_ren:={
 mixed:=by kernel_rfl
 f6:=⟨Tryz.f126.name,by decide,Tryz.func126.trans (congrArg some (by kernel_rfl))⟩
 f14:=⟨Tryz.f142.name,by decide,Tryz.func142.trans (congrArg some (by kernel_rfl))⟩
 f15:=Tryz.func143.trans (congrArg some (by kernel_rfl))
 f20:=⟨Tryz.f152.name,by decide,Tryz.func152.trans (congrArg some (by kernel_rfl))⟩
 f21:=⟨Tryz.f153.name,by decide,Tryz.func153.trans (congrArg some (by kernel_rfl))⟩
 f22:=⟨Tryz.f154.name,by decide,Tryz.func154.trans (congrArg some (by kernel_rfl))⟩
 f23:=⟨Tryz.f155.name,by decide,Tryz.func155.trans (congrArg some (by kernel_rfl))⟩
 f24:=⟨Tryz.f156.name,by decide,Tryz.func156.trans (congrArg some (by kernel_rfl))⟩
 f25:=⟨Tryz.f157.name,by decide,Tryz.func157.trans (congrArg some (by kernel_rfl))⟩
 f26:=⟨Tryz.f158.name,by decide,Tryz.func158.trans (congrArg some (by kernel_rfl))⟩
 f27:=⟨Tryz.f159.name,by decide,Tryz.func159.trans (congrArg some (by kernel_rfl))⟩
 f28:=Tryz.func160.trans (congrArg some (by kernel_rfl))
 f29:=Tryz.func161.trans (congrArg some (by kernel_rfl))
 f46:=⟨Tryz.f163.name,by decide,Tryz.func163.trans (congrArg some (by kernel_rfl))⟩
 f47:=Tryz.func164.trans (congrArg some (by kernel_rfl))
 f48:=Tryz.func165.trans (congrArg some (by kernel_rfl))
 f49:=⟨Tryz.f166.name,by decide,Tryz.func166.trans (congrArg some (by kernel_rfl))⟩
 f50:=⟨Tryz.f167.name,by decide,Tryz.func167.trans (congrArg some (by kernel_rfl))⟩
 f57:=⟨Tryz.f168.name,by decide,Tryz.func168.trans (congrArg some (by kernel_rfl))⟩
 t0:=Tryz.underlying0
 a0:=Tryz.isAgg0
 z0:=Tryz.sizeOf0
 v0:=Tryz.zeroValue0
 t3:=Tryz.underlying3
 a3:=Tryz.isAgg3
 z3:=Tryz.sizeOf3
 v3:=Tryz.zeroValue3
 t4:=Tryz.underlying4
 a4:=Tryz.isAgg4
 z4:=Tryz.sizeOf4
 v4:=Tryz.zeroValue4
 t5:=Tryz.underlying5
 a5:=Tryz.isAgg5
 z5:=Tryz.sizeOf5
 v5:=Tryz.zeroValue5
 t9:=Tryz.underlying9
 a9:=Tryz.isAgg9
 z9:=Tryz.sizeOf9
 v9:=Tryz.zeroValue9
 t22:=Tryz.underlying32
 a22:=Tryz.isAgg32
 z22:=Tryz.sizeOf32
 v22:=Tryz.zeroValue32
 t25:=Tryz.underlying111
 a25:=Tryz.isAgg111
 z25:=Tryz.sizeOf111
 v25:=Tryz.zeroValue111
 t39:=Tryz.underlying135
 a39:=Tryz.isAgg135
 z39:=Tryz.sizeOf135
 v39:=Tryz.zeroValue135
 t45:=Tryz.underlying141
 a45:=Tryz.isAgg141
 z45:=Tryz.sizeOf141
 v45:=Tryz.zeroValue141
 t46:=Tryz.underlying142
 a46:=Tryz.isAgg142
 z46:=Tryz.sizeOf142
 v46:=Tryz.zeroValue142
 t50:=Tryz.underlying97
 a50:=Tryz.isAgg97
 z50:=Tryz.sizeOf97
 v50:=Tryz.zeroValue97
 t53:=Tryz.underlying148
 a53:=Tryz.isAgg148
 z53:=Tryz.sizeOf148
 v53:=Tryz.zeroValue148
 t55:=Tryz.underlying150
 a55:=Tryz.isAgg150
 z55:=Tryz.sizeOf150
 v55:=Tryz.zeroValue150
 t66:=Tryz.underlying152
 a66:=Tryz.isAgg152
 z66:=Tryz.sizeOf152
 v66:=Tryz.zeroValue152
 t70:=Tryz.underlying156
 a70:=Tryz.isAgg156
 z70:=Tryz.sizeOf156
 v70:=Tryz.zeroValue156
 t76:=Tryz.underlying158
 a76:=Tryz.isAgg158
 z76:=Tryz.sizeOf158
 v76:=Tryz.zeroValue158
 t77:=Tryz.underlying159
 a77:=Tryz.isAgg159
 z77:=Tryz.sizeOf159
 v77:=Tryz.zeroValue159}
end
section
open Go.Am Go.Sort Go.Proofs Go.Shelf Go.RowKit
attribute [local simp, local push_cast] num boo str ints aV aTab yC aS aT aC aOp
theorem quiet_grown {Y:Nat->Nat->Prop} {w w':World} (h:Ev Y w w') (hY: ∀b i,¬Y b i): ∃q os',w'=grow (w.drewN q) os':=by
 have hb:=h.below hY
 refine ⟨w'.drawn-w.drawn,w'.heap.extract w.heap.size w'.heap.size,?_⟩
 have h1:w'.heap=w.heap++w'.heap.extract w.heap.size w'.heap.size:=by
  apply Array.ext_getElem?
  intro k
  rw [Array.getElem?_append]
  split
  ·rename_i hk;exact hb.block k hk
  ·rename_i hk
   rw [Array.getElem?_extract]
   have:=h.size
   split
   ·congr 1;omega
   ·rename_i hk2;rw [Array.getElem?_eq_none (by omega)]
 have h2:w.drawn+(w'.drawn-w.drawn)=w'.drawn:=by have:=h.drawn;omega
 have e1:=h.os
 have e2:=h.tape
 have e3:=h.output
 unfold grow World.drewN
 rw [h2,<-h1,<-e1,<-e2,<-e3]
def encV (v:Val):List Value:=[.int .i64 v.kind,.int .i64 v.num,.string v.text]
def sortV (vs:List Val):List Val:=vs.mergeSort fun x y=> !(ltOf cmpM y x)
theorem u4 (vs:List Val):(sortV vs).length=vs.length:=by rw [sortV,List.length_mergeSort]
theorem swo:SWO (ltOf cmpM) where
 irrefl x:=by simp [ltOf,wQ]
 trans x y z h1 h2:=by
  simp only [ltOf,decide_eq_true_eq] at *
  exact vF h1 h2
 ntrans x y z h1 h2:=by
  simp only [ltOf,decide_eq_false_iff_not] at *
  intro h3
  by_cases h4:cmpM y x<0
  ·exact h2 (vF h4 h3)
  ·have:=cmpM_tri x y h1 h4
   subst this
   exact h2 h3
theorem rows_flat {R:Rd}: ∀(vs:List Val) (C:Nat->Value->Prop) (k:Nat),(∀i,i<vs.length->C (k+i * 3) (.int .i64 (vs.getD i default).kind)/\C (k+i * 3+1) (.int .i64 (vs.getD i default).num)/\C (k+i * 3+2) (.string (vs.getD i default).text))->
 Go.Am.rowsAt R C 3 k (zg rV vs)
 | [],_,_,_=>by simp [zg,Go.Am.rowsAt]
 | v::vs,C,k,h=>by
   rw [zo]
   simp only [Go.Am.rowsAt]
   obtain ⟨h1,h2,h3⟩:=h 0 (by simp)
   simp at h1 h2 h3
   refine ⟨rfl,?_,rows_flat vs C (k+3) fun i hi=>?_⟩
   ·simp only [rV,Go.Am.rowAt]
    exact ⟨⟨_,h1,rfl,rfl⟩,⟨_,h2,rfl,rfl⟩,⟨_,h3,rfl,rfl⟩,trivial⟩
   ·have:=h (i+1) (by simpa using hi)
    rw [show k+(i+1) * 3=k+3+i * 3 by omega] at this
    simpa using this
theorem flat_rows {R:Rd} {C:Nat->Value->Prop} {vs:List Val} {k:Nat} (h:Go.Am.rowsAt R C 3 k (zg rV vs)) {i:Nat} (hi:i<vs.length):
 C (k+i * 3) (.int .i64 (vs.getD i default).kind)/\C (k+i * 3+1) (.int .i64 (vs.getD i default).num)/\C (k+i * 3+2) (.string (vs.getD i default).text):=by
 have:=(vw _ _ i (by rw [zc];exact hi) h).2
 rw [vK _ _ _ hi] at this
 simp only [rV,Go.Am.rowAt,D.rep] at this
 obtain ⟨⟨v1,a1,b1,_⟩,⟨v2,a2,b2,_⟩,⟨v3,a3,b3,_⟩,_⟩:=this
 subst b1 b2 b3
 exact ⟨a1,a2,a3⟩
theorem wx (w:World) (b m:Nat) (d:Array Val) (os:Array Obj) (hb:b<w.heap.size) (k:Nat) (hk:k≠b) (hk2:k<w.heap.size):(sortWorldK encV 3 w b 0 m d os).heap[k]? =w.heap[k]? :=by
 unfold sortWorldK grow putRowK putRow mapBlock
 simp only [Array.getElem?_append,Array.size_modify]
 rw [if_pos (by exact hk2),Array.getElem?_modify,if_neg (Ne.symm hk)]
 rfl
theorem vZ (w:World) (b m:Nat) (d:Array Val) (os:Array Obj) {c:Array Value} {e:TypeId} (hb:w.heap[b]? =some (.cells c e (0,0))):
 (sortWorldK encV 3 w b 0 m d os).heap[b]? =some (.cells (putCells id 0 (flatK encV 3 d) c) e (0,0)):=by
 have hlt:b<w.heap.size:=by
  rcases Nat.lt_or_ge b w.heap.size with q | q
  ·exact q
  ·rw [Array.getElem?_eq_none q] at hb;cases hb
 unfold sortWorldK grow putRowK putRow mapBlock
 simp only [Array.getElem?_append,Array.size_modify]
 rw [if_pos (by exact hlt),Array.getElem?_modify,if_pos rfl]
 show Option.map _ w.heap[b]? =_
 rw [hb]
 rfl
theorem cmp_lays {cx:Cx} {β:Nat→Option (Option Nat)} {h:Nat→Option Ob} {w:World} {o b e:Nat} {vs:List Val} (rel:Rel cx β h w) (ho:h o=some (.vec e 3 (zg rV vs) 0)) (hb:β o=some (some b)) (hlt:b<w.heap.size) (n:Nat):
 CmpLays Tryz.prog 108 #[] encV 3 cmpM b 0 n w:=by
 intro m os dk hs x y
 generalize hW:sortWorldK encV 3 w b 0 m dk os=W
 have hsz:w.heap.size<=W.heap.size:=by rw [<-hW];unfold sortWorldK putRowK;simp [grow,ahead,putRow,mapBlock]
 have hcell: ∀bb i v,¬Xh β h bb i->w.cell? ⟨bb,i,none⟩=some v->W.cell? ⟨bb,i,none⟩=some v:=by
  intro bb i v hx hc
  have hbl:bb<w.heap.size:=World.block_lt_of_cell? w _ hc
  have hne:bb≠b:=by
   rintro rfl
   exact hx ⟨o,_,ho,hb,by simp [Ob.excl]⟩
  have:=wx w b m dk os hlt bb hne hbl
  rw [hW] at this
  unfold World.cell? at *
  simp only [this]
  exact hc
 have hno: ∀bb i,¬Xh (fun _=>none) (lookO []) bb i:=by
  rintro bb i ⟨o',ob,h1,_⟩
  cases h1
 have hR: ∀bb i v,(ze cx.Xo β h w).R bb i v->(ze (fun bb i=>cx.Xo bb i\/Xh β h bb i) (fun _=>none) (lookO []) W).R bb i v:=by
  rintro bb i v ⟨h1,h2,h3⟩
  exact ⟨fun hx=>hx.elim h1 h2,hno bb i,hcell bb i v h2 h3⟩
 have rel0:Rel ⟨W,fun bb i=>cx.Xo bb i∨Xh β h bb i,Xh (fun _=>none) (lookO []),fun _=>none,lookO []⟩ (fun _=>none) (lookO []) W:=
  {dom:=fun _=>rfl
   obj:=fun o' ob bo h1=>by cases h1
   inj:=fun o' o'' bb h1=>by cases h1
   out:=fun o' bb i h1=>by cases h1
   bnd:=fun bb i hx=>by
    rcases hx with hx | ⟨o',ob,h1,h2,_⟩
    ·have:=rel.bnd bb i hx
     have:=rel.ev.size
     show bb<W.heap.size
     omega
    ·have:=rel.lt h2
     show bb<W.heap.size
     omega
   ev:=Ev.refl _ _
   own:=fun bb i hx=>absurd hx (hno bb i)
   ent:=fun o' ob h1=>by cases h1
   big:=fun o' h1=>by cases h1
   tab:=fun g row hg=>rowAt_mono hR (hR g) row 0 (rel.tab g row hg)
   gi:=fun g hg=>(rel.gi g hg).imp fun _=>hR _ _ _
   tsz:=fun g row hg=>by
    obtain ⟨c,el,fl,h1,h2⟩:=rel.tsz g row hg
    have hgl:g<w.heap.size:=by
     rcases Nat.lt_or_ge g w.heap.size with q | q
     ·exact q
     ·rw [Array.getElem?_eq_none q] at h1;cases h1
    rw [<-hW]
    by_cases hgb:g=b
    ·subst hgb
     have hobj:=rel.obj _ _ _ ho hb
     simp only [Ob.rep] at hobj
     obtain ⟨_,_,hd | ⟨b',c',hd,g4,_⟩⟩:=hobj
     ·cases hd.1
     ·cases hd
      have hcc:=h1.symm.trans g4
      simp only [Option.some.injEq,Obj.cells.injEq] at hcc
      exact ⟨_,_,_,vZ w g m dk os g4,by rw [<-h2,hcc.1];simp [putCells]⟩
    ·exact ⟨c,el,fl,by rw [wx w b m dk os hlt g hgb hgl];exact h1,h2⟩}
 have hargs:repL (ze (fun bb i=>cx.Xo bb i\/Xh β h bb i) (fun _=>none) (lookO []) W) [aV x,aV y] [.agg (encV x).toArray,.agg (encV y).toArray]:=by
  have cells: ∀(E:Env) (v:Val),(aV v).rep E (.agg (encV v).toArray):=by
   intro E v
   simp only [aV,A.rep,repL,D.rep]
   exact ⟨encV v,rfl,⟨_,_,rfl,⟨rfl,rfl⟩,_,_,rfl,⟨rfl,rfl⟩,_,_,rfl,⟨rfl,rfl⟩,rfl⟩,by simp [encV,Am.one]⟩
  simp only [repL]
  exact ⟨_,_,rfl,cells _ x,_,_,rfl,cells _ y,rfl⟩
 refine ((c_compare x y).calls _ _ W _ rel0 hargs).mono ?_
 rintro e' w' ⟨v,β',rfl,rel',hres⟩
 have hv:v= .int .i64 (cmpM x y):=by simp only [num,A.rep,D.rep] at hres;exact hres.1
 subst hv
 exact ⟨rfl,quiet_grown rel'.ev hno⟩
theorem fn_sort {h:Nat→Option Ob} {o e:Nat} {vs:List Val} (ho:h o=some (.vec e 3 (zg rV vs) 0)) (hl:vs.length<4611686018427387904):
 FnCall Tryz.prog 126 [.vec o vs.length,.clo 108 []] h ⟨True,.tup [],[(o,.vec e 3 (zg rV (sortV vs)) 0)],[o]⟩ where
 fn:=⟨_,Tryz.func126,by kernel_rfl,by kernel_rfl⟩
 keyed:=by simp [z2]
 calls:=fun h2 hr cx β w us rel hus=>by
  have ho2:h2 o=some (.vec e 3 (zg rV vs) 0):=(hr o (by simp)).trans ho
  simp only [repL] at hus
  obtain ⟨u1,_,rfl,g1,u2,_,rfl,g2,rfl⟩:=hus
  have hf:u2= .func (.func 108) #[] #[]:=by
   simp only [A.rep,repL] at g2
   obtain ⟨_,rfl,rfl⟩:=g2
   rfl
  subst hf
  have hres: ∀E:Env,(A.tup []).rep E (.tuple #[]):=fun E=>by
   simp only [A.rep,repL]
   exact ⟨[],rfl,rfl⟩
  rcases wB ho2 (zc _ _).symm g1 with ⟨hb,rfl⟩ | ⟨b,cap,hb,rfl,hcap,_,_⟩
  ·have hd:=rel.obj _ _ _ ho2 hb
   simp only [Ob.rep] at hd
   obtain ⟨_,_,hd | ⟨_,_,hd,_⟩⟩:=hd
   ·have hv0:vs=[]:=List.eq_nil_of_length_eq_zero (by have:=congrArg List.length hd.2;rw [zc] at this;simpa using this)
    subst hv0
    refine (AnyF.slices_SortFunc_none Tryz.sortV none 0 (.func (.func 108) #[] #[]) w).mono ?_
    rintro e' w' ⟨rfl,rfl⟩
    have hp:upds h2 [(o,Ob.vec e 3 (zg rV (sortV [])) 0)]=h2:=by
     show put h2 o _=h2
     funext q
     by_cases hq:q=o
     ·subst hq;rw [yy,ho2];simp [sortV]
     ·rw [zG _ _ hq]
    exact ⟨.tuple #[],β,rfl,by rw [hp];exact rel,by rw [hp];exact Env.Le.refl _,hres _⟩
   ·cases hd
  ·obtain ⟨k1,k2,k3⟩:=rel.obj _ _ _ ho2 hb
   rcases k3 with ⟨k3,_⟩ | ⟨b',c,k3,k4,k5,k6⟩
   ·cases k3
   cases k3
   have hlt:b<w.heap.size:=rel.lt hb
   rw [zc] at k6
   have hfl: ∀(d:List Val) (j:Nat),j<d.length * 3-> ∃i q,i<d.length/\q<3/\j=i * 3+q/\(flatK encV 3 d.toArray)[j]! =(encV (d.getD i default))[q]! :=by
    intro d j hj
    refine ⟨j / 3,j % 3,by omega,by omega,by omega,?_⟩
    rw [get_flatK _ _ _ _ (by simpa using hj)]
    congr 2
    simp [List.getD_eq_getElem?_getD]
   have hH:HoldsK encV 3 w b 0 vs.toArray:=by
    intro j hj
    have hj':j<vs.length * 3:=by simpa using hj
    obtain ⟨i,q,h1,h2',h3,h4⟩:=hfl vs j hj'
    have hr3:=flat_rows k5 h1
    rw [h4]
    subst h3
    simp only [Nat.zero_add] at hr3 ⊢
    unfold World.cell? World.frozen?
    simp only [k4]
    refine ⟨?_,by simp⟩
    match q,h2' with
    | 0,_=>simpa [encV] using hr3.1
    | 1,_=>simpa [encV] using hr3.2.1
    | 2,_=>simpa [encV] using hr3.2.2
   have hcon:=AnyQ.slices_SortFunc_total Tryz.sortV 3 Tryz.isAgg53 Tryz.sizeOf53 encV (fun _=>rfl) (fun x v hv=>by simp [encV] at hv;rcases hv with rfl | rfl | rfl<;>rfl) cmpM swo 108 #[] b 0 cap vs.toArray w
    (enters_of Tryz.func108 (by kernel_rfl) rfl) (cmp_lays rel ho2 hb hlt _) hH hlt (by simpa using hl) (fun x y h1 h2=>by
      simp only [ltOf,decide_eq_false_iff_not] at h1 h2
      exact cmpM_tri x y h1 h2)
   refine (show Calls Tryz.prog 126 #[.slice (some ⟨b,0,none⟩) vs.length cap,.func (.func 108) #[] #[]] w _ from hcon).mono ?_
   rintro e' w' ⟨rfl,n,os,rfl⟩
   have hd:(vs.toArray.toList.mergeSort fun x y=> !(ltOf cmpM y x))=sortV vs:=rfl
   rw [hd]
   have hsl:=u4 vs
   generalize sortV vs=d at hsl
   obtain ⟨r1,L1⟩:=rel.write (w':=sortWorldK encV 3 w b 0 n d.toArray os) o b (.vec e 3 (zg rV vs) 0) (.vec e 3 (zg rV d) 0) ho2 hb
    ⟨rfl,rfl,rfl,by unfold sortWorldK putRowK;simp [grow,ahead,putRow,mapBlock],by show w.drawn<=w.drawn+n;omega,fun k hk=>by
     by_cases hkb:k=b
     ·subst hkb
      exact .inr (.inl ⟨c,_,e,k4,vZ w k n _ os k4,by simp [putCells],fun i hi=>absurd ⟨rfl,by simp [Ob.excl]⟩ hi⟩)
     ·exact .inl (wx w b n _ os hlt k hkb hk)⟩ (by simp [Ob.grow,zc,hsl]) (fun _ h=>h)
    (fun k hk hk2=>wx w b n _ os hlt k hk hk2) (fun L=>by
      simp only [Ob.rep]
      have hrows:Go.Am.rowsAt (ze cx.Xo β (put h2 o (some (.vec e 3 (zg rV d) 0))) (sortWorldK encV 3 w b 0 n d.toArray os)).R (fun i v=>(putCells id 0 (flatK encV 3 d.toArray) c)[i]? =some v) 3 0 (zg rV d):=by
       refine rows_flat d _ 0 fun i hi=>?_
       have hget: ∀q,q<3->(putCells id 0 (flatK encV 3 d.toArray) c)[0+i * 3+q]? =some ((encV (d.getD i default))[q]!):=by
        intro q hq
        have hj:i * 3+q<d.length * 3:=by omega
        obtain ⟨i',q',h1,h2',h3,h4⟩:=hfl d (i * 3+q) hj
        have hi':i'=i:=by omega
        have hq':q'=q:=by omega
        subst hi' hq'
        simp only [putCells,Array.getElem?_mapIdx,Nat.zero_add]
        rw [Array.getElem?_eq_getElem (show i' * 3+q'<c.size by omega),Option.map_some,if_pos ⟨Nat.zero_le _,by simpa using hj⟩,Nat.sub_zero,h4]
        rfl
       refine ⟨?_,?_,?_⟩
       ·simpa [encV] using hget 0 (by omega)
       ·simpa [encV] using hget 1 (by omega)
       ·simpa [encV] using hget 2 (by omega)
      exact ⟨Nat.zero_le _,yO _ _ hrows,.inr ⟨b,_,rfl,vZ w b n _ os k4,hrows,by rw [zc,hsl];simpa [putCells] using k6⟩⟩)
   exact ⟨.tuple #[],β,rfl,r1,L1,hres _⟩
end
end Go.Proofs.YtiagabnddihchaaGreatDoor
