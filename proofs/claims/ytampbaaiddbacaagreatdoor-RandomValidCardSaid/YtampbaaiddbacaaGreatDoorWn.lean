/- What random makes of a tape is valid, of its types, and not too large: a proof over an abstract machine of our own (part Wn) -/
import Derived.Test.YtampbaaiddbacaaGreatDoorWe
import Derived.Test.YtampbaaiddbacaaGreatDoorRows
import Derived.MakeChecks
import Derived.LaidLaws
import Derived.LaidMore
import Derived.Shelf.Vars
set_option maxRecDepth 100000
set_option maxHeartbeats 4000000
set_option linter.all false
namespace Go.Proofs.YtampbaaiddbacaaGreatDoor
section
open Go.Am
theorem uOps:Tryz.prog.underlying 241=some (.array 29 216):=by kernel_rfl
theorem sOp:j7 Tryz.prog 216 [9,3,3,3]=true:=by kernel_rfl
theorem c4o:Tryz.prog.cellsOf 216=4:=by kernel_rfl
theorem gOps : Tryz.prog.globalNamed "querylab/expression.operations" = some 2 := by kernel_rfl
theorem tOps:(Tryz.prog.globals[2]?).map (·.type)=some 241:=by kernel_rfl
def dOp {H:Type} (o:OpD):DataW H:= .agg [.lit (.string o.word.data.toList),.lit (.int .i64 o.kids),.lit (.int .i64 o.types),.lit (.int .i64 o.own)]
theorem laid_eq:(Rows.laid_querylab_expression_operations:DataW Unit)= .agg (opTab.map dOp):=by rfl
theorem crep_ops {R:Rd}: ∀(l:List OpD) (cs:List Value),cs.length=l.length * 4->(∀i (hi:i<l.length),crep R (rOp l[i]) ((cs.drop (i * 4)).take 4))->crep R (l.map rOp).flatten cs
 | [],cs,hl,_=>by
   have:cs=[]:=List.eq_nil_of_length_eq_zero (by simpa using hl)
   rw [this];trivial
 | o::l,cs,hl,h=>by
   have h0:=h 0 (by simp)
   match cs,hl with
   | a::b::c::d::cs,hl=>
     simp at h0
     refine ⟨h0.1,h0.2.1,h0.2.2.1,h0.2.2.2.1,crep_ops l cs (by simp at hl;omega) fun i hi=>?_⟩
     have:=h (i+1) (by simpa using hi)
     rw [show (i+1) * 4=i * 4+1+1+1+1 by omega] at this
     simpa only [List.drop_succ_cons,List.getElem_cons_succ] using this
   | [],hl=>simp at hl
   | [_],hl=>simp at hl;omega
   | [_,_],hl=>simp at hl;omega
   | [_,_,_],hl=>simp at hl;omega
theorem qb {H:Type} {enc:TypeId×Value->H} {P:Program} {w:World} {base:Nat} {spare:Nat->Bool} {held:Bool} {t:TypeId} {fuel:Nat} {cs:List Value} {x:DataW H×List MemPlace} (tys:List TypeId)
 (hs:j7 P t tys=true) (h:DataW.trod enc P w base spare held fuel t cs=some x): ∃(n:Nat) (xs:List (DataW H×List MemPlace)),x.1= .agg (xs.map (·.1))/\xs.length=tys.length/\cs.length=tys.length/\ ∀(i:Nat) (u:TypeId),tys[i]? =some u-> ∃c,cs[i]? =some c/\DataW.trod enc P w base spare held n u [c]=xs[i]? :=by
 unfold j7 at hs
 split at hs
 ·rename_i fs hu
  simp only [Bool.and_eq_true,beq_iff_eq] at hs
  obtain ⟨⟨h1,h2⟩,h3⟩:=hs
  obtain ⟨xs,n,hn,hx,hl,hxl,hf⟩:=DataW.trod_struct hu h
  rw [h2] at hl
  refine ⟨n,xs,by rw [hx],by rw [hxl,<-h1];simp,by rw [hl,<-h1];simp,fun i u hi=>?_⟩
  rw [<-h1,List.getElem?_map,Option.map_eq_some_iff] at hi
  obtain ⟨f,hf1,rfl⟩:=hi
  have hf2:fs[i]? =some f:=by simpa using hf1
  have hlt:i<fs.size:=(Array.getElem?_eq_some_iff.1 hf2).1
  have g1:=List.all_eq_true.1 h3 i (by simpa using hlt)
  rw [hf2] at g1
  simp only [Bool.and_eq_true,beq_iff_eq] at g1
  have g2:=hf i f hf2
  rw [g1.1,g1.2,List.drop_eq_getElem_cons (by omega),List.take_succ_cons,List.take_zero] at g2
  exact ⟨cs[i],List.getElem?_eq_getElem (by omega),g2⟩
 ·cases hs
theorem crep_4 {R:Rd} {a b c d:D} {c0 c1 c2 c3:Value} {cs:List Value} (hl:cs.length=4) (e0:cs[0]? =some c0) (e1:cs[1]? =some c1) (e2:cs[2]? =some c2) (e3:cs[3]? =some c3) (r0:crep R [a] [c0]) (r1:crep R [b] [c1]) (r2:crep R [c] [c2]) (r3:crep R [d] [c3]):crep R [a,b,c,d] cs:=by
 match cs,hl with
 | [x,y,z,u],_=>simp at e0 e1 e2 e3;subst e0;subst e1;subst e2;subst e3;exact ⟨r0.1,r1.1,r2.1,r3.1,trivial⟩
theorem op_of {R:Rd} {w:World} {base:Nat} {spare:Nat->Bool} {held:Bool} {fuel:Nat} {cs:List Value} {p:List MemPlace} {o:OpD} (h:DataW.trod (fun _=>()) Tryz.prog w base spare held fuel 216 cs=some (dOp o,p)):crep R (rOp o) cs:=by
 obtain ⟨n,xs,hx,hxl,hl,hf⟩:=qb _ sOp h
 obtain ⟨c0,e0,h0⟩:=hf 0 _ rfl
 obtain ⟨c1,e1,h1⟩:=hf 1 _ rfl
 obtain ⟨c2,e2,h2⟩:=hf 2 _ rfl
 obtain ⟨c3,e3,h3⟩:=hf 3 _ rfl
 match xs,hxl with
 | [y0,y1,y2,y3],_=>
   simp only [dOp,List.map_cons,List.map_nil,DataW.agg.injEq,List.cons.injEq,and_true] at hx
   obtain ⟨q0,q1,q2,q3⟩:=hx
   obtain ⟨s,g0,k0,_⟩:=DataW.trod_string ustr (show _=some y0 from h0)
   obtain ⟨m1,g1,k1,_⟩:=DataW.trod_int ui64 (show _=some y1 from h1)
   obtain ⟨m2,g2,k2,_⟩:=DataW.trod_int ui64 (show _=some y2 from h2)
   obtain ⟨m3,g3,k3,_⟩:=DataW.trod_int ui64 (show _=some y3 from h3)
   subst k0;subst k1;subst k2;subst k3
   simp only [DataW.lit.injEq,Lit.string.injEq,Lit.int.injEq,true_and] at q0 q1 q2 q3
   have hs:s=o.word:=by
    apply ByteArray.ext
    exact Array.toList_inj.1 q0.symm
   simp only [List.cons.injEq,and_true] at g0 g1 g2 g3
   subst g0;subst g1;subst g2;subst g3;subst hs
   rw [rOp,q1,q2,q3]
   exact crep_4 hl e0 e1 e2 e3 ⟨⟨by simp [D.rep,one],rfl⟩,trivial⟩ ⟨⟨by simp [D.rep,one],rfl⟩,trivial⟩ ⟨⟨by simp [D.rep,one],rfl⟩,trivial⟩ ⟨⟨by simp [D.rep,one],rfl⟩,trivial⟩
theorem gNull : Tryz.prog.globalNamed "querylab/value.null" = some 3 := by kernel_rfl
theorem tNull:(Tryz.prog.globals[3]?).map (·.type)=some 45:=by kernel_rfl
def nullRow:List D:=[.lit (.int .i64 0),.lit (.int .i64 0),.lit (.string ⟨#[]⟩)]
theorem null_of {R:Rd} {w:World} {base:Nat} {spare:Nat->Bool} {held:Bool} {fuel:Nat} {cs:List Value} {p:List MemPlace} (h:DataW.trod (fun _=>()) Tryz.prog w base spare held fuel 45 cs=some (Rows.laid_querylab_value_null,p)):crep R nullRow cs:=by
 obtain ⟨n,xs,hx,hxl,hl,hf⟩:=qb _ sVal h
 obtain ⟨c0,e0,h0⟩:=hf 0 _ rfl
 obtain ⟨c1,e1,h1⟩:=hf 1 _ rfl
 obtain ⟨c2,e2,h2⟩:=hf 2 _ rfl
 match xs,hxl with
 | [y0,y1,y2],_=>
   simp only [Rows.laid_querylab_value_null,List.map_cons,List.map_nil,DataW.agg.injEq,List.cons.injEq,and_true] at hx
   obtain ⟨q0,q1,q2⟩:=hx
   obtain ⟨m0,g0,k0,_⟩:=DataW.trod_int ui64 (show _=some y0 from h0)
   obtain ⟨m1,g1,k1,_⟩:=DataW.trod_int uint64 (show _=some y1 from h1)
   obtain ⟨s,g2,k2,_⟩:=DataW.trod_string ustr (show _=some y2 from h2)
   subst k0;subst k1;subst k2
   simp only [DataW.lit.injEq,Lit.string.injEq,Lit.int.injEq,true_and] at q0 q1 q2
   have hs:s=⟨#[]⟩:=by
    apply ByteArray.ext
    exact Array.toList_inj.1 q2.symm
   simp only [List.cons.injEq,and_true] at g0 g1 g2
   subst g0;subst g1;subst g2;subst hs;subst q0;subst q1
   exact crep_3 hl e0 e1 e2 ⟨⟨by simp [D.rep,Go.Am.one],rfl⟩,trivial⟩ ⟨⟨by simp [D.rep,Go.Am.one],rfl⟩,trivial⟩ ⟨⟨by simp [D.rep,Go.Am.one],rfl⟩,trivial⟩
theorem crep_len {R:Rd}: ∀{row:List D} {cs:List Value},crep R row cs->row.length=cs.length
 | [],[],_=>rfl
 | _::_,_::_,h=>by simp only [List.length_cons];rw [crep_len h.2]
theorem ops_of {W:World} {cs:Array Value} {base:Nat} {spare:Nat->Bool} {held:Bool} {fuel:Nat} {p:List MemPlace} (hd0:DataW.trod (fun _=>()) Tryz.prog W base spare held fuel 241 cs.toList=some (Rows.laid_querylab_expression_operations,p)) {R:Rd}:
 crep R opRow cs.toList/\cs.toList.length=116:=by
 rw [laid_eq] at hd0
 obtain ⟨xs,m,hm,hx,hl,hn,hel⟩:=DataW.trod_array uOps hd0
 rw [c4o] at hel
 have hxs:xs.map (·.1)=opTab.map dOp:=by
  simp only [Prod.mk.injEq,DataW.agg.injEq] at hx
  exact hx.1.symm
 have hcl:cs.toList.length=opTab.length * 4:=by rw [hl];kernel_rfl
 refine ⟨crep_ops opTab cs.toList hcl fun i hi=>?_,hcl⟩
 have hi2:i<29:=hi
 have h1:=hel i hi2
 rw [List.getElem?_eq_getElem (by omega)] at h1
 have h2:(xs[i]'(by omega)).1=dOp opTab[i]:=by
  have:=congrArg (fun l=>l[i]?) hxs
  simp only [List.getElem?_map,List.getElem?_eq_getElem (show i<xs.length by omega),List.getElem?_eq_getElem hi,Option.map_some,Option.some.injEq] at this
  exact this
 obtain ⟨pp,hpp⟩: ∃pp,xs[i]'(by omega)=(dOp opTab[i],pp):=⟨(xs[i]'(by omega)).2,by rw [<-h2]⟩
 rw [hpp] at h1
 exact op_of h1
theorem uPow:Tryz.prog.underlying 257=some (.array 20 250):=by kernel_rfl
theorem uu64:Tryz.prog.underlying 250=some (.int .u64):=by kernel_rfl
theorem c1p:Tryz.prog.cellsOf 250=1:=by kernel_rfl
theorem c20:Tryz.prog.cellsOf 257=20:=by kernel_rfl
theorem tPow:(Tryz.prog.globals[4]?).map (·.type)=some 257:=by kernel_rfl
theorem powLaid:(Rows.laid_internal_strconv_uint64pow10:DataW Unit)= .agg (Lib.pow10Tab.map fun z=> .lit (.int .u64 z)):=by rfl
theorem crep_u64 {R:Rd}: ∀zs:List Int,crep R (zs.map fun z=>D.lit (.int .u64 z)) (zs.map fun z=>Value.int .u64 z)
 | []=>trivial
 | z::zs=>⟨by simp [D.rep,Go.Am.one],crep_u64 zs⟩
theorem powRow_of {W:World} {cs:Array Value} {base:Nat} {spare:Nat→Bool} {held:Bool} {fuel:Nat} {p:List MemPlace} (hd:DataW.trod (fun _=>()) Tryz.prog W base spare held fuel 257 cs.toList=some (Rows.laid_internal_strconv_uint64pow10,p)) {R:Rd}:
 crep R (Lib.pow10Tab.map fun z=>D.lit (.int .u64 z)) cs.toList/\cs.toList.length=20:=by
 rw [powLaid] at hd
 obtain ⟨xs,m,hm,hx,hl,hn,hel⟩:=DataW.trod_array uPow hd
 rw [c1p] at hel
 rw [c20] at hl
 have hxs:xs.map (·.1)=Lib.pow10Tab.map fun z=>DataW.lit (.int .u64 z):=by
  simp only [Prod.mk.injEq,DataW.agg.injEq] at hx
  exact hx.1.symm
 have h20:=Lib.pow10Tab_length
 have hcs:cs.toList=Lib.pow10Tab.map fun z=>Value.int .u64 z:=by
  apply List.ext_getElem?
  intro i
  rcases Nat.lt_or_ge i 20 with hi | hi
  ·have h1:=hel i hi
   rw [List.getElem?_eq_getElem (by omega),Nat.mul_one] at h1
   have h2:(xs[i]'(by omega)).1= .lit (.int .u64 (Lib.pow10Tab[i]'(by omega))):=by
    have:=congrArg (fun l=>l[i]?) hxs
    simp only [List.getElem?_map,List.getElem?_eq_getElem (show i<xs.length by omega),List.getElem?_eq_getElem (show i<Lib.pow10Tab.length by omega),Option.map_some,Option.some.injEq] at this
    exact this
   obtain ⟨k,g0,k0,_⟩:=DataW.trod_int uu64 (show _=some (xs[i]'(by omega)) from h1)
   rw [k0] at h2
   simp only [DataW.lit.injEq,Lit.int.injEq,true_and] at h2
   have h3:=congrArg (fun l=>l[0]?) g0
   simp only [List.getElem?_take,List.getElem?_drop,Nat.add_zero,List.getElem?_cons_zero] at h3
   rw [if_pos (by omega)] at h3
   rw [h3,h2,List.getElem?_map,List.getElem?_eq_getElem (show i<Lib.pow10Tab.length by omega)]
   rfl
  ·rw [List.getElem?_eq_none (by omega),List.getElem?_eq_none (by simp;omega)]
 exact ⟨by rw [hcs];exact crep_u64 _,hl⟩
theorem uFms:Tryz.prog.underlying 210=some (.array 11 184):=by kernel_rfl
theorem sFm:j7 Tryz.prog 184 [9,3,9]=true:=by kernel_rfl
theorem c3f:Tryz.prog.cellsOf 184=3:=by kernel_rfl
theorem gFms : Tryz.prog.globalNamed "querylab/algebra.forms" = some 0 := by kernel_rfl
theorem tFms:(Tryz.prog.globals[0]?).map (·.type)=some 210:=by kernel_rfl
def dFm {H:Type} (o:FmD):DataW H:= .agg [.lit (.string o.word.data.toList),.lit (.int .i64 o.kids),.lit (.string o.uses.data.toList)]
theorem laid_fm:(Rows.laid_querylab_algebra_forms:DataW Unit)= .agg (fmTab.map dFm):=by rfl
theorem crep_fms {R:Rd}: ∀(l:List FmD) (cs:List Value),cs.length=l.length * 3->(∀i (hi:i<l.length),crep R (rFm l[i]) ((cs.drop (i * 3)).take 3))->crep R (l.map rFm).flatten cs
 | [],cs,hl,_=>by
   have:cs=[]:=List.eq_nil_of_length_eq_zero (by simpa using hl)
   rw [this];trivial
 | o::l,cs,hl,h=>by
   have h0:=h 0 (by simp)
   match cs,hl with
   | a::b::c::cs,hl=>
     simp at h0
     refine ⟨h0.1,h0.2.1,h0.2.2.1,crep_fms l cs (by simp at hl;omega) fun i hi=>?_⟩
     have:=h (i+1) (by simpa using hi)
     rw [show (i+1) * 3=i * 3+1+1+1 by omega] at this
     simpa only [List.drop_succ_cons,List.getElem_cons_succ] using this
   | [],hl=>simp at hl
   | [_],hl=>simp at hl;omega
   | [_,_],hl=>simp at hl;omega
theorem fm_of {R:Rd} {w:World} {base:Nat} {spare:Nat->Bool} {held:Bool} {fuel:Nat} {cs:List Value} {p:List MemPlace} {o:FmD} (h:DataW.trod (fun _=>()) Tryz.prog w base spare held fuel 184 cs=some (dFm o,p)):crep R (rFm o) cs:=by
 obtain ⟨n,xs,hx,hxl,hl,hf⟩:=qb _ sFm h
 obtain ⟨c0,e0,h0⟩:=hf 0 _ rfl
 obtain ⟨c1,e1,h1⟩:=hf 1 _ rfl
 obtain ⟨c2,e2,h2⟩:=hf 2 _ rfl
 match xs,hxl with
 | [y0,y1,y2],_=>
   simp only [dFm,List.map_cons,List.map_nil,DataW.agg.injEq,List.cons.injEq,and_true] at hx
   obtain ⟨q0,q1,q2⟩:=hx
   obtain ⟨s0,g0,k0,_⟩:=DataW.trod_string ustr (show _=some y0 from h0)
   obtain ⟨m1,g1,k1,_⟩:=DataW.trod_int ui64 (show _=some y1 from h1)
   obtain ⟨s2,g2,k2,_⟩:=DataW.trod_string ustr (show _=some y2 from h2)
   subst k0;subst k1;subst k2
   simp only [DataW.lit.injEq,Lit.string.injEq,Lit.int.injEq,true_and] at q0 q1 q2
   have hs0:s0=o.word:=by
    apply ByteArray.ext
    exact Array.toList_inj.1 q0.symm
   have hs2:s2=o.uses:=by
    apply ByteArray.ext
    exact Array.toList_inj.1 q2.symm
   simp only [List.cons.injEq,and_true] at g0 g1 g2
   subst g0;subst g1;subst g2;subst hs0;subst hs2
   rw [rFm,q1]
   exact crep_3 hl e0 e1 e2 ⟨⟨by simp [D.rep,Go.Am.one],rfl⟩,trivial⟩ ⟨⟨by simp [D.rep,Go.Am.one],rfl⟩,trivial⟩ ⟨⟨by simp [D.rep,Go.Am.one],rfl⟩,trivial⟩
theorem fms_of {W:World} {cs:Array Value} {base:Nat} {spare:Nat->Bool} {held:Bool} {fuel:Nat} {p:List MemPlace} (hd0:DataW.trod (fun _=>()) Tryz.prog W base spare held fuel 210 cs.toList=some (Rows.laid_querylab_algebra_forms,p)) {R:Rd}:
 crep R fmRow cs.toList/\cs.toList.length=33:=by
 rw [laid_fm] at hd0
 obtain ⟨xs,m,hm,hx,hl,hn,hel⟩:=DataW.trod_array uFms hd0
 rw [c3f] at hel
 have hxs:xs.map (·.1)=fmTab.map dFm:=by
  simp only [Prod.mk.injEq,DataW.agg.injEq] at hx
  exact hx.1.symm
 have hcl:cs.toList.length=fmTab.length * 3:=by rw [hl];kernel_rfl
 refine ⟨crep_fms fmTab cs.toList hcl fun i hi=>?_,hcl⟩
 have hi2:i<11:=hi
 have h1:=hel i hi2
 rw [List.getElem?_eq_getElem (by omega)] at h1
 have h2:(xs[i]'(by omega)).1=dFm fmTab[i]:=by
  have:=congrArg (fun l=>l[i]?) hxs
  simp only [List.getElem?_map,List.getElem?_eq_getElem (show i<xs.length by omega),List.getElem?_eq_getElem hi,Option.map_some,Option.some.injEq] at this
  exact this
 obtain ⟨pp,hpp⟩: ∃pp,xs[i]'(by omega)=(dFm fmTab[i],pp):=⟨(xs[i]'(by omega)).2,by rw [<-h2]⟩
 rw [hpp] at h1
 exact fm_of h1
theorem sized_of {W:World} {n:String} {g:Nat} {cs:Array Value} (hg:Tryz.prog.globalNamed n=some g) (h:W.var? Tryz.prog n=some cs):Sized W g cs.size:=by
 simp only [World.var?,hg,Option.bind_some] at h
 split at h
 ·rename_i cs' el fl hc
  cases h
  exact ⟨_,_,_,hc,rfl⟩
 ·cases h
def laidL : List (String × DataW Unit) := [("math/bits.deBruijn32tab", Rows.laid_math_bits_deBruijn32tab), ("math/bits.deBruijn64tab", Rows.laid_math_bits_deBruijn64tab), ("internal/strconv.uint64pow10", Rows.laid_internal_strconv_uint64pow10), ("querylab/value.null", Rows.laid_querylab_value_null), ("querylab/expression.operations", Rows.laid_querylab_expression_operations), ("querylab/algebra.forms", Rows.laid_querylab_algebra_forms)]
theorem tabs_of {W:World} (h:laidMetH Tryz.prog laidL W): ∀g row,Tab.tab g=some row->Go.Am.rowAt (E0 W).R ((E0 W).R g) 0 row/\Sized W g row.length:=by
 rw [MakeChecks.laidMetH_plain _ _ _ (by kernel_rfl)] at h
 obtain ⟨ps,⟨g5,t5,cs5,f5,p5,q5,hg5,ht5,hv5,hd5,⟨g6,t6,cs6,f6,p6,q6,hg6,ht6,hv6,hd6,⟨g3,t3,cs3,f3,p3,q3,hg3,ht3,hv3,hd3,⟨g1,t1,cs1,f1,p1,q1,hg1,ht1,hv1,hd1,⟨g0,t0,cs0,f0,p0,q0,hg0,ht0,hv0,hd0,⟨g7,t7,cs7,f7,p7,q7,hg7,ht7,hv7,hd7,_⟩,_⟩,_⟩,_⟩,_⟩,_⟩,_⟩:=h
 obtain rfl:=Option.some.inj (gOps.symm.trans hg0)
 obtain rfl:=Option.some.inj (tOps.symm.trans ht0)
 obtain rfl:=Option.some.inj (gFms.symm.trans hg7)
 obtain rfl:=Option.some.inj (tFms.symm.trans ht7)
 obtain rfl:=Option.some.inj (gNull.symm.trans hg1)
 obtain rfl:=Option.some.inj (tNull.symm.trans ht1)
 obtain rfl:=Option.some.inj (gPow.symm.trans hg3)
 obtain rfl:=Option.some.inj (tPow.symm.trans ht3)
 have key: ∀{g:Nat} {n:String} {cs:Array Value} {row:List D},Tryz.prog.globalNamed n=some g->W.var? Tryz.prog n=some cs->crep (E0 W).R row cs.toList->cs.toList.length=row.length->Go.Am.rowAt (E0 W).R ((E0 W).R g) 0 row/\Sized W g row.length:=by
  intro g n cs row hg hv hc hl
  refine ⟨crep_rowAt 0 hc fun j u hj=>E0_cell ?_,?_⟩
  ·rw [Nat.zero_add,World.var?_cell hg hv j]
   simpa using hj
  ·have:=sized_of hg hv
   rwa [show cs.size=row.length by simpa using hl] at this
 intro g row hrow
 match g,hrow with
 | 2,h=>cases h;exact key hg0 hv0 (ops_of hd0).1 ((ops_of (R:=(E0 W).R) hd0).2.trans (by kernel_rfl))
 | 3,h=>cases h;exact key hg1 hv1 (null_of hd1) (crep_len (null_of (R:=(E0 W).R) hd1)).symm
 | 4,h=>cases h;exact key hg3 hv3 (powRow_of hd3).1 ((powRow_of (R:=(E0 W).R) hd3).2.trans (by kernel_rfl))
 | 0,h=>cases h;exact key hg7 hv7 (fms_of hd7).1 ((fms_of (R:=(E0 W).R) hd7).2.trans (by kernel_rfl))
end
end Go.Proofs.YtampbaaiddbacaaGreatDoor
