/- Conditions over finite domains (part Wo) -/
import Derived.Test.YtiagabnddihchaaGreatDoorW0
import Derived.Test.YtiagabnddihchaaGreatDoorRows
import Derived.MakeChecks
import Derived.LaidLaws
import Derived.LaidMore
import Derived.Shelf.Vars
set_option maxRecDepth 100000
set_option maxHeartbeats 4000000
set_option linter.all false
namespace Go.Proofs.YtiagabnddihchaaGreatDoor
section
open Go.Am
theorem ui64:Tryz.prog.underlying 3=some (.int .i64):=by kernel_rfl
theorem uint64:Tryz.prog.underlying 2=some (.int .i64):=by kernel_rfl
theorem ustr:Tryz.prog.underlying 9=some .string:=by kernel_rfl
theorem uboo:Tryz.prog.underlying 4=some .bool:=by kernel_rfl
theorem uVals:Tryz.prog.underlying 32=some (.slice 53):=by kernel_rfl
theorem uRows:Tryz.prog.underlying 25=some (.slice 32):=by kernel_rfl
theorem uExs:Tryz.prog.underlying 27=some (.slice 29):=by kernel_rfl
theorem c3v:Tryz.prog.cellsOf 53=3:=by kernel_rfl
theorem c1vs:Tryz.prog.cellsOf 32=1:=by kernel_rfl
theorem c6e:Tryz.prog.cellsOf 29=6:=by kernel_rfl
theorem sVal:wD Tryz.prog 53 [3,2,9]=true:=by kernel_rfl
theorem sEx:wD Tryz.prog 29 [3,3,2,9,3,27]=true:=by kernel_rfl
section
variable {H:Type} {enc:TypeId×Value->H} {w:World} {base:Nat} {spare:Nat->Bool} {held:Bool} {fuel:Nat} {cs:List Value} {x:DataW H×List MemPlace}
theorem rd_val (h:DataW.trod enc Tryz.prog w base spare held fuel 53 cs=some x): ∃v:Val,crep (E0 w).R (rV v) cs:=by
 obtain ⟨n,_,hl,hf⟩:=rd_structT _ sVal h
 obtain ⟨c0,y0,e0,h0⟩:=hf 0 _ rfl
 obtain ⟨c1,y1,e1,h1⟩:=hf 1 _ rfl
 obtain ⟨c2,y2,e2,h2⟩:=hf 2 _ rfl
 obtain ⟨a,_,r0⟩:=rd_int (R:=(E0 w).R) ui64 h0
 obtain ⟨b,_,r1⟩:=rd_int (R:=(E0 w).R) uint64 h1
 obtain ⟨s,r2⟩:=rd_str (R:=(E0 w).R) ustr h2
 exact ⟨⟨a,b,s⟩,crep_3 hl e0 e1 e2 r0 r1 r2⟩
theorem rd_row (h:DataW.trod enc Tryz.prog w base spare held fuel 32 cs=some x): ∃l:Row,crep (E0 w).R (rRow l) cs:=
 rd_slice rV uVals c3v (by decide) h fun n cs' y _ hy=>rd_val hy
theorem rd_ex: ∀(fuel:Nat) (cs:List Value) (x:DataW H×List MemPlace),DataW.trod enc Tryz.prog w base spare held fuel 29 cs=some x-> ∃e:Ex,crep (E0 w).R (rE e) cs:=by
 intro fuel
 induction fuel using Nat.strongRecOn with
 | ind fuel ih=>
   intro cs x h
   obtain ⟨n,hn,hl,hf⟩:=rd_structT _ sEx h
   obtain ⟨c0,y0,e0,h0⟩:=hf 0 _ rfl
   obtain ⟨c1,y1,e1,h1⟩:=hf 1 _ rfl
   obtain ⟨c2,y2,e2,h2⟩:=hf 2 _ rfl
   obtain ⟨c3,y3,e3,h3⟩:=hf 3 _ rfl
   obtain ⟨c4,y4,e4,h4⟩:=hf 4 _ rfl
   obtain ⟨c5,y5,e5,h5⟩:=hf 5 _ rfl
   obtain ⟨a0,_,r0⟩:=rd_int (R:=(E0 w).R) ui64 h0
   obtain ⟨a1,_,r1⟩:=rd_int (R:=(E0 w).R) ui64 h1
   obtain ⟨a2,_,r2⟩:=rd_int (R:=(E0 w).R) uint64 h2
   obtain ⟨a3,r3⟩:=rd_str (R:=(E0 w).R) ustr h3
   obtain ⟨a4,_,r4⟩:=rd_int (R:=(E0 w).R) ui64 h4
   obtain ⟨ks,r5⟩:=rd_slice rE uExs c6e (by decide) h5 fun m cs' y hm hy=>ih m (by omega) cs' y hy
   have hx:rE (.mk a0 a1 a2 a3 a4 ks)=[.lit (.int .i64 a0),.lit (.int .i64 a1),.lit (.int .i64 a2),.lit (.string a3),.lit (.int .i64 a4),.sl 6 (zg rE ks)]:=by rw [yI];rfl
   exact ⟨.mk a0 a1 a2 a3 a4 ks,by rw [hx];exact crep_6 hl e0 e1 e2 e3 e4 e5 r0 r1 r2 r3 r4 r5⟩
end
end
section
open Go.Am
theorem uOps:Tryz.prog.underlying 128=some (.array 29 107):=by kernel_rfl
theorem sOp:wD Tryz.prog 107 [9,3,3,3]=true:=by kernel_rfl
theorem c4o:Tryz.prog.cellsOf 107=4:=by kernel_rfl
theorem gOps : Tryz.prog.globalNamed "querylab/expression.operations" = some 0 := by kernel_rfl
theorem tOps:(Tryz.prog.globals[0]?).map (·.type)=some 128:=by kernel_rfl
def dOp {H:Type} (o:OpD):DataW H:= .agg [.lit (.string o.word.data.toList),.lit (.int .i64 o.kids),.lit (.int .i64 o.types),.lit (.int .i64 o.own)]
theorem laid_eq:(Rows.laid_querylab_expression_operations:DataW Unit)= .agg (opTab.map dOp):=by rfl
theorem crep_ops {R:Rd}: ∀(l:List OpD) (cs:List Value),cs.length=l.length * 4->(∀i (hi:i<l.length),crep R (rOp l[i]) ((cs.drop (i * 4)).take 4))->crep R (l.map rOp).flatten cs
 | [],cs,hl,_=>by
   have:cs=[]:=List.eq_nil_of_length_eq_zero (by simpa using hl)
   rw [this];trivial
 | o::l,cs,hl,h=>by
   have h0:=h 0 (by simp)
   match cs,hl with
   | a::b::c::d::cs,hl=>
     simp at h0
     refine ⟨h0.1,h0.2.1,h0.2.2.1,h0.2.2.2.1,crep_ops l cs (by simp at hl;omega) fun i hi=>?_⟩
     have:=h (i+1) (by simpa using hi)
     rw [show (i+1) * 4=i * 4+1+1+1+1 by omega] at this
     simpa only [List.drop_succ_cons,List.getElem_cons_succ] using this
   | [],hl=>simp at hl
   | [_],hl=>simp at hl;omega
   | [_,_],hl=>simp at hl;omega
   | [_,_,_],hl=>simp at hl;omega
theorem rd_structX {H:Type} {enc:TypeId×Value->H} {P:Program} {w:World} {base:Nat} {spare:Nat->Bool} {held:Bool} {t:TypeId} {fuel:Nat} {cs:List Value} {x:DataW H×List MemPlace} (tys:List TypeId)
 (hs:wD P t tys=true) (h:DataW.trod enc P w base spare held fuel t cs=some x): ∃(n:Nat) (xs:List (DataW H×List MemPlace)),x.1= .agg (xs.map (·.1))/\xs.length=tys.length/\cs.length=tys.length/\ ∀(i:Nat) (u:TypeId),tys[i]? =some u-> ∃c,cs[i]? =some c/\DataW.trod enc P w base spare held n u [c]=xs[i]? :=by
 unfold wD at hs
 split at hs
 ·rename_i fs hu
  simp only [Bool.and_eq_true,beq_iff_eq] at hs
  obtain ⟨⟨h1,h2⟩,h3⟩:=hs
  obtain ⟨xs,n,hn,hx,hl,hxl,hf⟩:=DataW.trod_struct hu h
  rw [h2] at hl
  refine ⟨n,xs,by rw [hx],by rw [hxl,<-h1];simp,by rw [hl,<-h1];simp,fun i u hi=>?_⟩
  rw [<-h1,List.getElem?_map,Option.map_eq_some_iff] at hi
  obtain ⟨f,hf1,rfl⟩:=hi
  have hf2:fs[i]? =some f:=by simpa using hf1
  have hlt:i<fs.size:=(Array.getElem?_eq_some_iff.1 hf2).1
  have g1:=List.all_eq_true.1 h3 i (by simpa using hlt)
  rw [hf2] at g1
  simp only [Bool.and_eq_true,beq_iff_eq] at g1
  have g2:=hf i f hf2
  rw [g1.1,g1.2,List.drop_eq_getElem_cons (by omega),List.take_succ_cons,List.take_zero] at g2
  exact ⟨cs[i],List.getElem?_eq_getElem (by omega),g2⟩
 ·cases hs
theorem crep_4 {R:Rd} {a b c d:D} {c0 c1 c2 c3:Value} {cs:List Value} (hl:cs.length=4) (e0:cs[0]? =some c0) (e1:cs[1]? =some c1) (e2:cs[2]? =some c2) (e3:cs[3]? =some c3) (r0:crep R [a] [c0]) (r1:crep R [b] [c1]) (r2:crep R [c] [c2]) (r3:crep R [d] [c3]):crep R [a,b,c,d] cs:=by
 match cs,hl with
 | [x,y,z,u],_=>simp at e0 e1 e2 e3;subst e0;subst e1;subst e2;subst e3;exact ⟨r0.1,r1.1,r2.1,r3.1,trivial⟩
theorem op_of {R:Rd} {w:World} {base:Nat} {spare:Nat->Bool} {held:Bool} {fuel:Nat} {cs:List Value} {p:List MemPlace} {o:OpD} (h:DataW.trod (fun _=>()) Tryz.prog w base spare held fuel 107 cs=some (dOp o,p)):crep R (rOp o) cs:=by
 obtain ⟨n,xs,hx,hxl,hl,hf⟩:=rd_structX _ sOp h
 obtain ⟨c0,e0,h0⟩:=hf 0 _ rfl
 obtain ⟨c1,e1,h1⟩:=hf 1 _ rfl
 obtain ⟨c2,e2,h2⟩:=hf 2 _ rfl
 obtain ⟨c3,e3,h3⟩:=hf 3 _ rfl
 match xs,hxl with
 | [y0,y1,y2,y3],_=>
   simp only [dOp,List.map_cons,List.map_nil,DataW.agg.injEq,List.cons.injEq,and_true] at hx
   obtain ⟨q0,q1,q2,q3⟩:=hx
   obtain ⟨s,g0,k0,_⟩:=DataW.trod_string ustr (show _=some y0 from h0)
   obtain ⟨m1,g1,k1,_⟩:=DataW.trod_int ui64 (show _=some y1 from h1)
   obtain ⟨m2,g2,k2,_⟩:=DataW.trod_int ui64 (show _=some y2 from h2)
   obtain ⟨m3,g3,k3,_⟩:=DataW.trod_int ui64 (show _=some y3 from h3)
   subst k0;subst k1;subst k2;subst k3
   simp only [DataW.lit.injEq,Lit.string.injEq,Lit.int.injEq,true_and] at q0 q1 q2 q3
   have hs:s=o.word:=by
    apply ByteArray.ext
    exact Array.toList_inj.1 q0.symm
   simp only [List.cons.injEq,and_true] at g0 g1 g2 g3
   subst g0;subst g1;subst g2;subst g3;subst hs
   rw [rOp,q1,q2,q3]
   exact crep_4 hl e0 e1 e2 e3 ⟨⟨by simp [D.rep,Go.Am.one],rfl⟩,trivial⟩ ⟨⟨by simp [D.rep,Go.Am.one],rfl⟩,trivial⟩ ⟨⟨by simp [D.rep,Go.Am.one],rfl⟩,trivial⟩ ⟨⟨by simp [D.rep,Go.Am.one],rfl⟩,trivial⟩
theorem gNull : Tryz.prog.globalNamed "querylab/value.null" = some 1 := by kernel_rfl
theorem tNull:(Tryz.prog.globals[1]?).map (·.type)=some 53:=by kernel_rfl
def nullRow:List D:=[.lit (.int .i64 0),.lit (.int .i64 0),.lit (.string ⟨#[]⟩)]
theorem null_of {R:Rd} {w:World} {base:Nat} {spare:Nat->Bool} {held:Bool} {fuel:Nat} {cs:List Value} {p:List MemPlace} (h:DataW.trod (fun _=>()) Tryz.prog w base spare held fuel 53 cs=some (Rows.laid_querylab_value_null,p)):crep R nullRow cs:=by
 obtain ⟨n,xs,hx,hxl,hl,hf⟩:=rd_structX _ sVal h
 obtain ⟨c0,e0,h0⟩:=hf 0 _ rfl
 obtain ⟨c1,e1,h1⟩:=hf 1 _ rfl
 obtain ⟨c2,e2,h2⟩:=hf 2 _ rfl
 match xs,hxl with
 | [y0,y1,y2],_=>
   simp only [Rows.laid_querylab_value_null,List.map_cons,List.map_nil,DataW.agg.injEq,List.cons.injEq,and_true] at hx
   obtain ⟨q0,q1,q2⟩:=hx
   obtain ⟨m0,g0,k0,_⟩:=DataW.trod_int ui64 (show _=some y0 from h0)
   obtain ⟨m1,g1,k1,_⟩:=DataW.trod_int uint64 (show _=some y1 from h1)
   obtain ⟨s,g2,k2,_⟩:=DataW.trod_string ustr (show _=some y2 from h2)
   subst k0;subst k1;subst k2
   simp only [DataW.lit.injEq,Lit.string.injEq,Lit.int.injEq,true_and] at q0 q1 q2
   have hs:s=⟨#[]⟩:=by
    apply ByteArray.ext
    exact Array.toList_inj.1 q2.symm
   simp only [List.cons.injEq,and_true] at g0 g1 g2
   subst g0;subst g1;subst g2;subst hs;subst q0;subst q1
   exact crep_3 hl e0 e1 e2 ⟨⟨by simp [D.rep,Go.Am.one],rfl⟩,trivial⟩ ⟨⟨by simp [D.rep,Go.Am.one],rfl⟩,trivial⟩ ⟨⟨by simp [D.rep,Go.Am.one],rfl⟩,trivial⟩
theorem crep_len {R:Rd}: ∀{row:List D} {cs:List Value},crep R row cs->row.length=cs.length
 | [],[],_=>rfl
 | _::_,_::_,h=>by simp only [List.length_cons];rw [crep_len h.2]
theorem ops_of {W:World} {cs:Array Value} {base:Nat} {spare:Nat->Bool} {held:Bool} {fuel:Nat} {p:List MemPlace} (hd0:DataW.trod (fun _=>()) Tryz.prog W base spare held fuel 128 cs.toList=some (Rows.laid_querylab_expression_operations,p)) {R:Rd}:
 crep R opRow cs.toList/\cs.toList.length=116:=by
 rw [laid_eq] at hd0
 obtain ⟨xs,m,hm,hx,hl,hn,hel⟩:=DataW.trod_array uOps hd0
 rw [c4o] at hel
 have hxs:xs.map (·.1)=opTab.map dOp:=by
  simp only [Prod.mk.injEq,DataW.agg.injEq] at hx
  exact hx.1.symm
 have hcl:cs.toList.length=opTab.length * 4:=by rw [hl];kernel_rfl
 refine ⟨crep_ops opTab cs.toList hcl fun i hi=>?_,hcl⟩
 have hi2:i<29:=hi
 have h1:=hel i hi2
 rw [List.getElem?_eq_getElem (by omega)] at h1
 have h2:(xs[i]'(by omega)).1=dOp opTab[i]:=by
  have:=congrArg (fun l=>l[i]?) hxs
  simp only [List.getElem?_map,List.getElem?_eq_getElem (show i<xs.length by omega),List.getElem?_eq_getElem hi,Option.map_some,Option.some.injEq] at this
  exact this
 obtain ⟨pp,hpp⟩: ∃pp,xs[i]'(by omega)=(dOp opTab[i],pp):=⟨(xs[i]'(by omega)).2,by rw [<-h2]⟩
 rw [hpp] at h1
 exact op_of h1
theorem sized_of {W:World} {n:String} {g:Nat} {cs:Array Value} (hg:Tryz.prog.globalNamed n=some g) (h:W.var? Tryz.prog n=some cs):Sized W g cs.size:=by
 simp only [World.var?,hg,Option.bind_some] at h
 split at h
 ·rename_i cs' el fl hc
  cases h
  exact ⟨_,_,_,hc,rfl⟩
 ·cases h
def laidL : List (String × DataW Unit) := [("querylab/value.null", Rows.laid_querylab_value_null), ("querylab/expression.operations", Rows.laid_querylab_expression_operations)]
theorem tabs_of {W:World} (h:laidMetH Tryz.prog laidL W): ∀g row,Tab.tab g=some row->Go.Am.rowAt (E0 W).R ((E0 W).R g) 0 row/\Sized W g row.length:=by
 rw [MakeChecks.laidMetH_plain _ _ _ (by kernel_rfl)] at h
 obtain ⟨ps,⟨g0,t0,cs0,f0,p0,q0,hg0,ht0,hv0,hd0,⟨g1,t1,cs1,f1,p1,q1,hg1,ht1,hv1,hd1,_⟩,_⟩,_⟩:=h
 obtain rfl:=Option.some.inj (gNull.symm.trans hg0)
 obtain rfl:=Option.some.inj (tNull.symm.trans ht0)
 obtain rfl:=Option.some.inj (gOps.symm.trans hg1)
 obtain rfl:=Option.some.inj (tOps.symm.trans ht1)
 have key: ∀{g:Nat} {n:String} {cs:Array Value} {row:List D},Tryz.prog.globalNamed n=some g->W.var? Tryz.prog n=some cs->crep (E0 W).R row cs.toList->cs.toList.length=row.length->Go.Am.rowAt (E0 W).R ((E0 W).R g) 0 row/\Sized W g row.length:=by
  intro g n cs row hg hv hc hl
  refine ⟨kk 0 hc fun j u hj=>E0_cell ?_,?_⟩
  ·rw [Nat.zero_add,World.var?_cell hg hv j]
   simpa using hj
  ·have:=sized_of hg hv
   rwa [show cs.size=row.length by simpa using hl] at this
 intro g row hrow
 match g,hrow with
 | 0,h=>cases h;exact key hg1 hv1 (ops_of hd1).1 ((ops_of (R:=(E0 W).R) hd1).2.trans (by kernel_rfl))
 | 1,h=>cases h;exact key hg0 hv0 (null_of hd0) (crep_len (null_of (R:=(E0 W).R) hd0)).symm
 | g+2,h=>cases h
end
end Go.Proofs.YtiagabnddihchaaGreatDoor
