/- Conditions over finite domains (part Ld) -/
import Derived.Test.YtiagabnddihchaaGreatDoorLc
import Derived.WalkKit
import Derived.ProofKit
import Derived.OpenShut
import Derived.JoinedCond
import Derived.Carry
set_option linter.all false
namespace Go.Am
section
variable [T:Tab]
open Go.ChangeShapes Go.WideShapes Go.ChangeAt Go.RowKit
def E0 (w:World):Env:=ze (fun _ _=>False) (fun _=>none) (lookO []) w
theorem E0_cell {w:World} {b i:Nat} {v:Value} (h:w.cell? ⟨b,i,none⟩=some v):(E0 w).R b i v:=by
 refine ⟨fun h=>h,?_,h⟩
 rintro ⟨o,ob,_,h2,_⟩
 cases h2
theorem repL_mk0 {E:Env}:repL E [] []:=by simp [repL]
theorem k7 {E:Env} {a:A} {v:Value} {as:List A} {vs:List Value} (h:a.rep E v) (hs:repL E as vs):repL E (a::as) (v::vs):=by
 simp only [repL]
 exact ⟨v,vs,rfl,h,hs⟩
theorem E0_rel (w:World) (ht: ∀g row,T.tab g=some row->rowAt (E0 w).R ((E0 w).R g) 0 row) (hg: ∀g∈T.ints,∃m,(E0 w).R g 0 (.int .i64 m)) (hz: ∀g row,T.tab g=some row->Sized w g row.length):Rel ⟨w,fun _ _=>False,Xh (fun _=>none) (lookO []),fun _=>none,lookO []⟩ (fun _=>none) (lookO []) w where
 dom:=fun o=>rfl
 obj:=fun o ob bo h=>by simp [lookO] at h
 inj:=fun o o' b h=>by cases h
 out:=fun o b i h=>by cases h
 bnd:=fun b i h=>h.elim
 ev:=Ev.refl _ _
 own:=fun b i h=>by obtain ⟨o,ob,_,h2,_⟩:=h;cases h2
 ent:=fun o ob h=>by simp [lookO] at h
 big:=fun o h=>by simp [lookO] at h
 tab:=ht
 gi:=hg
 tsz:=hz
theorem ACall.run {P:Program} {f:FuncId} {as:List A} {u:Value} {w:World} {vs:List Value} (ac:ACall P f as [] (.d (.lit u)) []) (ht: ∀g row,T.tab g=some row->rowAt (E0 w).R ((E0 w).R g) 0 row) (hg: ∀g∈T.ints,∃m,(E0 w).R g 0 (.int .i64 m)) (hz: ∀g row,T.tab g=some row->Sized w g row.length) (hr:repL (E0 w) as vs):
 Calls P f vs.toArray w fun e w'=>e= .returned u/\Below w.heap.size w w':=by
 refine (ac.calls (fun _ _=>False) (fun _=>none) w vs (E0_rel w ht hg hz) hr).mono fun e w' ⟨v,β',he,rel,hv⟩=>?_
 have hv':v=u:=by
  simp only [A.rep,D.rep] at hv
  exact hv.1
 subst hv'
 exact ⟨he,rel.ev.below fun b i h=>by obtain ⟨o,ob,_,h2,_⟩:=h;cases h2⟩
section
variable {H:Type} {enc:TypeId×Value->H} {P:Program} {w:World} {base b0:Nat} {spare:Nat->Bool} {held:Bool} {t e:TypeId} {v:Value} {d:DataW H} {ps:List MemPlace}
theorem open_sl {k:IntKind} {r:Reach} (ht:P.underlying t=some (.slice e)) (he:P.underlying e=some (.int k)) (hc:P.cellsOf e=1) (hval:Value.okWide P w r b0 t v) (h:DataW.Trod enc P w base spare held t v d ps):
 ∃xs:List Int,(∀x∈xs,(Lit.int k x).wf=true)/\(A.d (.sl 1 (zg (fun n=>[D.lit (.int k n)]) xs))).rep (E0 w) v/\(d= .nil/\xs=[]\/ ∃rest,d= .slice (lits k xs) rest):=by
 obtain ⟨a0,len,cap,rfl⟩:=okWide_slice ht hval
 obtain ⟨fuel,hf⟩:=h
 rcases open_ints ht he hc hf with ⟨hcs,hx⟩ | ⟨a,len',cap',zs,hcs,_,hl,hm,hz,hx,hcell,hwz⟩
 ·simp [Value.cells] at hcs
  obtain ⟨rfl,rfl,rfl⟩:=hcs
  refine ⟨[],by simp,?_,.inl ⟨(Prod.mk.injEq .. ▸ hx).1,rfl⟩⟩
  simp only [A.rep,D.rep]
  exact ⟨none,0,rfl,Nat.le_refl _,fun _=>⟨rfl,rfl⟩,fun a' h=>by cases h⟩
 ·simp [Value.cells] at hcs
  obtain ⟨rfl,rfl,rfl⟩:=hcs
  have hlen:len<=zs.length:=by rw [hz];split<;>omega
  have hlt:(zs.take len).length=len:=by simp;omega
  refine ⟨zs.take len,fun x hx=>hwz x (List.mem_of_mem_take hx),?_,.inr ⟨_,by rw [Prod.mk.injEq] at hx;exact hx.1⟩⟩
  have hspot:a.spot=none:=by
   have hv:Cell.ok P w r b0 t (.slice (some a) len cap):=by
    simpa [Value.okWide,ht,Cell.okWide] using hval
   simp only [Cell.ok,ht] at hv
   exact hv.2.2.2.1
  simp only [A.rep,D.rep]
  refine ⟨some a,cap,by rw [zc,hlt],by rw [zc,hlt];exact hl,(fun h=>by cases h),fun a' ha'=>?_⟩
  cases ha'
  refine ⟨fun _=>hspot,?_⟩
  have key: ∀(ys:List Int) (k0:Nat),(∀j,j<ys.length->w.cell? ⟨a.block,k0+j,none⟩=some (.int k (ys.getD j 0)))->rowsAt (E0 w).R ((E0 w).R a.block) 1 k0 (zg (fun n=>[D.lit (.int k n)]) ys):=by
   intro ys
   induction ys with
   | nil=>intro k0 _;simp [zg,rowsAt]
   | cons y ys ih=>
     intro k0 hj
     rw [zo]
     simp only [rowsAt]
     refine ⟨rfl,?_,ih (k0+1) fun j h=>?_⟩
     ·simp only [rowAt]
      exact ⟨⟨.int k y,E0_cell (by simpa using hj 0 (by simp)),by simp [D.rep,one]⟩,trivial⟩
     ·have:=hj (j+1) (by simpa using h)
      rw [show k0+1+j=k0+(j+1) by omega,this]
      simp
  refine key _ _ fun j hj=>?_
  have:=hcell j (by omega)
  rw [add_mk hspot] at this
  rw [this]
  congr 2
  simp only [List.getD_eq_getElem?_getD]
  rw [List.getElem?_take_of_lt (by omega)]
theorem jH (hl:laidOutB P=true) {W W':World} (hb:Below W.heap.size W W'): ∀{ts:List TypeId} {vs:List Value} {ds:List (DataW H)} {ps:List MemPlace},(ts.all fun t=>P.readableRec t&&decide (t<P.types.size))=true->
 DataW.TrodAll enc P W 0 (fun _=>true) true ts vs ds ps->(∀x∈ps,x.block<W.heap.size)->DataW.TrodAll enc P W' 0 (fun b=>decide (b<W.heap.size)) true ts vs ds ps
 | [],[],[],_,_,h,_=>h
 | _::_,_::_,_::_,_,hT,⟨p,q,h1,h2,e⟩,hs=>by
   simp only [List.all_cons,Bool.and_eq_true,decide_eq_true_eq] at hT
   exact ⟨p,q,Below.trod hl hT.1.1 hT.1.2 h1 hb (fun x hx=>hs x (by rw [e];exact List.mem_append_left _ hx)),
    jH hl hb hT.2 h2 (fun x hx=>hs x (by rw [e];exact List.mem_append_right _ hx)),e⟩
theorem post_true {f:Func} {s:ChangeSpec} {W W':World} {args:Array Value} {ds gs:List (DataW H)} {before:List MemPlace} {tB:TypeId} (hW:DataW.Whole enc P f.params.toList s.vars false W args.toList ds gs before)
 (hsv:s.vars=[]) (hl:laidOutB P=true) (hr:(f.params.toList.all fun t=>P.readableRec t&&decide (t<P.types.size))=true) (hT:f.resultTypes= #[tB]) (hB:P.underlying tB=some .bool)
 (hs:s.fn H ds={results:=[.lit (.bool true)],args:=ds}) (hb:Below W.heap.size W W'):s.post enc P f false true false false W args (.bool true) W':=by
 have hW':=hW
 obtain ⟨p,q,hA,hV,rfl,_,_⟩:=hW
 rw [hsv] at hV
 obtain ⟨rfl,rfl⟩:=trodVars_none hV
 have hlt: ∀x∈p,x.block<W.heap.size:=fun x hx=>hW'.lt x (by simp [hx])
 refine ⟨ds,[],p++[],[],p,[],hW',?_,?_,?_,hb.frame _,fun h=>by cases h⟩
 ·rw [List.append_nil,hs,hT]
  exact trodAll_mk1 (shut_bool hB _)
 ·rw [List.append_nil,hs]
  exact jH hl hb hr hA hlt
 ·rw [List.append_nil,hs,hsv]
  rfl
end
end
section
variable [T:Tab]
theorem zb:type_of% (And.intro @ev_skip<| And.intro @ev_label<| And.intro @ev_ret<| And.intro @ev_exit<| And.intro @ev_seq<| And.intro @ev_cond<| And.intro @ev_block<| And.intro @ev_scope<| And.intro @ev_reg<| And.intro @ev_loop<| And.intro @ev_range<| And.intro @seqK_normal<| And.intro @seqK_ret<| And.intro @seqK_exit<| And.intro @blkK_normal<| And.intro @blkK_ret<| And.intro @blkK_exit<| And.intro @scoK_normal<| And.intro @scoK_ret<| And.intro @scoK_exit<| And.intro @loopK_ret<| And.intro @loopK_exit<| And.intro @bodyK_ret<| And.intro @kU<| And.intro @rgn_end_f<| And.intro @rgn_end_t<| And.intro @rgn_step<| And.intro @skg_some<| And.intro @skg_none<| And.intro @gk_none<| And.intro @gk_some<| And.intro @gkS_some<| And.intro @gkV_bool<| And.intro @gkV_tup<| And.intro @gsel_never<| And.intro @gslot_eq<| And.intro @bind_dst<| And.intro @gsel_free<| And.intro @gsel_tt<| And.intro @gsel_ff<| And.intro @gsel_tf<| And.intro @gsel_ft<| And.intro @gsel_t<| And.intro @gsel_f<| And.intro @setB_eq<| And.intro @yg<| And.intro @vX<| And.intro @condx_bool<| And.intro @condx_bx<| And.intro @g_move<| And.intro @g_assign<| And.intro @g_pick<| And.intro @g_alloc<| And.intro @g_box<| And.intro @g_build<| And.intro @kF<| And.intro @g_load<| And.intro @g_store<| And.intro @g_nilCheck<| And.intro @g_binOp<| And.intro @g_unOp<| And.intro @g_convert<| And.intro @g_makeFunc<| And.intro @g_makeSlice<| And.intro @g_slice<| And.intro @g_slice3<| And.intro @g_fieldAddr<| And.intro @g_field<| And.intro @g_indexAddr<| And.intro @g_index<| And.intro @g_extract<| And.intro @g_builtin<| And.intro @g_call<| And.intro @g_makeMap<| And.intro @g_mapUpdate<| And.intro @g_insert<| And.intro @g_entry<| And.intro @nextx_text<| And.intro @g_lookup<| And.intro @g_range<| And.intro @g_next<| And.intro @evL_global<| And.intro @oc_map<| And.intro @o1_map<| And.intro @idx_vs<| And.intro @evL_tmp<| And.intro @evL_const<| And.intro @evL_func<| And.intro @oc_int<| And.intro @oc_bool<| And.intro @oc_string<| And.intro @oc_nil<| And.intro @oc_ptr<| And.intro @o1_int<| And.intro @o1_bool<| And.intro @o1_string<| And.intro @o1_nil<| And.intro @o1_ptr<| And.intro @lookO_eq<| And.intro @evP_nil<| And.intro @evP_cons<| And.intro @evLs_nil<| And.intro @evLs_cons<| And.intro @evM_none<| And.intro @evM_some<| And.intro @eidx_int<| And.intro @extr_0<| And.intro @extr_1<| And.intro @extr_2<| And.intro @epick_t<| And.intro @epick_f<| And.intro @epick_b<| And.intro @x_idx<| And.intro @x_idxc<| And.intro @x_loadV<| And.intro @load_ptr<| And.intro @load_d<| And.intro @load_v<| And.intro @idx_K<| And.intro @idx_sl<| And.intro @idx_csl<| And.intro @idx_vec<| And.intro @idx_sub<| And.intro @x_pure<| And.intro @x_ok1<| And.intro @x_ok1n<| And.intro @x_ps<| And.intro @x_pn<| And.intro @x_us<| And.intro @x_un<| And.intro @upd_nil<| And.intro @upd_1<| And.intro @upd_cons<| And.intro @resA_arr<| And.intro @resA_0<| And.intro @resA_c<| And.intro @resA_1<| And.intro @resA_two<| And.intro @resA_three<| And.intro @res1_tmp<| @res1_cell):=
 And.intro @ev_skip<| And.intro @ev_label<| And.intro @ev_ret<| And.intro @ev_exit<| And.intro @ev_seq<| And.intro @ev_cond<| And.intro @ev_block<| And.intro @ev_scope<| And.intro @ev_reg<| And.intro @ev_loop<| And.intro @ev_range<| And.intro @seqK_normal<| And.intro @seqK_ret<| And.intro @seqK_exit<| And.intro @blkK_normal<| And.intro @blkK_ret<| And.intro @blkK_exit<| And.intro @scoK_normal<| And.intro @scoK_ret<| And.intro @scoK_exit<| And.intro @loopK_ret<| And.intro @loopK_exit<| And.intro @bodyK_ret<| And.intro @kU<| And.intro @rgn_end_f<| And.intro @rgn_end_t<| And.intro @rgn_step<| And.intro @skg_some<| And.intro @skg_none<| And.intro @gk_none<| And.intro @gk_some<| And.intro @gkS_some<| And.intro @gkV_bool<| And.intro @gkV_tup<| And.intro @gsel_never<| And.intro @gslot_eq<| And.intro @bind_dst<| And.intro @gsel_free<| And.intro @gsel_tt<| And.intro @gsel_ff<| And.intro @gsel_tf<| And.intro @gsel_ft<| And.intro @gsel_t<| And.intro @gsel_f<| And.intro @setB_eq<| And.intro @yg<| And.intro @vX<| And.intro @condx_bool<| And.intro @condx_bx<| And.intro @g_move<| And.intro @g_assign<| And.intro @g_pick<| And.intro @g_alloc<| And.intro @g_box<| And.intro @g_build<| And.intro @kF<| And.intro @g_load<| And.intro @g_store<| And.intro @g_nilCheck<| And.intro @g_binOp<| And.intro @g_unOp<| And.intro @g_convert<| And.intro @g_makeFunc<| And.intro @g_makeSlice<| And.intro @g_slice<| And.intro @g_slice3<| And.intro @g_fieldAddr<| And.intro @g_field<| And.intro @g_indexAddr<| And.intro @g_index<| And.intro @g_extract<| And.intro @g_builtin<| And.intro @g_call<| And.intro @g_makeMap<| And.intro @g_mapUpdate<| And.intro @g_insert<| And.intro @g_entry<| And.intro @nextx_text<| And.intro @g_lookup<| And.intro @g_range<| And.intro @g_next<| And.intro @evL_global<| And.intro @oc_map<| And.intro @o1_map<| And.intro @idx_vs<| And.intro @evL_tmp<| And.intro @evL_const<| And.intro @evL_func<| And.intro @oc_int<| And.intro @oc_bool<| And.intro @oc_string<| And.intro @oc_nil<| And.intro @oc_ptr<| And.intro @o1_int<| And.intro @o1_bool<| And.intro @o1_string<| And.intro @o1_nil<| And.intro @o1_ptr<| And.intro @lookO_eq<| And.intro @evP_nil<| And.intro @evP_cons<| And.intro @evLs_nil<| And.intro @evLs_cons<| And.intro @evM_none<| And.intro @evM_some<| And.intro @eidx_int<| And.intro @extr_0<| And.intro @extr_1<| And.intro @extr_2<| And.intro @epick_t<| And.intro @epick_f<| And.intro @epick_b<| And.intro @x_idx<| And.intro @x_idxc<| And.intro @x_loadV<| And.intro @load_ptr<| And.intro @load_d<| And.intro @load_v<| And.intro @idx_K<| And.intro @idx_sl<| And.intro @idx_csl<| And.intro @idx_vec<| And.intro @idx_sub<| And.intro @x_pure<| And.intro @x_ok1<| And.intro @x_ok1n<| And.intro @x_ps<| And.intro @x_pn<| And.intro @x_us<| And.intro @x_un<| And.intro @upd_nil<| And.intro @upd_1<| And.intro @upd_cons<| And.intro @resA_arr<| And.intro @resA_0<| And.intro @resA_c<| And.intro @resA_1<| And.intro @resA_two<| And.intro @resA_three<| And.intro @res1_tmp<| @res1_cell
attribute [push_cast] stPut_none stDel_none lookT lookO wN jh vC xQ loadP loadVo loadR loadD
attribute [push_cast] loadV_cons wK jg ji effUn wM j9 vO xG yM vA idxK
attribute [push_cast] idxA idx_V idx_U vB uG kz resC res2 res3 pickAt strsA intsA
attribute [push_cast] zl rI rV rC rF rT rIs yI ex_eta rowsI_snoc rowsIs_snoc rowsV_snoc
attribute [push_cast] rowsC_snoc rowsF_snoc rowsT_snoc rowsE_snoc zc rowsOf_take rowsOf_drop v8 xx xR yD vH
attribute [push_cast] kM uu bag_bind wo xS wL vg kL uv um ul hasN mgot yJ
attribute [push_cast] xy kh wp effEq intBin strBin nilA jT jO eqA eqFs j7
attribute [push_cast] xm TI.isAgg A.cells A.storable A.isOne Go.Am.splice frzL frz jN fillA jS zrow
attribute [push_cast] zcell srcA kW wW bnd xE ok1 upds put epick extr pickA
attribute [push_cast] yz oc_agg one List.getElem?_cons_zero List.getElem?_cons_succ List.getElem?_nil List.map_cons List.map_nil List.length_cons List.length_nil List.take_succ_cons List.take_zero
attribute [push_cast] List.take_nil List.drop_succ_cons List.drop_zero List.drop_nil List.cons_append List.nil_append List.append_nil List.set_cons_zero List.set_cons_succ List.headD_cons List.tail_cons List.all_cons
attribute [push_cast] List.all_nil List.getD_cons_zero List.getD_cons_succ bne_self_eq_false beq_self_eq_true Option.isSome_some Option.isSome_none A.ren Ob.ren renL ren1 Option.map_some
attribute [push_cast] Option.map_none Option.getD_some Bool.and_true Bool.true_and Bool.and_false Bool.false_and Bool.or_true Bool.true_or Bool.not_true Bool.not_false decide_true decide_false
attribute [push_cast] ite_true ite_false Nat.add_zero Nat.zero_add true_and and_true eq_self ne_eq not_false_eq_true not_true_eq_false Bool.false_eq_true List.replicate_zero
attribute [push_cast] List.replicate_succ Int.toNat_natCast
theorem ends:type_of% (And.intro @Ob.ren.eq_7<| And.intro @Ob.closed.eq_7<| And.intro @A.ren.eq_17<| And.intro @A.closed.eq_17<| And.intro @Ob.ren.eq_5<| And.intro @Ob.closed.eq_5<| And.intro @A.ren.eq_16<| And.intro @A.closed.eq_16<| And.intro @Ob.ren.eq_4<| And.intro @Ob.closed.eq_4<| And.intro @A.ren.eq_15<| And.intro @A.closed.eq_15<| And.intro @A.ren.eq_14<| And.intro @A.closed.eq_14<| And.intro @Ob.ren.eq_3<| And.intro @Ob.closed.eq_3<| And.intro @A.ren.eq_13<| And.intro @A.ren.eq_12<| And.intro @A.ren.eq_11<| And.intro @A.closed.eq_13<| And.intro @A.closed.eq_12<| And.intro @A.closed.eq_11<| And.intro @keepT.eq_1<| And.intro @keepT.eq_2<| And.intro @lookT.eq_1<| And.intro @lookT.eq_2<| And.intro @keepO.eq_1<| And.intro @keepO.eq_2<| And.intro @keepIn.eq_1<| And.intro @keepIn.eq_2<| And.intro @lookO.eq_1<| And.intro @lookO.eq_2<| And.intro @updO.eq_1<| And.intro @updO.eq_2<| And.intro @inO.eq_1<| And.intro @A.closed.eq_1<| And.intro @A.closed.eq_2<| And.intro @A.closed.eq_3<| And.intro @A.closed.eq_4<| And.intro @A.closed.eq_5<| And.intro @A.closed.eq_6<| And.intro @A.closed.eq_7<| And.intro @A.closed.eq_8<| And.intro @A.closed.eq_9<| And.intro @A.closed.eq_10<| And.intro @closedL.eq_1<| And.intro @closedL.eq_2<| And.intro @Ob.closed.eq_1<| And.intro @Ob.closed.eq_2<| And.intro @upds.eq_1<| And.intro @upds.eq_2<| And.intro @put.eq_1<| And.intro @argT.eq_1<| And.intro @argT.eq_2<| And.intro @hosL.eq_1<| And.intro @hosL.eq_2<| And.intro @ren1.eq_1<| And.intro @ren1.eq_2<| And.intro @renL.eq_1<| And.intro @renL.eq_2<| And.intro @A.ren.eq_1<| And.intro @A.ren.eq_2<| And.intro @A.ren.eq_3<| And.intro @A.ren.eq_4<| And.intro @A.ren.eq_5<| And.intro @A.ren.eq_6<| And.intro @A.ren.eq_7<| And.intro @A.ren.eq_8<| And.intro @A.ren.eq_9<| And.intro @A.ren.eq_10<| And.intro @Ob.ren.eq_1<| And.intro @Ob.ren.eq_2<| And.intro @Option.some.injEq.{0}<| And.intro @true_and<| And.intro @and_true<| And.intro @Bool.true_and<| And.intro @Bool.and_true<| And.intro @Go.Am.splice.eq_1<| And.intro @List.take_succ_cons.{0}<| And.intro @List.take_zero.{0}<| And.intro @List.take_nil.{0}<| And.intro @List.drop_succ_cons.{0}<| And.intro @List.drop_zero.{0}<| And.intro @List.drop_nil.{0}<| And.intro @List.cons_append.{0}<| And.intro @List.nil_append.{0}<| And.intro @List.append_nil.{0}<| And.intro @List.length_cons.{0}<| And.intro @List.length_nil.{0}<| And.intro @Ob.var.injEq<| And.intro @List.cons.injEq.{0}<| And.intro @A.d.injEq<| And.intro @D.lit.injEq<| And.intro @Go.Value.int.injEq<| And.intro @not_true_eq_false<| And.intro @or_true<| And.intro @true_or<| And.intro @Nat.add_zero<| And.intro @Nat.zero_add<| And.intro @Option.isSome_some.{0}<| And.intro @Option.isSome_none.{0}<| And.intro @closed_aD<| And.intro @ren_aD<| And.intro @kP<| And.intro @ren_agg_d<| And.intro @closed_aE<| And.intro @ren_aE<| And.intro @ex_eta<| And.intro @List.headD_cons.{0}<| And.intro @List.tail_cons.{0}<| And.intro @zo<| And.intro @zv<| And.intro @rI.eq_1<| And.intro @idsOk.eq_1<| And.intro @List.all_cons.{0}<| And.intro @List.all_nil.{0}<| And.intro @List.map_cons.{0,0}<| And.intro @List.map_nil.{0,0}<| And.intro @List.nodup_cons.{0}<| And.intro @List.nodup_nil.{0}<| And.intro @List.not_mem_nil.{0}<| @List.mem_cons.{0}):=
 And.intro @Ob.ren.eq_7<| And.intro @Ob.closed.eq_7<| And.intro @A.ren.eq_17<| And.intro @A.closed.eq_17<| And.intro @Ob.ren.eq_5<| And.intro @Ob.closed.eq_5<| And.intro @A.ren.eq_16<| And.intro @A.closed.eq_16<| And.intro @Ob.ren.eq_4<| And.intro @Ob.closed.eq_4<| And.intro @A.ren.eq_15<| And.intro @A.closed.eq_15<| And.intro @A.ren.eq_14<| And.intro @A.closed.eq_14<| And.intro @Ob.ren.eq_3<| And.intro @Ob.closed.eq_3<| And.intro @A.ren.eq_13<| And.intro @A.ren.eq_12<| And.intro @A.ren.eq_11<| And.intro @A.closed.eq_13<| And.intro @A.closed.eq_12<| And.intro @A.closed.eq_11<| And.intro @keepT.eq_1<| And.intro @keepT.eq_2<| And.intro @lookT.eq_1<| And.intro @lookT.eq_2<| And.intro @keepO.eq_1<| And.intro @keepO.eq_2<| And.intro @keepIn.eq_1<| And.intro @keepIn.eq_2<| And.intro @lookO.eq_1<| And.intro @lookO.eq_2<| And.intro @updO.eq_1<| And.intro @updO.eq_2<| And.intro @inO.eq_1<| And.intro @A.closed.eq_1<| And.intro @A.closed.eq_2<| And.intro @A.closed.eq_3<| And.intro @A.closed.eq_4<| And.intro @A.closed.eq_5<| And.intro @A.closed.eq_6<| And.intro @A.closed.eq_7<| And.intro @A.closed.eq_8<| And.intro @A.closed.eq_9<| And.intro @A.closed.eq_10<| And.intro @closedL.eq_1<| And.intro @closedL.eq_2<| And.intro @Ob.closed.eq_1<| And.intro @Ob.closed.eq_2<| And.intro @upds.eq_1<| And.intro @upds.eq_2<| And.intro @put.eq_1<| And.intro @argT.eq_1<| And.intro @argT.eq_2<| And.intro @hosL.eq_1<| And.intro @hosL.eq_2<| And.intro @ren1.eq_1<| And.intro @ren1.eq_2<| And.intro @renL.eq_1<| And.intro @renL.eq_2<| And.intro @A.ren.eq_1<| And.intro @A.ren.eq_2<| And.intro @A.ren.eq_3<| And.intro @A.ren.eq_4<| And.intro @A.ren.eq_5<| And.intro @A.ren.eq_6<| And.intro @A.ren.eq_7<| And.intro @A.ren.eq_8<| And.intro @A.ren.eq_9<| And.intro @A.ren.eq_10<| And.intro @Ob.ren.eq_1<| And.intro @Ob.ren.eq_2<| And.intro @Option.some.injEq.{0}<| And.intro @true_and<| And.intro @and_true<| And.intro @Bool.true_and<| And.intro @Bool.and_true<| And.intro @Go.Am.splice.eq_1<| And.intro @List.take_succ_cons.{0}<| And.intro @List.take_zero.{0}<| And.intro @List.take_nil.{0}<| And.intro @List.drop_succ_cons.{0}<| And.intro @List.drop_zero.{0}<| And.intro @List.drop_nil.{0}<| And.intro @List.cons_append.{0}<| And.intro @List.nil_append.{0}<| And.intro @List.append_nil.{0}<| And.intro @List.length_cons.{0}<| And.intro @List.length_nil.{0}<| And.intro @Ob.var.injEq<| And.intro @List.cons.injEq.{0}<| And.intro @A.d.injEq<| And.intro @D.lit.injEq<| And.intro @Go.Value.int.injEq<| And.intro @not_true_eq_false<| And.intro @or_true<| And.intro @true_or<| And.intro @Nat.add_zero<| And.intro @Nat.zero_add<| And.intro @Option.isSome_some.{0}<| And.intro @Option.isSome_none.{0}<| And.intro @closed_aD<| And.intro @ren_aD<| And.intro @kP<| And.intro @ren_agg_d<| And.intro @closed_aE<| And.intro @ren_aE<| And.intro @ex_eta<| And.intro @List.headD_cons.{0}<| And.intro @List.tail_cons.{0}<| And.intro @zo<| And.intro @zv<| And.intro @rI.eq_1<| And.intro @idsOk.eq_1<| And.intro @List.all_cons.{0}<| And.intro @List.all_nil.{0}<| And.intro @List.map_cons.{0,0}<| And.intro @List.map_nil.{0,0}<| And.intro @List.nodup_cons.{0}<| And.intro @List.nodup_nil.{0}<| And.intro @List.not_mem_nil.{0}<| @List.mem_cons.{0}
theorem bs:type_of% (And.intro @num.eq_1<| And.intro @boo.eq_1<| And.intro @str.eq_1<| And.intro @aV.eq_1<| @zl):=
 And.intro @num.eq_1<| And.intro @boo.eq_1<| And.intro @str.eq_1<| And.intro @aV.eq_1<| @zl
end
section
variable [T:Tab]
section
variable {P:Program} {tt:Types} {ops:Array Oper} {dr:Bool} {rest:List Oper} {log:List Foot} {K:SL->Prop}
theorem zd {f:FuncId} {caps as:List A} {d:Option Nat} {t:List (Nat×A)} {o:List (Nat×Ob)} (cws:List (List Nat)) (rn:List (Nat×Nat)) {g:FrzSL} {cas:List A} {os os':List (Nat×Ob)} {cres:A} (ac:ACall P f cas os cres os')
 (h:effx P tt ops dr (some ⟨True,cres.ren (ren1 rn),g.upd++os'.map (fun p=>(ren1 rn p.1,p.2.ren (ren1 rn))),g.rd++os'.map (fun p=>ren1 rn p.1)⟩) d rest log K ⟨t,o⟩)
 (hz:uO (lookO o) cws (as++caps)=some g:=by exact rfl) (hgs:g.side:=by simp [zc]<;>omega) (hargs:renL (ren1 rn) cas=g.xs:=by simp [ends,bs])
 (hcl:closedL (inO os) cas=true:=by first | rfl | simp [ends,bs]) (hos:hosL (lookO (updO o g.upd)) (ren1 rn) (inO os) os:=by simp [ends])
 (hid:idsOk (ren1 rn) (lookO (updO o g.upd)) (os.map (·.1)) (os'.map (·.1)):=by simp [idsOk,lookO,updO,ren1]):vR P tt ops dr (.clo f caps) as d rest log K ⟨t,o⟩:=
 callx_of cws rn hz ac hgs hargs hcl hos hid h
end
theorem zm {P:Program} {tt:Types} (hm:P.follows .mixedOrders=true) (T:tt.ok P) {f:FuncId} {fn:Func} {c:Code} {as:List A} {os os':List (Nat×Ob)} {res:A} {N:Nat} {ra:Array ResultVar} (hf:P.funcs[f]? =some fn)
 (hNn : fn.ntmps = N) (hrs : fn.results = ra) (h : ev P tt c (bodyK tt ra.toList res os') ⟨argT 0 as, os⟩) (hname : (fn.name == "runtime.NumGoroutine") = false := by exact rfl) (hb : fn.body = some c := by exact rfl)
 (hN:as.length<=N:=by exact Nat.le_of_ble_eq_true rfl) (hc:cOk N c=true:=by kernel_rfl) (hmk:noMk os'=true:=by first | rfl | (simp [noMk];done)):ACall P f as os res os':=
 ACall.enter hm T hf hname hb N hNn hN hc ra.toList (congrArg Array.toList hrs) h hmk
end
section
structure OpD where
 word:ByteArray
 kids:Int
 types:Int
 own:Int
instance:Inhabited OpD:=⟨⟨ByteArray.empty,0,0,0⟩⟩
def rOp (o:OpD):List D:=[.lit (.string o.word),.lit (.int .i64 o.kids),.lit (.int .i64 o.types),.lit (.int .i64 o.own)]
def opTab:List OpD:=
 [⟨⟨#[]⟩,0,0,0⟩,
  ⟨⟨#[110,117,108,108]⟩,0,0,0⟩,
  ⟨⟨#[105,110,116]⟩,0,0,1⟩,
  ⟨⟨#[98,111,111,108]⟩,0,0,2⟩,
  ⟨⟨#[116,101,120,116]⟩,0,0,3⟩,
  ⟨⟨#[99,111,108,117,109,110]⟩,0,0,0⟩,
  ⟨⟨#[97,100,100]⟩,2,1,1⟩,
  ⟨⟨#[115,117,98]⟩,2,1,1⟩,
  ⟨⟨#[109,117,108]⟩,2,1,1⟩,
  ⟨⟨#[100,105,118]⟩,2,1,1⟩,
  ⟨⟨#[109,111,100]⟩,2,1,1⟩,
  ⟨⟨#[110,101,103]⟩,1,1,1⟩,
  ⟨⟨#[99,111,110,99,97,116]⟩,2,2,3⟩,
  ⟨⟨#[108,101,110,103,116,104]⟩,1,2,1⟩,
  ⟨⟨#[101,113]⟩,2,4,2⟩,
  ⟨⟨#[110,101]⟩,2,4,2⟩,
  ⟨⟨#[108,116]⟩,2,4,2⟩,
  ⟨⟨#[108,101]⟩,2,4,2⟩,
  ⟨⟨#[103,116]⟩,2,4,2⟩,
  ⟨⟨#[103,101]⟩,2,4,2⟩,
  ⟨⟨#[115,97,109,101]⟩,2,4,2⟩,
  ⟨⟨#[105,115,110,117,108,108]⟩,1,5,2⟩,
  ⟨⟨#[97,110,100]⟩,2,3,2⟩,
  ⟨⟨#[111,114]⟩,2,3,2⟩,
  ⟨⟨#[110,111,116]⟩,1,3,2⟩,
  ⟨⟨#[105,115,116,114,117,101]⟩,1,3,2⟩,
  ⟨⟨#[99,97,115,101]⟩,3,6,0⟩,
  ⟨⟨#[99,111,97,108,101,115,99,101]⟩,2,4,0⟩,
  ⟨⟨#[105,110]⟩,2,4,2⟩]
def opRow:List D:=(opTab.map rOp).flatten
theorem kA:opTab.length=29:=rfl
end
section
variable [T:Tab]
def wH (t:List (Nat×A)):List Nat->List (Nat×A)
 | []=>[]
 | k::ks=>(k,lookT t k)::wH t ks
def consO (k:Nat) (ob:Option Ob) (l:List (Nat×Ob)):List (Nat×Ob):=match ob with
 | some ob=>(k,ob)::l
 | none=>l
theorem ym (k:Nat) (ob:Ob) (l:List (Nat×Ob)):consO k (some ob) l=(k,ob)::l:=rfl
def wI (o:List (Nat×Ob)):List Nat->List (Nat×Ob)
 | []=>[]
 | k::ks=>consO k (lookO o k) (wI o ks)
def cst (ctr:Nat) (kt:List (Nat×A)) (ko:List (Nat×Ob)) (ts:Nat->List (Nat×A)) (os:Nat->List (Nat×Ob)) (n:Nat):SL:=⟨(ctr,.d (.lit (.int .i64 n)))::(ts n++kt),os n++ko⟩
theorem yl {P:Program} {tt:Types} (hm:P.follows .mixedOrders=true) (T':tt.ok P) {c:Code} {K:Exit->SL->Prop} {t:List (Nat×A)} {o:List (Nat×Ob)} {kt:List (Nat×A)} {ko:List (Nat×Ob)}
 (ctr:Nat) (keep keepo:List Nat) (hk:wH t keep=kt) (hko:wI o keepo=ko) (N:Nat) (Inv:Nat->Prop) (ts:Nat->List (Nat×A)) (os:Nat->List (Nat×Ob)) (h0:Inv 0)
 (hw:Weak (SL.mk t o).st (cst ctr kt ko ts os 0).st)
 (step: ∀(I:{n:Nat // n<=N/\Inv n}->SL),(∀x,I x=cst ctr kt ko ts os x.1)-> ∀(n:Nat) (hn:n<=N) (hi:Inv n),ev P tt c (jK I (fun x=>N-x.1) ⟨n,hn,hi⟩ K) (cst ctr kt ko ts os n)):
 kE P c K ⟨t,o⟩:=
 jV hm T' (fun x:{n:Nat // n<=N/\Inv n}=>cst ctr kt ko ts os x.1) (fun x=>N-x.1) ⟨0,Nat.zero_le _,h0⟩ hw fun ⟨n,hn,hi⟩=>step _ (fun _=>rfl) n hn hi
theorem yt {N:Nat} {Inv:Nat->Prop} {I:{n:Nat // n<=N/\Inv n}->SL} {ctr:Nat} {kt:List (Nat×A)} {ko:List (Nat×Ob)} {ts:Nat->List (Nat×A)} {os:Nat->List (Nat×Ob)} (hI: ∀x,I x=cst ctr kt ko ts os x.1)
 (n:Nat) {x:{n:Nat // n<=N/\Inv n}} (hx:x.1=n) {K:Exit->SL->Prop} {t:List (Nat×A)} {o:List (Nat×Ob)} (h1:n<N) (h2:Inv (n+1))
 (hct:lookT t ctr= .d (.lit (.int .i64 (n+1:Nat))))
 (ht:keepT (lookT t) (inO (os (n+1)++ko)) (ts (n+1)++kt)) (ho:keepO (lookO o) (inO (os (n+1)++ko)) (os (n+1)++ko)) (hin:keepIn (inO (os (n+1)++ko)) o):
 jK I (fun x=>N-x.1) x K .normal ⟨t,o⟩:=by
 refine ⟨⟨n+1,h1,h2⟩,by show N-(n+1)<N-x.1;omega,?_⟩
 rw [hI]
 exact Weak.keepL ⟨⟨hct,rfl⟩,ht⟩ ho hin
theorem yc {α:Type} [Inhabited α] (l:List α) (n:Nat) (h:n<l.length):l.drop n=l.getD n default::l.drop (n+1):=by
 rw [List.drop_eq_getElem_cons h,List.getD_eq_getElem?_getD,List.getElem?_eq_getElem h]
 rfl
def ferr {α:Type} (f:α->Int):List α->Int
 | []=>0
 | x::l=>if f x=0 then ferr f l else f x
def fidx {α:Type} (p:α->Bool):List α->Int
 | []=> -1
 | x::l=>if p x then 0 else if fidx p l<0 then -1 else fidx p l+1
theorem fidx_ge {α:Type} (p:α->Bool): ∀l:List α, -1<=fidx p l
 | []=>by simp [fidx]
 | x::l=>by have:=fidx_ge p l;simp only [fidx];split<;>(try split)<;>omega
theorem fidx_at {α:Type} [Inhabited α] (p:α->Bool): ∀(l:List α) (n:Nat),n<l.length->(∀i,i<n->p (l.getD i default)=false)->p (l.getD n default)=true->fidx p l=n
 | [],n,h,_,_=>by simp at h
 | x::l,0,_,_,hp=>by simp at hp;simp [fidx,hp]
 | x::l,n+1,h,hb,hp=>by
   have h0:=hb 0 (by omega)
   simp at h0
   have:=fidx_at p l n (by simpa using h) (fun i hi=>by simpa using hb (i+1) (by omega)) (by simpa using hp)
   simp only [fidx,h0,this]
   rw [if_neg (by simp),if_neg (by omega)]
   omega
theorem fidx_none {α:Type} [Inhabited α] (p:α->Bool): ∀(l:List α),(∀i,i<l.length->p (l.getD i default)=false)->fidx p l= -1
 | [],_=>rfl
 | x::l,hb=>by
   have h0:=hb 0 (by simp)
   simp at h0
   have:=fidx_none p l (fun i hi=>by simpa using hb (i+1) (by simpa using hi))
   simp [fidx,h0,this]
theorem kI {α:Type} (p:α->Bool): ∀l:List α,fidx p l<0 ↔ l.any p=false
 | []=>by simp [fidx]
 | x::l=>by
   have:=kI p l
   have:=fidx_ge p l
   simp only [fidx,List.any_cons,Bool.or_eq_false_iff]
   split
   ·rename_i h;simp [h]
   ·rename_i h;simp only [Bool.not_eq_true] at h;split
    ·rename_i h2;simp [h,(kI p l).1 h2]
    ·rename_i h2;exact ⟨fun h3=>by omega,fun h3=>absurd ((kI p l).2 h3.2) h2⟩
theorem yr {α:Type} [Inhabited α] (l:List α) (n:Nat) (h:n<l.length):l.take (n+1)=l.take n++[l.getD n default]:=by
 rw [List.take_succ_eq_append_getElem h,List.getD_eq_getElem?_getD,List.getElem?_eq_getElem h]
 rfl
theorem zx {α:Type} [Inhabited α] {l:List α} {n:Nat} (h:n<l.length):l.getD n default∈l:=by
 rw [List.getD_eq_getElem?_getD,List.getElem?_eq_getElem h];exact List.getElem_mem h
theorem zw {n N:Nat} (h:n<N) (hN:N<=1000000000):IntKind.i64.wrap ((n:Int)+1)=((n+1:Nat):Int):=by rw [z7 (by omega) (by omega)];rfl
theorem zk {p:Prop} {x:D} {t:List (Nat×A)} {o:List (Nat×Ob)} {R:A} (hp:p) (hr:A.d x=R) (ho:keepIn (inO []) o):retx (some (p,A.d x)) ⟨t,o⟩ R []:=by
 subst hr
 exact zf [] rfl hp trivial rfl rfl trivial ho
theorem zF {p:Prop} {x y:D} {t:List (Nat×A)} {o:List (Nat×Ob)} {R:A} (hp:p) (hr:A.tup [.d x,.d y]=R) (ho:keepIn (inO []) o):retx (some (p,.tup [.d x,.d y])) ⟨t,o⟩ R []:=by
 subst hr
 exact zO [[],[]] rfl hp (by simp) rfl rfl trivial ho
end
section
variable [T:Tab]
def zJ (a b:Nat) (o:Nat):Nat:=if o=a then b else o
section
variable {cx:Cx} {β:Nat->Option (Option Nat)} {h:Nat->Option Ob} {w:World} {a b:Nat}
def renβ (a b:Nat) (β:Nat->Option (Option Nat)):Nat->Option (Option Nat):=fun o=>if o=b then β a else if o=a then none else β o
def renH (a b:Nat) (h:Nat->Option Ob):Nat->Option Ob:=fun o=>if o=b then (h a).map (·.ren (zJ a b)) else if o=a then none else (h o).map (·.ren (zJ a b))
theorem renβ_to (hab:a≠b) (hb:β b=none) (o:Nat) (x:Option Nat) (ho:β o=some x):renβ a b β (zJ a b o)=β o:=by
 unfold renβ zJ
 by_cases h1:o=a
 ·simp [h1]
 ·rw [if_neg h1]
  by_cases h2:o=b
  ·subst h2;rw [hb] at ho;cases ho
  ·simp [h1,h2]
theorem renH_to (hab:a≠b) (hb:h b=none) (o:Nat) (ob:Ob) (ho:h o=some ob):renH a b h (zJ a b o)=some (ob.ren (zJ a b)):=by
 unfold renH
 by_cases h1:o=a
 ·subst h1;simp [zJ,ho]
 ·have:zJ a b o=o:=by simp [zJ,h1]
  rw [this]
  by_cases h2:o=b
  ·subst h2;rw [hb] at ho;cases ho
  ·simp [h1,h2,ho]
theorem renβ_of (hab:a≠b) (o:Nat) (x:Option Nat) (ho:renβ a b β o=some x): ∃o',zJ a b o'=o/\β o'=some x:=by
 unfold renβ at ho
 by_cases h2:o=b
 ·subst h2;simp at ho;exact ⟨a,by simp [zJ],ho⟩
 ·rw [if_neg h2] at ho
  by_cases h1:o=a
  ·simp [h1] at ho
  ·rw [if_neg h1] at ho;exact ⟨o,by simp [zJ,h1],ho⟩
theorem renH_of (hab:a≠b) (o:Nat) (ob:Ob) (ho:renH a b h o=some ob): ∃o' ob',zJ a b o'=o/\h o'=some ob'/\ob=ob'.ren (zJ a b):=by
 unfold renH at ho
 by_cases h2:o=b
 ·subst h2
  simp only [if_true,Option.map_eq_some_iff] at ho
  obtain ⟨ob',h3,h4⟩:=ho
  exact ⟨a,ob',by simp [zJ],h3,h4.symm⟩
 ·rw [if_neg h2] at ho
  by_cases h1:o=a
  ·simp [h1] at ho
  ·rw [if_neg h1,Option.map_eq_some_iff] at ho
   obtain ⟨ob',h3,h4⟩:=ho
   exact ⟨o,ob',by simp [zJ,h1],h3,h4.symm⟩
theorem Rel.ren (r:Rel cx β h w) (hab:a≠b) (ha:a<1000) (hb:h b=none):
 Rel cx (renβ a b β) (renH a b h) w/\Env.Ren (zJ a b) (ze cx.Xo β h w) (ze cx.Xo (renβ a b β) (renH a b h) w):=by
 have hβb:β b=none:=by
  have:=r.dom b
  rw [hb] at this
  simpa using this
 have hX: ∀k i,Xh (renβ a b β) (renH a b h) k i->Xh β h k i:=by
  rintro k i ⟨o,ob,h1,h2,h3⟩
  obtain ⟨o',ob',g1,g2,rfl⟩:=renH_of hab o ob h1
  obtain ⟨x,hx⟩: ∃x,β o'=some x:=by
   have:=r.dom o'
   rw [g2] at this
   exact Option.isSome_iff_exists.1 this
  have:=renβ_to (β:=β) hab hβb o' x hx
  rw [g1,h2] at this
  exact ⟨o',ob',g2,this.symm,Ob.excl_ren.1 h3⟩
 have S:Env.Ren (zJ a b) (ze cx.Xo β h w) (ze cx.Xo (renβ a b β) (renH a b h) w):=by
  refine ⟨fun k i v hr=>⟨hr.1,fun q=>hr.2.1 (hX k i q),hr.2.2⟩,fun o ob ho=>?_,fun _ _ q=>q⟩
  obtain ⟨x,hx⟩: ∃x,β o=some x:=by
   have:=r.dom o
   rw [show h o=some ob from ho] at this
   exact Option.isSome_iff_exists.1 this
  exact ⟨renH_to hab hb o ob ho,renβ_to hab hβb o x hx⟩
 refine ⟨⟨fun o=>?_,fun o ob bo h1 h2=>?_,fun o o' k h1 h2=>?_,fun o k i h1=>?_,r.bnd,r.ev,fun k i q=>r.own k i (hX k i q),fun o ob h1=>?_,r.big,
  fun g row hg=>rowAt_mono S.R (S.R g) row 0 (r.tab g row hg),fun g hg=>(r.gi g hg).imp fun _=>S.R _ _ _,r.tsz⟩,S⟩
 ·unfold renβ renH
  by_cases h2:o=b
  ·simp [h2,r.dom a]
  ·by_cases h1:o=a
   ·subst h1;simp [hab]
   ·simp [h1,h2,r.dom o]
 ·obtain ⟨o',ob',g1,g2,rfl⟩:=renH_of hab o ob h1
  obtain ⟨x,hx⟩: ∃x,β o'=some x:=by
   have:=r.dom o'
   rw [g2] at this
   exact Option.isSome_iff_exists.1 this
  have h3:=renβ_to (β:=β) hab hβb o' x hx
  rw [g1,h2] at h3
  have:=r.obj o' ob' bo g2 h3.symm
  cases ob' with
  | var cs=>
    simp only [Ob.ren,Ob.rep] at this ⊢
    obtain ⟨k,c,el,q1,q2,q3,q4⟩:=this
    exact ⟨k,c,el,q1,q2,repL_ren S _ _ q3,q4⟩
  | vec e wd rows fz=>
    simp only [Ob.ren,Ob.rep] at this ⊢
    obtain ⟨q1,q2,q3⟩:=this
    refine ⟨q1,q2,?_⟩
    rcases q3 with q3 | ⟨k,c,q3,q4,q5,q6⟩
    ·exact .inl q3
    ·exact .inr ⟨k,c,q3,q4,rowsAt_mono S.R (fun _ _ h=>h) _ _ _ q5,q6⟩
  | mp es st=>simpa only [Ob.ren,Ob.rep] using this
  | it s p=>simpa only [Ob.ren,Ob.rep] using this
  | bag S n=>simpa only [Ob.ren,Ob.rep] using this
  | x k as=>
    simp only [Ob.ren,Ob.rep] at this ⊢
    obtain ⟨k',x,vs,q1,q2,q3,q4⟩:=this
    exact ⟨k',x,vs,q1,q2,q3,repL_ren S _ _ q4⟩
  | gv e cs=>
    simp only [Ob.ren,Ob.rep] at this ⊢
    rcases this with q3 | ⟨k,c,vs,tl,q1,q2,q3,q4,q5⟩
    ·exact .inl ⟨q3.1,by rw [q3.2];rfl⟩
    ·exact .inr ⟨k,c,vs,tl,q1,q2,q3,repL_ren S _ _ q4,q5⟩
 ·obtain ⟨p,p1,p2⟩:=renβ_of hab o _ h1
  obtain ⟨q,q1,q2⟩:=renβ_of hab o' _ h2
  have:=r.inj p q k p2 q2
  rw [<-p1,<-q1,this]
 ·obtain ⟨p,p1,p2⟩:=renβ_of hab o _ h1
  exact r.out p k i p2
 ·have hbig:=hdd_ge (r.big o (by rw [h1];rfl))
  obtain ⟨ob',g1,g2⟩:=r.ent o ob h1
  have hr:zJ a b o=o:=by simp only [zJ];rw [if_neg (by omega)]
  refine ⟨ob'.ren (zJ a b),by have:=renH_to (h:=h) hab hb o ob' g1;rwa [hr] at this,?_⟩
  obtain ⟨x,hx⟩: ∃x,β o=some x:=by
   have:=r.dom o
   rw [g1] at this
   exact Option.isSome_iff_exists.1 this
  have:=renβ_to (β:=β) hab hβb o x hx
  rw [hr] at this
  rw [this]
  cases ob<;>cases ob'<;>simp_all [Ob.grow,Ob.ren,xO]
def renT (a b:Nat):List (Nat×A)->List (Nat×A)
 | []=>[]
 | (k,v)::l=>(k,v.ren (zJ a b))::renT a b l
def renO (a b:Nat):List (Nat×Ob)->List (Nat×Ob)
 | []=>[]
 | (k,v)::l=>(zJ a b k,v.ren (zJ a b))::renO a b l
theorem lookT_renT: ∀(t:List (Nat×A)) (k:Nat),lookT (renT a b t) k=(lookT t k).ren (zJ a b)
 | [],k=>rfl
 | (j,v)::l,k=>by
   simp only [renT,lookT]
   split
   ·rfl
   ·exact lookT_renT l k
theorem uB (hab:a≠b): ∀(o:List (Nat×Ob)),lookO o b=none→lookO (renO a b o)=renH a b (lookO o)
 | [],_=>by funext k;simp [renO,lookO,renH]
 | (j,v)::l,hb=>by
   have hj:j≠b:=fun e=>by simp [lookO,e] at hb
   have hb':lookO l b=none:=by simpa [lookO,hj] using hb
   have ih:=uB hab l hb'
   funext k
   simp only [renO,lookO,ih]
   unfold renH
   by_cases h2:k=b
   ·subst h2
    by_cases h1:j=a
    ·subst h1;simp [zJ,lookO]
    ·simp [zJ,h1,hj,lookO]
   ·by_cases h1:k=a
    ·subst h1
     by_cases h3:j=k
     ·subst h3;simp [zJ,h2,Ne.symm h2]
     ·simp [zJ,h2,h3]
    ·by_cases h3:j=a
     ·subst h3;simp [zJ,h2,h1,Ne.symm h1,Ne.symm h2,lookO]
     ·simp [zJ,h2,h1,h3,lookO]
      split<;>simp
theorem Weak.ren {t:List (Nat×A)} {o:List (Nat×Ob)} (a b:Nat) (hab:a≠b) (ha:a<1000) (hb:lookO o b=none):Weak (SL.mk t o).st (SL.mk (renT a b t) (renO a b o)).st:=by
 intro cx N ac w ⟨β,r1,r2,r3,r4⟩
 obtain ⟨q1,q2⟩:=Rel.ren (a:=a) (b:=b) r1 hab ha hb
 refine ⟨renβ a b β,?_,fun k=>?_,r3,?_⟩
 ·show Rel cx _ (lookO (renO a b o)) w
  rw [uB hab o hb]
  exact q1
 ·show (lookT (renT a b t) k).rep (ze cx.Xo _ (lookO (renO a b o)) w) _
  rw [lookT_renT,uB hab o hb]
  exact A.rep_ren q2 _ _ (r2 k)
 ·show MarksOk _ _ (lookO (renO a b o)) _
  rw [uB hab o hb]
  refine MarksOk.mono r4 fun k as h1 h2=>?_
  obtain ⟨g1,g2⟩:=q2.h k _ h2
  have e:zJ a b k=k:=by simp only [zJ];rw [if_neg (by omega)]
  rw [e] at g1 g2
  exact ⟨⟨_,g1⟩,g2⟩
end
end
section
variable [T:Tab]
def encM (ks:List Int):List (Value×Value):=ks.map fun k=>(.int .i64 k,.bool true)
def mapsL (b:Nat):List (Option (List Int))->List (Nat×Ob)
 | []=>[]
 | none::l=>mapsL (b+1) l
 | some ks::l=>(b,.mp (encM ks))::mapsL (b+1) l
theorem jW: ∀(ms:List (Option (List Int))) (b k:Nat),lookO (mapsL b ms) k=if b<=k then (match ms[k-b]? with | some (some ks)=>some (.mp (encM ks)) | _=>none) else none
 | [],b,k=>by simp [mapsL,lookO]
 | none::l,b,k=>by
   rw [mapsL,jW l (b+1) k]
   by_cases h:b+1<=k
   ·rw [if_pos h,if_pos (by omega),show k-b=(k-(b+1))+1 by omega,List.getElem?_cons_succ]
   ·rw [if_neg h]
    by_cases h2:b<=k
    ·rw [if_pos h2,show k-b=0 by omega];rfl
    ·rw [if_neg h2]
 | some ks::l,b,k=>by
   simp only [mapsL,lookO]
   rw [jW l (b+1) k]
   by_cases h:b+1<=k
   ·rw [if_neg (by omega),if_pos h,if_pos (by omega),show k-b=(k-(b+1))+1 by omega,List.getElem?_cons_succ]
   ·rw [if_neg h]
    by_cases h2:b<=k
    ·rw [if_pos (by omega),if_pos h2,show k-b=0 by omega];rfl
    ·rw [if_neg (by omega),if_neg h2]
theorem lookO_maps_lt (ms:List (Option (List Int))) {b k:Nat} (h:k<b):lookO (mapsL b ms) k=none:=by rw [jW,if_neg (by omega)]
theorem FnCall.same {P:Program} {f:FuncId} {as:List A} {h:Nat->Option Ob} {e:Eff} (fc:FnCall P f as h e) (hu:upds h e.upd=h) (hk: ∀x∈e.upd.map (·.1),x∈e.rd):FnCall P f as h ⟨e.side,e.res,[],e.rd⟩ where
 fn:=fc.fn
 keyed:=by intro p hp;simp at hp
 calls:=fun h2 hr2 cx β w vs rel hvs=>by
  have hh:upds h2 e.upd=h2:=by
   funext i
   by_cases hi:i∈e.upd.map (·.1)
   ·rw [kr (h2:=h) _ _ hi,hu];exact (hr2 i (hk i hi)).symm
   ·exact yV _ _ hi
  have:=fc.calls h2 hr2 cx β w vs rel hvs
  rw [hh] at this
  exact this
end
section
variable [T:Tab]
theorem z8 {α:Type} {P:Program} {tt:Types} (hm:P.follows .mixedOrders=true) (T':tt.ok P) {c:Code} {K:Exit->SL->Prop} {t:List (Nat×A)} {o:List (Nat×Ob)}
 (st:α->SL) (m:α->Nat) (Inv:α->Prop) (x0:α) (h0:Inv x0) (hw:Weak (SL.mk t o).st (st x0).st)
 (step: ∀(I:{x:α // Inv x}->SL),(∀x h,I ⟨x,h⟩=st x)-> ∀(x:α) (hi:Inv x),ev P tt c (jK I (fun x=>m x.1) ⟨x,hi⟩ K) (st x)):
 kE P c K ⟨t,o⟩:=
 jV hm T' (fun x:{x:α // Inv x}=>st x.1) (fun x=>m x.1) ⟨x0,h0⟩ hw fun ⟨x,hi⟩=>step _ (fun _ _=>rfl) x hi
theorem zp {α:Type} {st:α->SL} {Inv:α->Prop} {I:{x:α // Inv x}->SL} (hI: ∀x h,I ⟨x,h⟩=st x) {mm:{x:α // Inv x}->Nat} {x:{x:α // Inv x}} {K:Exit->SL->Prop} {t:List (Nat×A)} {o:List (Nat×Ob)}
 (y:α) (h2:Inv y) (h1:mm ⟨y,h2⟩<mm x) (hw:Weak (SL.mk t o).st (st y).st):jK I mm x K .normal ⟨t,o⟩:=by
 refine ⟨⟨y,h2⟩,h1,?_⟩
 rw [hI]
 exact hw
def View (h:Nat->Option Ob) (as xs:List A) (rd:List Nat):Prop:=
 ∀h2,(∀i∈rd,h2 i=h i)-> ∀(cx:Cx) (β:Nat->Option (Option Nat)) (w:World) (vs:List Value),Rel cx β h2 w->repL (ze cx.Xo β h2 w) as vs->repL (ze cx.Xo β h2 w) xs vs
theorem yj (h:Nat->Option Ob) (as:List A):View h as as []:=fun _ _ _ _ _ _ _ hv=>hv
section
variable {P:Program} {tt:Types} {ops:Array Oper} {dr:Bool} {rest:List Oper} {log:List Foot} {K:SL->Prop}
theorem yn {f:FuncId} {caps as:List A} {d:Option Nat} {t:List (Nat×A)} {o:List (Nat×Ob)} (rn:List (Nat×Nat)) {xs:List A} {rd:List Nat} {cas:List A} {os os':List (Nat×Ob)} {cres:A}
 (hz:View (lookO o) (as++caps) xs rd) (ac:ACall P f cas os cres os') (hargs:renL (ren1 rn) cas=xs) (hcl:closedL (inO os) cas=true)
 (hos:hosL (lookO o) (ren1 rn) (inO os) os) (hid:idsOk (ren1 rn) (lookO o) (os.map (·.1)) (os'.map (·.1)))
 (h:effx P tt ops dr (some ⟨True,cres.ren (ren1 rn),os'.map (fun p=>(ren1 rn p.1,p.2.ren (ren1 rn))),rd++os'.map (fun p=>ren1 rn p.1)⟩) d rest log K ⟨t,o⟩):
 vR P tt ops dr (.clo f caps) as d rest log K ⟨t,o⟩:=by
 obtain ⟨i1,⟨i2,i2'⟩,i3⟩:=hid
 have i1': ∀o,o∈os.map (·.1)->o∈os'.map (·.1)/\hdd o=true:=fun o ho=>by
  have:=List.all_eq_true.1 i1 o ho
  simpa using this
 have h:=h.2
 refine ⟨_,FnCall.ofV (g:=⟨xs,[],rd,True⟩) (by simp [z2]) (fun h2 hr cx β w vs rel hv=>⟨rel,Env.Le.refl _,hz h2 hr cx β w vs rel hv⟩) ac (ren1 rn) hargs hcl (fun x ob hx=>j5 os hos x ob hx) (fun x hx=>?_) (fun x y hx hy=>?_) (fun x hx hn=>?_) (fun x hx=>?_) ?_,h⟩
 ·rw [yT] at hx ⊢;exact (i1' x hx).1
 ·rw [yT] at hx hy
  exact wz _ i2 x hx y hy
 ·rw [yT] at hx
  rcases i3 x hx with q | q
  ·rw [<-yT] at q;rw [q] at hn;cases hn
  ·exact q
 ·rw [yT] at hx;exact (i1' x hx).2
 ·exact i2'
theorem callx_fn {f:FuncId} {caps as:List A} {d:Option Nat} {t:List (Nat×A)} {o:List (Nat×Ob)} {e:Eff} (hf:FnCall P f (as++caps) (lookO o) e) (hs:e.side=True) (h:effx P tt ops dr (some e) d rest log K ⟨t,o⟩):
 vR P tt ops dr (.clo f caps) as d rest log K ⟨t,o⟩:=⟨e,hf,h.2⟩
end
end
end Go.Am
