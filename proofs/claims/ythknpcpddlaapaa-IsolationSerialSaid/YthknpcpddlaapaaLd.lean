/- Histories and their anomalies (part Ld) -/
import Derived.Test.YthknpcpddlaapaaLc
import Derived.WalkKit
import Derived.ProofKit
import Derived.OpenShut
import Derived.JoinedCond
import Derived.Carry
set_option linter.all false
namespace Go.Am
variable [T : Tab]
open Go.ChangeShapes Go.WideShapes Go.ChangeAt Go.RowKit
set_option linter.unusedVariables false
/-- The world's data, where no object is kept from anyone. -/
def E0 (w : World) : Env := envOf (fun _ _ => False) (fun _ => none) (lookO []) w
theorem E0_cell {w : World} {b i : Nat} {v : Value} (h : w.cell? ⟨b, i, none⟩ = some v) : (E0 w).R b i v := by
  refine ⟨fun h => h, ?_, h⟩
  rintro ⟨o, ob, _, h2, _⟩
  cases h2
theorem repL_mk0 {E : Env} : repL E [] [] := by simp [repL]
theorem repL_mk {E : Env} {a : A} {v : Value} {as : List A} {vs : List Value} (h : a.rep E v) (hs : repL E as vs) : repL E (a :: as) (v :: vs) := by
  simp only [repL]
  exact ⟨v, vs, rfl, h, hs⟩
theorem E0_rel (w : World) (ht : ∀ g row, T.tab g = some row → rowAt (E0 w).R ((E0 w).R g) 0 row) (hg : ∀ g ∈ T.ints, ∃ m, (E0 w).R g 0 (.int .i64 m)) (hz : ∀ g row, T.tab g = some row → Sized w g row.length) : Rel ⟨w, fun _ _ => False, Xh (fun _ => none) (lookO []), fun _ => none, lookO []⟩ (fun _ => none) (lookO []) w where
  dom := fun o => rfl
  obj := fun o ob bo h => by simp [lookO] at h
  inj := fun o o' b h => by cases h
  out := fun o b i h => by cases h
  bnd := fun b i h => h.elim
  ev := Ev.refl _ _
  own := fun b i h => by obtain ⟨o, ob, _, h2, _⟩ := h; cases h2
  ent := fun o ob h => by simp [lookO] at h
  big := fun o h => by simp [lookO] at h
  tab := ht
  gi := hg
  tsz := hz
/-- A contract without objects, from outside. -/
theorem ACall.run {P : Program} {f : FuncId} {as : List A} {u : Value} {w : World} {vs : List Value} (ac : ACall P f as [] (.d (.lit u)) []) (ht : ∀ g row, T.tab g = some row → rowAt (E0 w).R ((E0 w).R g) 0 row) (hg : ∀ g ∈ T.ints, ∃ m, (E0 w).R g 0 (.int .i64 m)) (hz : ∀ g row, T.tab g = some row → Sized w g row.length) (hr : repL (E0 w) as vs) :
    Calls P f vs.toArray w fun e w' => e = .returned u ∧ Below w.heap.size w w' := by
  refine (ac.calls (fun _ _ => False) (fun _ => none) w vs (E0_rel w ht hg hz) hr).mono fun e w' ⟨v, β', he, rel, hv⟩ => ?_
  have hv' : v = u := by
    simp only [A.rep, D.rep] at hv
    exact hv.1
  subst hv'
  exact ⟨he, rel.ev.below fun b i h => by obtain ⟨o, ob, _, h2, _⟩ := h; cases h2⟩
section
variable {H : Type} {enc : TypeId × Value → H} {P : Program} {w : World} {base b0 : Nat} {spare : Nat → Bool} {held : Bool} {t e : TypeId} {v : Value} {d : DataW H} {ps : List MemPlace}
/-- A slice of integers, read. -/
theorem open_sl {k : IntKind} {r : Reach} (ht : P.underlying t = some (.slice e)) (he : P.underlying e = some (.int k)) (hc : P.cellsOf e = 1) (hval : Value.okWide P w r b0 t v) (h : DataW.Trod enc P w base spare held t v d ps) :
    ∃ xs : List Int, (∀ x ∈ xs, (Lit.int k x).wf = true) ∧ (A.d (.sl 1 (rowsOf (fun n => [D.lit (.int k n)]) xs))).rep (E0 w) v ∧ (d = .nil ∧ xs = [] ∨ ∃ rest, d = .slice (lits k xs) rest) := by
  obtain ⟨a0, len, cap, rfl⟩ := okWide_slice ht hval
  obtain ⟨fuel, hf⟩ := h
  rcases open_ints ht he hc hf with ⟨hcs, hx⟩ | ⟨a, len', cap', zs, hcs, _, hl, hm, hz, hx, hcell, hwz⟩
  · simp [Value.cells] at hcs
    obtain ⟨rfl, rfl, rfl⟩ := hcs
    refine ⟨[], by simp, ?_, .inl ⟨(Prod.mk.injEq .. ▸ hx).1, rfl⟩⟩
    simp only [A.rep, D.rep]
    exact ⟨none, 0, rfl, Nat.le_refl _, fun _ => ⟨rfl, rfl⟩, fun a' h => by cases h⟩
  · simp [Value.cells] at hcs
    obtain ⟨rfl, rfl, rfl⟩ := hcs
    have hlen : len ≤ zs.length := by rw [hz]; split <;> omega
    have hlt : (zs.take len).length = len := by simp; omega
    refine ⟨zs.take len, fun x hx => hwz x (List.mem_of_mem_take hx), ?_, .inr ⟨_, by rw [Prod.mk.injEq] at hx; exact hx.1⟩⟩
    have hspot : a.spot = none := by
      have hv : Cell.ok P w r b0 t (.slice (some a) len cap) := by
        simpa [Value.okWide, ht, Cell.okWide] using hval
      simp only [Cell.ok, ht] at hv
      exact hv.2.2.2.1
    simp only [A.rep, D.rep]
    refine ⟨some a, cap, by rw [rowsOf_length, hlt], by rw [rowsOf_length, hlt]; exact hl, (fun h => by cases h), fun a' ha' => ?_⟩
    cases ha'
    refine ⟨fun _ => hspot, ?_⟩
    have key : ∀ (ys : List Int) (k0 : Nat), (∀ j, j < ys.length → w.cell? ⟨a.block, k0 + j, none⟩ = some (.int k (ys.getD j 0))) → rowsAt (E0 w).R ((E0 w).R a.block) 1 k0 (rowsOf (fun n => [D.lit (.int k n)]) ys) := by
      intro ys
      induction ys with
      | nil => intro k0 _; simp [rowsOf, rowsAt]
      | cons y ys ih =>
        intro k0 hj
        rw [rowsOf_cons]
        simp only [rowsAt]
        refine ⟨rfl, ?_, ih (k0 + 1) fun j h => ?_⟩
        · simp only [rowAt]
          exact ⟨⟨.int k y, E0_cell (by simpa using hj 0 (by simp)), by simp [D.rep, one]⟩, trivial⟩
        · have := hj (j + 1) (by simpa using h)
          rw [show k0 + 1 + j = k0 + (j + 1) by omega, this]
          simp
    refine key _ _ fun j hj => ?_
    have := hcell j (by omega)
    rw [add_mk hspot] at this
    rw [this]
    congr 2
    simp only [List.getD_eq_getElem?_getD]
    rw [List.getElem?_take_of_lt (by omega)]
theorem trodAll_below (hl : laidOutB P = true) {W W' : World} (hb : Below W.heap.size W W') : ∀ {ts : List TypeId} {vs : List Value} {ds : List (DataW H)} {ps : List MemPlace}, (ts.all fun t => P.readableRec t && decide (t < P.types.size)) = true →
    DataW.TrodAll enc P W 0 (fun _ => true) true ts vs ds ps → (∀ x ∈ ps, x.block < W.heap.size) → DataW.TrodAll enc P W' 0 (fun b => decide (b < W.heap.size)) true ts vs ds ps
  | [], [], [], _, _, h, _ => h
  | _ :: _, _ :: _, _ :: _, _, hT, ⟨p, q, h1, h2, e⟩, hs => by
    simp only [List.all_cons, Bool.and_eq_true, decide_eq_true_eq] at hT
    exact ⟨p, q, Below.trod hl hT.1.1 hT.1.2 h1 hb (fun x hx => hs x (by rw [e]; exact List.mem_append_left _ hx)),
      trodAll_below hl hb hT.2 h2 (fun x hx => hs x (by rw [e]; exact List.mem_append_right _ hx)), e⟩
/-- Behind a law that says true and has written nothing. -/
theorem post_true {f : Func} {s : ChangeSpec} {W W' : World} {args : Array Value} {ds gs : List (DataW H)} {before : List MemPlace} {tB : TypeId} (hW : DataW.Whole enc P f.params.toList s.vars false W args.toList ds gs before)
    (hsv : s.vars = []) (hl : laidOutB P = true) (hr : (f.params.toList.all fun t => P.readableRec t && decide (t < P.types.size)) = true) (hT : f.resultTypes = #[tB]) (hB : P.underlying tB = some .bool)
    (hs : s.fn H ds = { results := [.lit (.bool true)], args := ds }) (hb : Below W.heap.size W W') : s.post enc P f false true false false W args (.bool true) W' := by
  have hW' := hW
  obtain ⟨p, q, hA, hV, rfl, _, _⟩ := hW
  rw [hsv] at hV
  obtain ⟨rfl, rfl⟩ := trodVars_none hV
  have hlt : ∀ x ∈ p, x.block < W.heap.size := fun x hx => hW'.lt x (by simp [hx])
  refine ⟨ds, [], p ++ [], [], p, [], hW', ?_, ?_, ?_, hb.frame _, fun h => by cases h⟩
  · rw [List.append_nil, hs, hT]
    exact trodAll_mk1 (shut_bool hB _)
  · rw [List.append_nil, hs]
    exact trodAll_below hl hb hr hA hlt
  · rw [List.append_nil, hs, hsv]
    rfl
end
end Go.Am
namespace Go.Am
variable [T : Tab]
theorem steps : type_of% (And.intro @ev_skip <| And.intro @ev_label <| And.intro @ev_ret <| And.intro @ev_exit <| And.intro @ev_seq <| And.intro @ev_cond <| And.intro @ev_block <| And.intro @ev_scope <| And.intro @ev_reg <| And.intro @ev_loop <| And.intro @ev_range <| And.intro @seqK_normal <| And.intro @seqK_ret <| And.intro @seqK_exit <| And.intro @blkK_normal <| And.intro @blkK_ret <| And.intro @blkK_exit <| And.intro @scoK_normal <| And.intro @scoK_ret <| And.intro @scoK_exit <| And.intro @loopK_ret <| And.intro @loopK_exit <| And.intro @bodyK_ret <| And.intro @bodyK_normal <| And.intro @rgn_end_f <| And.intro @rgn_end_t <| And.intro @rgn_step <| And.intro @skg_some <| And.intro @skg_none <| And.intro @gk_none <| And.intro @gk_some <| And.intro @gkS_some <| And.intro @gkV_bool <| And.intro @gkV_tup <| And.intro @gsel_never <| And.intro @gslot_eq <| And.intro @bind_dst <| And.intro @gsel_free <| And.intro @gsel_tt <| And.intro @gsel_ff <| And.intro @gsel_tf <| And.intro @gsel_ft <| And.intro @gsel_t <| And.intro @gsel_f <| And.intro @setB_eq <| And.intro @bcase_true <| And.intro @bcase_false <| And.intro @condx_bool <| And.intro @condx_bx <| And.intro @g_move <| And.intro @g_assign <| And.intro @g_pick <| And.intro @g_alloc <| And.intro @g_box <| And.intro @g_build <| And.intro @g_buildSlice <| And.intro @g_load <| And.intro @g_store <| And.intro @g_nilCheck <| And.intro @g_binOp <| And.intro @g_unOp <| And.intro @g_convert <| And.intro @g_makeFunc <| And.intro @g_makeSlice <| And.intro @g_slice <| And.intro @g_slice3 <| And.intro @g_fieldAddr <| And.intro @g_field <| And.intro @g_indexAddr <| And.intro @g_index <| And.intro @g_extract <| And.intro @g_builtin <| And.intro @g_call <| And.intro @g_makeMap <| And.intro @g_mapUpdate <| And.intro @g_insert <| And.intro @g_entry <| And.intro @nextx_text <| And.intro @g_lookup <| And.intro @g_range <| And.intro @g_next <| And.intro @evL_global <| And.intro @oc_map <| And.intro @o1_map <| And.intro @idx_vs <| And.intro @evL_tmp <| And.intro @evL_const <| And.intro @evL_func <| And.intro @oc_int <| And.intro @oc_bool <| And.intro @oc_string <| And.intro @oc_nil <| And.intro @oc_ptr <| And.intro @o1_int <| And.intro @o1_bool <| And.intro @o1_string <| And.intro @o1_nil <| And.intro @o1_ptr <| And.intro @lookO_eq <| And.intro @evP_nil <| And.intro @evP_cons <| And.intro @evLs_nil <| And.intro @evLs_cons <| And.intro @evM_none <| And.intro @evM_some <| And.intro @eidx_int <| And.intro @extr_0 <| And.intro @extr_1 <| And.intro @extr_2 <| And.intro @epick_t <| And.intro @epick_f <| And.intro @epick_b <| And.intro @x_idx <| And.intro @x_idxc <| And.intro @x_loadV <| And.intro @load_ptr <| And.intro @load_d <| And.intro @load_v <| And.intro @idx_K <| And.intro @idx_sl <| And.intro @idx_csl <| And.intro @idx_vec <| And.intro @idx_sub <| And.intro @x_pure <| And.intro @x_ok1 <| And.intro @x_ok1n <| And.intro @x_ps <| And.intro @x_pn <| And.intro @x_us <| And.intro @x_un <| And.intro @upd_nil <| And.intro @upd_1 <| And.intro @upd_cons <| And.intro @resA_arr <| And.intro @resA_0 <| And.intro @resA_c <| And.intro @resA_1 <| And.intro @resA_two <| And.intro @resA_three <| And.intro @res1_tmp <| @res1_cell) :=
  And.intro @ev_skip <| And.intro @ev_label <| And.intro @ev_ret <| And.intro @ev_exit <| And.intro @ev_seq <| And.intro @ev_cond <| And.intro @ev_block <| And.intro @ev_scope <| And.intro @ev_reg <| And.intro @ev_loop <| And.intro @ev_range <| And.intro @seqK_normal <| And.intro @seqK_ret <| And.intro @seqK_exit <| And.intro @blkK_normal <| And.intro @blkK_ret <| And.intro @blkK_exit <| And.intro @scoK_normal <| And.intro @scoK_ret <| And.intro @scoK_exit <| And.intro @loopK_ret <| And.intro @loopK_exit <| And.intro @bodyK_ret <| And.intro @bodyK_normal <| And.intro @rgn_end_f <| And.intro @rgn_end_t <| And.intro @rgn_step <| And.intro @skg_some <| And.intro @skg_none <| And.intro @gk_none <| And.intro @gk_some <| And.intro @gkS_some <| And.intro @gkV_bool <| And.intro @gkV_tup <| And.intro @gsel_never <| And.intro @gslot_eq <| And.intro @bind_dst <| And.intro @gsel_free <| And.intro @gsel_tt <| And.intro @gsel_ff <| And.intro @gsel_tf <| And.intro @gsel_ft <| And.intro @gsel_t <| And.intro @gsel_f <| And.intro @setB_eq <| And.intro @bcase_true <| And.intro @bcase_false <| And.intro @condx_bool <| And.intro @condx_bx <| And.intro @g_move <| And.intro @g_assign <| And.intro @g_pick <| And.intro @g_alloc <| And.intro @g_box <| And.intro @g_build <| And.intro @g_buildSlice <| And.intro @g_load <| And.intro @g_store <| And.intro @g_nilCheck <| And.intro @g_binOp <| And.intro @g_unOp <| And.intro @g_convert <| And.intro @g_makeFunc <| And.intro @g_makeSlice <| And.intro @g_slice <| And.intro @g_slice3 <| And.intro @g_fieldAddr <| And.intro @g_field <| And.intro @g_indexAddr <| And.intro @g_index <| And.intro @g_extract <| And.intro @g_builtin <| And.intro @g_call <| And.intro @g_makeMap <| And.intro @g_mapUpdate <| And.intro @g_insert <| And.intro @g_entry <| And.intro @nextx_text <| And.intro @g_lookup <| And.intro @g_range <| And.intro @g_next <| And.intro @evL_global <| And.intro @oc_map <| And.intro @o1_map <| And.intro @idx_vs <| And.intro @evL_tmp <| And.intro @evL_const <| And.intro @evL_func <| And.intro @oc_int <| And.intro @oc_bool <| And.intro @oc_string <| And.intro @oc_nil <| And.intro @oc_ptr <| And.intro @o1_int <| And.intro @o1_bool <| And.intro @o1_string <| And.intro @o1_nil <| And.intro @o1_ptr <| And.intro @lookO_eq <| And.intro @evP_nil <| And.intro @evP_cons <| And.intro @evLs_nil <| And.intro @evLs_cons <| And.intro @evM_none <| And.intro @evM_some <| And.intro @eidx_int <| And.intro @extr_0 <| And.intro @extr_1 <| And.intro @extr_2 <| And.intro @epick_t <| And.intro @epick_f <| And.intro @epick_b <| And.intro @x_idx <| And.intro @x_idxc <| And.intro @x_loadV <| And.intro @load_ptr <| And.intro @load_d <| And.intro @load_v <| And.intro @idx_K <| And.intro @idx_sl <| And.intro @idx_csl <| And.intro @idx_vec <| And.intro @idx_sub <| And.intro @x_pure <| And.intro @x_ok1 <| And.intro @x_ok1n <| And.intro @x_ps <| And.intro @x_pn <| And.intro @x_us <| And.intro @x_un <| And.intro @upd_nil <| And.intro @upd_1 <| And.intro @upd_cons <| And.intro @resA_arr <| And.intro @resA_0 <| And.intro @resA_c <| And.intro @resA_1 <| And.intro @resA_two <| And.intro @resA_three <| And.intro @res1_tmp <| @res1_cell
attribute [push_cast] stPut_none stDel_none lookT lookO effAlloc effBox effBuild effSlice0 loadP loadVo loadR loadD
attribute [push_cast] loadV_cons effStore effNil effBin effUn effConvH effConv effMake effSlice effFieldAddr effField idxK
attribute [push_cast] idxA idx_V idx_U effClear effCopy sliceSub resC res2 res3 pickAt strsA intsA
attribute [push_cast] aE_eq rI rV rC rF rT rIs rE_eq ex_eta rowsI_snoc rowsIs_snoc rowsV_snoc
attribute [push_cast] rowsC_snoc rowsF_snoc rowsT_snoc rowsE_snoc rowsOf_length rowsOf_take rowsOf_drop effIndex effMakeMap effMapUpd effInsert bagOf
attribute [push_cast] effAppG effSliceG bag_bind effDelete effLookup effRange effNext effLenM effIdxVs makeMaps makeVars hasN mgot keyOf
attribute [push_cast] effBuiltin effLen effAppend effEq intBin strBin nilA nilLit eqEff eqA eqFs fieldOf
attribute [push_cast] loadA TI.isAgg A.cells A.storable A.isOne Go.Am.splice frzL frz fillR fillA placeS zrow
attribute [push_cast] zcell srcA apSrc apRoom bnd int64 ok1 upds put epick extr pickA
attribute [push_cast] ofConst1 oc_agg one List.getElem?_cons_zero List.getElem?_cons_succ List.getElem?_nil List.map_cons List.map_nil List.length_cons List.length_nil List.take_succ_cons List.take_zero
attribute [push_cast] List.take_nil List.drop_succ_cons List.drop_zero List.drop_nil List.cons_append List.nil_append List.append_nil List.set_cons_zero List.set_cons_succ List.headD_cons List.tail_cons List.all_cons
attribute [push_cast] List.all_nil List.getD_cons_zero List.getD_cons_succ bne_self_eq_false beq_self_eq_true Option.isSome_some Option.isSome_none A.ren Ob.ren renL ren1 Option.map_some
attribute [push_cast] Option.map_none Option.getD_some Bool.and_true Bool.true_and Bool.and_false Bool.false_and Bool.or_true Bool.true_or Bool.not_true Bool.not_false decide_true decide_false
attribute [push_cast] ite_true ite_false Nat.add_zero Nat.zero_add true_and and_true eq_self ne_eq not_false_eq_true not_true_eq_false Bool.false_eq_true List.replicate_zero
attribute [push_cast] List.replicate_succ Int.toNat_natCast
theorem ends : type_of% (And.intro @Ob.ren.eq_7 <| And.intro @Ob.closed.eq_7 <| And.intro @A.ren.eq_17 <| And.intro @A.closed.eq_17 <| And.intro @Ob.ren.eq_5 <| And.intro @Ob.closed.eq_5 <| And.intro @A.ren.eq_16 <| And.intro @A.closed.eq_16 <| And.intro @Ob.ren.eq_4 <| And.intro @Ob.closed.eq_4 <| And.intro @A.ren.eq_15 <| And.intro @A.closed.eq_15 <| And.intro @A.ren.eq_14 <| And.intro @A.closed.eq_14 <| And.intro @Ob.ren.eq_3 <| And.intro @Ob.closed.eq_3 <| And.intro @A.ren.eq_13 <| And.intro @A.ren.eq_12 <| And.intro @A.ren.eq_11 <| And.intro @A.closed.eq_13 <| And.intro @A.closed.eq_12 <| And.intro @A.closed.eq_11 <| And.intro @keepT.eq_1 <| And.intro @keepT.eq_2 <| And.intro @lookT.eq_1 <| And.intro @lookT.eq_2 <| And.intro @keepO.eq_1 <| And.intro @keepO.eq_2 <| And.intro @keepIn.eq_1 <| And.intro @keepIn.eq_2 <| And.intro @lookO.eq_1 <| And.intro @lookO.eq_2 <| And.intro @updO.eq_1 <| And.intro @updO.eq_2 <| And.intro @inO.eq_1 <| And.intro @A.closed.eq_1 <| And.intro @A.closed.eq_2 <| And.intro @A.closed.eq_3 <| And.intro @A.closed.eq_4 <| And.intro @A.closed.eq_5 <| And.intro @A.closed.eq_6 <| And.intro @A.closed.eq_7 <| And.intro @A.closed.eq_8 <| And.intro @A.closed.eq_9 <| And.intro @A.closed.eq_10 <| And.intro @closedL.eq_1 <| And.intro @closedL.eq_2 <| And.intro @Ob.closed.eq_1 <| And.intro @Ob.closed.eq_2 <| And.intro @upds.eq_1 <| And.intro @upds.eq_2 <| And.intro @put.eq_1 <| And.intro @argT.eq_1 <| And.intro @argT.eq_2 <| And.intro @hosL.eq_1 <| And.intro @hosL.eq_2 <| And.intro @ren1.eq_1 <| And.intro @ren1.eq_2 <| And.intro @renL.eq_1 <| And.intro @renL.eq_2 <| And.intro @A.ren.eq_1 <| And.intro @A.ren.eq_2 <| And.intro @A.ren.eq_3 <| And.intro @A.ren.eq_4 <| And.intro @A.ren.eq_5 <| And.intro @A.ren.eq_6 <| And.intro @A.ren.eq_7 <| And.intro @A.ren.eq_8 <| And.intro @A.ren.eq_9 <| And.intro @A.ren.eq_10 <| And.intro @Ob.ren.eq_1 <| And.intro @Ob.ren.eq_2 <| And.intro @Option.some.injEq.{0} <| And.intro @true_and <| And.intro @and_true <| And.intro @Bool.true_and <| And.intro @Bool.and_true <| And.intro @Go.Am.splice.eq_1 <| And.intro @List.take_succ_cons.{0} <| And.intro @List.take_zero.{0} <| And.intro @List.take_nil.{0} <| And.intro @List.drop_succ_cons.{0} <| And.intro @List.drop_zero.{0} <| And.intro @List.drop_nil.{0} <| And.intro @List.cons_append.{0} <| And.intro @List.nil_append.{0} <| And.intro @List.append_nil.{0} <| And.intro @List.length_cons.{0} <| And.intro @List.length_nil.{0} <| And.intro @Ob.var.injEq <| And.intro @List.cons.injEq.{0} <| And.intro @A.d.injEq <| And.intro @D.lit.injEq <| And.intro @Go.Value.int.injEq <| And.intro @not_true_eq_false <| And.intro @or_true <| And.intro @true_or <| And.intro @Nat.add_zero <| And.intro @Nat.zero_add <| And.intro @Option.isSome_some.{0} <| And.intro @Option.isSome_none.{0} <| And.intro @closed_aD <| And.intro @ren_aD <| And.intro @closed_agg_d <| And.intro @ren_agg_d <| And.intro @closed_aE <| And.intro @ren_aE <| And.intro @ex_eta <| And.intro @List.headD_cons.{0} <| And.intro @List.tail_cons.{0} <| And.intro @rowsOf_cons <| And.intro @rowsOf_nil <| And.intro @rI.eq_1 <| And.intro @idsOk.eq_1 <| And.intro @List.all_cons.{0} <| And.intro @List.all_nil.{0} <| And.intro @List.map_cons.{0,0} <| And.intro @List.map_nil.{0,0} <| And.intro @List.nodup_cons.{0} <| And.intro @List.nodup_nil.{0} <| And.intro @List.not_mem_nil.{0} <| @List.mem_cons.{0}) :=
  And.intro @Ob.ren.eq_7 <| And.intro @Ob.closed.eq_7 <| And.intro @A.ren.eq_17 <| And.intro @A.closed.eq_17 <| And.intro @Ob.ren.eq_5 <| And.intro @Ob.closed.eq_5 <| And.intro @A.ren.eq_16 <| And.intro @A.closed.eq_16 <| And.intro @Ob.ren.eq_4 <| And.intro @Ob.closed.eq_4 <| And.intro @A.ren.eq_15 <| And.intro @A.closed.eq_15 <| And.intro @A.ren.eq_14 <| And.intro @A.closed.eq_14 <| And.intro @Ob.ren.eq_3 <| And.intro @Ob.closed.eq_3 <| And.intro @A.ren.eq_13 <| And.intro @A.ren.eq_12 <| And.intro @A.ren.eq_11 <| And.intro @A.closed.eq_13 <| And.intro @A.closed.eq_12 <| And.intro @A.closed.eq_11 <| And.intro @keepT.eq_1 <| And.intro @keepT.eq_2 <| And.intro @lookT.eq_1 <| And.intro @lookT.eq_2 <| And.intro @keepO.eq_1 <| And.intro @keepO.eq_2 <| And.intro @keepIn.eq_1 <| And.intro @keepIn.eq_2 <| And.intro @lookO.eq_1 <| And.intro @lookO.eq_2 <| And.intro @updO.eq_1 <| And.intro @updO.eq_2 <| And.intro @inO.eq_1 <| And.intro @A.closed.eq_1 <| And.intro @A.closed.eq_2 <| And.intro @A.closed.eq_3 <| And.intro @A.closed.eq_4 <| And.intro @A.closed.eq_5 <| And.intro @A.closed.eq_6 <| And.intro @A.closed.eq_7 <| And.intro @A.closed.eq_8 <| And.intro @A.closed.eq_9 <| And.intro @A.closed.eq_10 <| And.intro @closedL.eq_1 <| And.intro @closedL.eq_2 <| And.intro @Ob.closed.eq_1 <| And.intro @Ob.closed.eq_2 <| And.intro @upds.eq_1 <| And.intro @upds.eq_2 <| And.intro @put.eq_1 <| And.intro @argT.eq_1 <| And.intro @argT.eq_2 <| And.intro @hosL.eq_1 <| And.intro @hosL.eq_2 <| And.intro @ren1.eq_1 <| And.intro @ren1.eq_2 <| And.intro @renL.eq_1 <| And.intro @renL.eq_2 <| And.intro @A.ren.eq_1 <| And.intro @A.ren.eq_2 <| And.intro @A.ren.eq_3 <| And.intro @A.ren.eq_4 <| And.intro @A.ren.eq_5 <| And.intro @A.ren.eq_6 <| And.intro @A.ren.eq_7 <| And.intro @A.ren.eq_8 <| And.intro @A.ren.eq_9 <| And.intro @A.ren.eq_10 <| And.intro @Ob.ren.eq_1 <| And.intro @Ob.ren.eq_2 <| And.intro @Option.some.injEq.{0} <| And.intro @true_and <| And.intro @and_true <| And.intro @Bool.true_and <| And.intro @Bool.and_true <| And.intro @Go.Am.splice.eq_1 <| And.intro @List.take_succ_cons.{0} <| And.intro @List.take_zero.{0} <| And.intro @List.take_nil.{0} <| And.intro @List.drop_succ_cons.{0} <| And.intro @List.drop_zero.{0} <| And.intro @List.drop_nil.{0} <| And.intro @List.cons_append.{0} <| And.intro @List.nil_append.{0} <| And.intro @List.append_nil.{0} <| And.intro @List.length_cons.{0} <| And.intro @List.length_nil.{0} <| And.intro @Ob.var.injEq <| And.intro @List.cons.injEq.{0} <| And.intro @A.d.injEq <| And.intro @D.lit.injEq <| And.intro @Go.Value.int.injEq <| And.intro @not_true_eq_false <| And.intro @or_true <| And.intro @true_or <| And.intro @Nat.add_zero <| And.intro @Nat.zero_add <| And.intro @Option.isSome_some.{0} <| And.intro @Option.isSome_none.{0} <| And.intro @closed_aD <| And.intro @ren_aD <| And.intro @closed_agg_d <| And.intro @ren_agg_d <| And.intro @closed_aE <| And.intro @ren_aE <| And.intro @ex_eta <| And.intro @List.headD_cons.{0} <| And.intro @List.tail_cons.{0} <| And.intro @rowsOf_cons <| And.intro @rowsOf_nil <| And.intro @rI.eq_1 <| And.intro @idsOk.eq_1 <| And.intro @List.all_cons.{0} <| And.intro @List.all_nil.{0} <| And.intro @List.map_cons.{0,0} <| And.intro @List.map_nil.{0,0} <| And.intro @List.nodup_cons.{0} <| And.intro @List.nodup_nil.{0} <| And.intro @List.not_mem_nil.{0} <| @List.mem_cons.{0}
theorem bs : type_of% (And.intro @num.eq_1 <| And.intro @boo.eq_1 <| And.intro @str.eq_1 <| And.intro @aV.eq_1 <| @aE_eq) :=
  And.intro @num.eq_1 <| And.intro @boo.eq_1 <| And.intro @str.eq_1 <| And.intro @aV.eq_1 <| @aE_eq
end Go.Am
namespace Go.Am
variable [T : Tab]
section
variable {P : Program} {tt : Types} {ops : Array Oper} {dr : Bool} {rest : List Oper} {log : List Foot} {K : SL → Prop}
theorem callq {f : FuncId} {caps as : List A} {d : Option Nat} {t : List (Nat × A)} {o : List (Nat × Ob)} (cws : List (List Nat)) (rn : List (Nat × Nat)) {g : FrzSL} {cas : List A} {os os' : List (Nat × Ob)} {cres : A} (ac : ACall P f cas os cres os')
    (h : effx P tt ops dr (some ⟨True, cres.ren (ren1 rn), g.upd ++ os'.map (fun p => (ren1 rn p.1, p.2.ren (ren1 rn))), g.rd ++ os'.map (fun p => ren1 rn p.1)⟩) d rest log K ⟨t, o⟩)
    (hz : frzAL (lookO o) cws (as ++ caps) = some g := by exact rfl) (hgs : g.side := by simp [rowsOf_length] <;> omega) (hargs : renL (ren1 rn) cas = g.xs := by simp [ends, bs])
    (hcl : closedL (inO os) cas = true := by first | rfl | simp [ends, bs]) (hos : hosL (lookO (updO o g.upd)) (ren1 rn) (inO os) os := by simp [ends])
    (hid : idsOk (ren1 rn) (lookO (updO o g.upd)) (os.map (·.1)) (os'.map (·.1)) := by simp [idsOk, lookO, updO, ren1]) : callx P tt ops dr (.clo f caps) as d rest log K ⟨t, o⟩ :=
  callx_of cws rn hz ac hgs hargs hcl hos hid h
end
theorem enterq {P : Program} {tt : Types} (hm : P.follows .mixedOrders = true) (T : tt.ok P) {f : FuncId} {fn : Func} {c : Code} {as : List A} {os os' : List (Nat × Ob)} {res : A} {N : Nat} {ra : Array ResultVar} (hf : P.funcs[f]? = some fn)
    (hNn : fn.ntmps = N) (hrs : fn.results = ra) (h : ev P tt c (bodyK tt ra.toList res os') ⟨argT 0 as, os⟩) (hname : (fn.name == "runtime.NumGoroutine") = false := by exact rfl) (hb : fn.body = some c := by exact rfl)
    (hN : as.length ≤ N := by exact Nat.le_of_ble_eq_true rfl) (hc : cOk N c = true := by kernel_rfl) (hmk : noMk os' = true := by first | rfl | (simp [noMk]; done)) : ACall P f as os res os' :=
  ACall.enter hm T hf hname hb N hNn hN hc ra.toList (congrArg Array.toList hrs) h hmk
end Go.Am
namespace Go.Am
/-- An operation: its word, the number of its operands, their types, its own type. -/
structure OpD where
  word : ByteArray
  kids : Int
  types : Int
  own : Int
instance : Inhabited OpD := ⟨⟨ByteArray.empty, 0, 0, 0⟩⟩
end Go.Am
namespace Go.Am
variable [T : Tab]
def pickT (t : List (Nat × A)) : List Nat → List (Nat × A)
  | [] => []
  | k :: ks => (k, lookT t k) :: pickT t ks
def consO (k : Nat) (ob : Option Ob) (l : List (Nat × Ob)) : List (Nat × Ob) := match ob with
  | some ob => (k, ob) :: l
  | none => l
theorem consO_some (k : Nat) (ob : Ob) (l : List (Nat × Ob)) : consO k (some ob) l = (k, ob) :: l := rfl
def pickO (o : List (Nat × Ob)) : List Nat → List (Nat × Ob)
  | [] => []
  | k :: ks => consO k (lookO o k) (pickO o ks)
/-- The head of a loop that counts: the counter, what turns with it, and what stays. -/
def cst (ctr : Nat) (kt : List (Nat × A)) (ko : List (Nat × Ob)) (ts : Nat → List (Nat × A)) (os : Nat → List (Nat × Ob)) (n : Nat) : SL := ⟨(ctr, .d (.lit (.int .i64 n))) :: (ts n ++ kt), os n ++ ko⟩
theorem loop_count {P : Program} {tt : Types} (hm : P.follows .mixedOrders = true) (T' : tt.ok P) {c : Code} {K : Exit → SL → Prop} {t : List (Nat × A)} {o : List (Nat × Ob)} {kt : List (Nat × A)} {ko : List (Nat × Ob)}
    (ctr : Nat) (keep keepo : List Nat) (hk : pickT t keep = kt) (hko : pickO o keepo = ko) (N : Nat) (Inv : Nat → Prop) (ts : Nat → List (Nat × A)) (os : Nat → List (Nat × Ob)) (h0 : Inv 0)
    (hw : Weak (SL.mk t o).st (cst ctr kt ko ts os 0).st)
    (step : ∀ (I : {n : Nat // n ≤ N ∧ Inv n} → SL), (∀ x, I x = cst ctr kt ko ts os x.1) → ∀ (n : Nat) (hn : n ≤ N) (hi : Inv n), ev P tt c (loopK I (fun x => N - x.1) ⟨n, hn, hi⟩ K) (cst ctr kt ko ts os n)) :
    loopx P c K ⟨t, o⟩ :=
  loop_intro hm T' (fun x : {n : Nat // n ≤ N ∧ Inv n} => cst ctr kt ko ts os x.1) (fun x => N - x.1) ⟨0, Nat.zero_le _, h0⟩ hw fun ⟨n, hn, hi⟩ => step _ (fun _ => rfl) n hn hi
theorem cnt_again {N : Nat} {Inv : Nat → Prop} {I : {n : Nat // n ≤ N ∧ Inv n} → SL} {ctr : Nat} {kt : List (Nat × A)} {ko : List (Nat × Ob)} {ts : Nat → List (Nat × A)} {os : Nat → List (Nat × Ob)} (hI : ∀ x, I x = cst ctr kt ko ts os x.1)
    (n : Nat) {x : {n : Nat // n ≤ N ∧ Inv n}} (hx : x.1 = n) {K : Exit → SL → Prop} {t : List (Nat × A)} {o : List (Nat × Ob)} (h1 : n < N) (h2 : Inv (n + 1))
    (hct : lookT t ctr = .d (.lit (.int .i64 (n + 1 : Nat))))
    (ht : keepT (lookT t) (inO (os (n + 1) ++ ko)) (ts (n + 1) ++ kt)) (ho : keepO (lookO o) (inO (os (n + 1) ++ ko)) (os (n + 1) ++ ko)) (hin : keepIn (inO (os (n + 1) ++ ko)) o) :
    loopK I (fun x => N - x.1) x K .normal ⟨t, o⟩ := by
  refine ⟨⟨n + 1, h1, h2⟩, by show N - (n + 1) < N - x.1; omega, ?_⟩
  rw [hI]
  exact Weak.keepL ⟨⟨hct, rfl⟩, ht⟩ ho hin
theorem drop_cons {α : Type} [Inhabited α] (l : List α) (n : Nat) (h : n < l.length) : l.drop n = l.getD n default :: l.drop (n + 1) := by
  rw [List.drop_eq_getElem_cons h, List.getD_eq_getElem?_getD, List.getElem?_eq_getElem h]
  rfl
/-- The place of the first element of a kind; -1: there is none. -/
def fidx {α : Type} (p : α → Bool) : List α → Int
  | [] => -1
  | x :: l => if p x then 0 else if fidx p l < 0 then -1 else fidx p l + 1
theorem fidx_ge {α : Type} (p : α → Bool) : ∀ l : List α, -1 ≤ fidx p l
  | [] => by simp [fidx]
  | x :: l => by have := fidx_ge p l; simp only [fidx]; split <;> (try split) <;> omega
theorem fidx_lt {α : Type} (p : α → Bool) : ∀ l : List α, fidx p l < l.length
  | [] => by simp [fidx]
  | x :: l => by have := fidx_lt p l; simp only [fidx, List.length_cons]; split <;> (try split) <;> omega
/-- Where nothing ahead is of the kind. -/
theorem fidx_at {α : Type} [Inhabited α] (p : α → Bool) : ∀ (l : List α) (n : Nat), n < l.length → (∀ i, i < n → p (l.getD i default) = false) → p (l.getD n default) = true → fidx p l = n
  | [], n, h, _, _ => by simp at h
  | x :: l, 0, _, _, hp => by simp at hp; simp [fidx, hp]
  | x :: l, n + 1, h, hb, hp => by
    have h0 := hb 0 (by omega)
    simp at h0
    have := fidx_at p l n (by simpa using h) (fun i hi => by simpa using hb (i + 1) (by omega)) (by simpa using hp)
    simp only [fidx, h0, this]
    rw [if_neg (by simp), if_neg (by omega)]
    omega
theorem fidx_none {α : Type} [Inhabited α] (p : α → Bool) : ∀ (l : List α), (∀ i, i < l.length → p (l.getD i default) = false) → fidx p l = -1
  | [], _ => rfl
  | x :: l, hb => by
    have h0 := hb 0 (by simp)
    simp at h0
    have := fidx_none p l (fun i hi => by simpa using hb (i + 1) (by simpa using hi))
    simp [fidx, h0, this]
theorem fidx_neg {α : Type} (p : α → Bool) : ∀ l : List α, fidx p l < 0 ↔ l.any p = false
  | [] => by simp [fidx]
  | x :: l => by
    have := fidx_neg p l
    have := fidx_ge p l
    simp only [fidx, List.any_cons, Bool.or_eq_false_iff]
    split
    · rename_i h; simp [h]
    · rename_i h; simp only [Bool.not_eq_true] at h; split
      · rename_i h2; simp [h, (fidx_neg p l).1 h2]
      · rename_i h2; exact ⟨fun h3 => by omega, fun h3 => absurd ((fidx_neg p l).2 h3.2) h2⟩
theorem take_snoc {α : Type} [Inhabited α] (l : List α) (n : Nat) (h : n < l.length) : l.take (n + 1) = l.take n ++ [l.getD n default] := by
  rw [List.take_succ_eq_append_getElem h, List.getD_eq_getElem?_getD, List.getElem?_eq_getElem h]
  rfl
theorem getD_mem {α : Type} [Inhabited α] {l : List α} {n : Nat} (h : n < l.length) : l.getD n default ∈ l := by
  rw [List.getD_eq_getElem?_getD, List.getElem?_eq_getElem h]; exact List.getElem_mem h
theorem wrap_succ {n N : Nat} (h : n < N) (hN : N ≤ 1000000000) : IntKind.i64.wrap ((n : Int) + 1) = ((n + 1 : Nat) : Int) := by rw [wrap_eq (by omega) (by omega)]; rfl
/-- A function's end: one value that is data. -/
theorem ret_d {p : Prop} {x : D} {t : List (Nat × A)} {o : List (Nat × Ob)} {R : A} (hp : p) (hr : A.d x = R) (ho : keepIn (inO []) o) : retx (some (p, A.d x)) ⟨t, o⟩ R [] := by
  subst hr
  exact retx_of [] rfl hp trivial rfl rfl trivial ho
/-- Two. -/
theorem ret_d2 {p : Prop} {x y : D} {t : List (Nat × A)} {o : List (Nat × Ob)} {R : A} (hp : p) (hr : A.tup [.d x, .d y] = R) (ho : keepIn (inO []) o) : retx (some (p, .tup [.d x, .d y])) ⟨t, o⟩ R [] := by
  subst hr
  exact retx_tup [[], []] rfl hp (by simp) rfl rfl trivial ho
end Go.Am
namespace Go.Am
variable [T : Tab]
/-- The number a turns into b. -/
def ren1to (a b : Nat) (o : Nat) : Nat := if o = a then b else o
section
variable {cx : Cx} {β : Nat → Option (Option Nat)} {h : Nat → Option Ob} {w : World} {a b : Nat}
def renβ (a b : Nat) (β : Nat → Option (Option Nat)) : Nat → Option (Option Nat) := fun o => if o = b then β a else if o = a then none else β o
def renH (a b : Nat) (h : Nat → Option Ob) : Nat → Option Ob := fun o => if o = b then (h a).map (·.ren (ren1to a b)) else if o = a then none else (h o).map (·.ren (ren1to a b))
theorem renβ_to (hab : a ≠ b) (hb : β b = none) (o : Nat) (x : Option Nat) (ho : β o = some x) : renβ a b β (ren1to a b o) = β o := by
  unfold renβ ren1to
  by_cases h1 : o = a
  · simp [h1]
  · rw [if_neg h1]
    by_cases h2 : o = b
    · subst h2; rw [hb] at ho; cases ho
    · simp [h1, h2]
theorem renH_to (hab : a ≠ b) (hb : h b = none) (o : Nat) (ob : Ob) (ho : h o = some ob) : renH a b h (ren1to a b o) = some (ob.ren (ren1to a b)) := by
  unfold renH
  by_cases h1 : o = a
  · subst h1; simp [ren1to, ho]
  · have : ren1to a b o = o := by simp [ren1to, h1]
    rw [this]
    by_cases h2 : o = b
    · subst h2; rw [hb] at ho; cases ho
    · simp [h1, h2, ho]
theorem renβ_of (hab : a ≠ b) (o : Nat) (x : Option Nat) (ho : renβ a b β o = some x) : ∃ o', ren1to a b o' = o ∧ β o' = some x := by
  unfold renβ at ho
  by_cases h2 : o = b
  · subst h2; simp at ho; exact ⟨a, by simp [ren1to], ho⟩
  · rw [if_neg h2] at ho
    by_cases h1 : o = a
    · simp [h1] at ho
    · rw [if_neg h1] at ho; exact ⟨o, by simp [ren1to, h1], ho⟩
theorem renH_of (hab : a ≠ b) (o : Nat) (ob : Ob) (ho : renH a b h o = some ob) : ∃ o' ob', ren1to a b o' = o ∧ h o' = some ob' ∧ ob = ob'.ren (ren1to a b) := by
  unfold renH at ho
  by_cases h2 : o = b
  · subst h2
    simp only [if_true, Option.map_eq_some_iff] at ho
    obtain ⟨ob', h3, h4⟩ := ho
    exact ⟨a, ob', by simp [ren1to], h3, h4.symm⟩
  · rw [if_neg h2] at ho
    by_cases h1 : o = a
    · simp [h1] at ho
    · rw [if_neg h1, Option.map_eq_some_iff] at ho
      obtain ⟨ob', h3, h4⟩ := ho
      exact ⟨o, ob', by simp [ren1to, h1], h3, h4.symm⟩
/-- An object gets another number, that nobody has; it is none of those that were handed in. -/
theorem Rel.ren (r : Rel cx β h w) (hab : a ≠ b) (ha : a < 1000) (hb : h b = none) :
    Rel cx (renβ a b β) (renH a b h) w ∧ Env.Ren (ren1to a b) (envOf cx.Xo β h w) (envOf cx.Xo (renβ a b β) (renH a b h) w) := by
  have hβb : β b = none := by
    have := r.dom b
    rw [hb] at this
    simpa using this
  have hX : ∀ k i, Xh (renβ a b β) (renH a b h) k i → Xh β h k i := by
    rintro k i ⟨o, ob, h1, h2, h3⟩
    obtain ⟨o', ob', g1, g2, rfl⟩ := renH_of hab o ob h1
    obtain ⟨x, hx⟩ : ∃ x, β o' = some x := by
      have := r.dom o'
      rw [g2] at this
      exact Option.isSome_iff_exists.1 this
    have := renβ_to (β := β) hab hβb o' x hx
    rw [g1, h2] at this
    exact ⟨o', ob', g2, this.symm, Ob.excl_ren.1 h3⟩
  have S : Env.Ren (ren1to a b) (envOf cx.Xo β h w) (envOf cx.Xo (renβ a b β) (renH a b h) w) := by
    refine ⟨fun k i v hr => ⟨hr.1, fun q => hr.2.1 (hX k i q), hr.2.2⟩, fun o ob ho => ?_, fun _ _ q => q⟩
    obtain ⟨x, hx⟩ : ∃ x, β o = some x := by
      have := r.dom o
      rw [show h o = some ob from ho] at this
      exact Option.isSome_iff_exists.1 this
    exact ⟨renH_to hab hb o ob ho, renβ_to hab hβb o x hx⟩
  refine ⟨⟨fun o => ?_, fun o ob bo h1 h2 => ?_, fun o o' k h1 h2 => ?_, fun o k i h1 => ?_, r.bnd, r.ev, fun k i q => r.own k i (hX k i q), fun o ob h1 => ?_, r.big,
    fun g row hg => rowAt_mono S.R (S.R g) row 0 (r.tab g row hg), fun g hg => (r.gi g hg).imp fun _ => S.R _ _ _, r.tsz⟩, S⟩
  · unfold renβ renH
    by_cases h2 : o = b
    · simp [h2, r.dom a]
    · by_cases h1 : o = a
      · subst h1; simp [hab]
      · simp [h1, h2, r.dom o]
  · obtain ⟨o', ob', g1, g2, rfl⟩ := renH_of hab o ob h1
    obtain ⟨x, hx⟩ : ∃ x, β o' = some x := by
      have := r.dom o'
      rw [g2] at this
      exact Option.isSome_iff_exists.1 this
    have h3 := renβ_to (β := β) hab hβb o' x hx
    rw [g1, h2] at h3
    have := r.obj o' ob' bo g2 h3.symm
    cases ob' with
    | var cs =>
      simp only [Ob.ren, Ob.rep] at this ⊢
      obtain ⟨k, c, el, q1, q2, q3, q4⟩ := this
      exact ⟨k, c, el, q1, q2, repL_ren S _ _ q3, q4⟩
    | vec e wd rows fz =>
      simp only [Ob.ren, Ob.rep] at this ⊢
      obtain ⟨q1, q2, q3⟩ := this
      refine ⟨q1, q2, ?_⟩
      rcases q3 with q3 | ⟨k, c, q3, q4, q5, q6⟩
      · exact .inl q3
      · exact .inr ⟨k, c, q3, q4, rowsAt_mono S.R (fun _ _ h => h) _ _ _ q5, q6⟩
    | mp es st => simpa only [Ob.ren, Ob.rep] using this
    | it s p => simpa only [Ob.ren, Ob.rep] using this
    | bag S n => simpa only [Ob.ren, Ob.rep] using this
    | x k as =>
      simp only [Ob.ren, Ob.rep] at this ⊢
      obtain ⟨k', x, vs, q1, q2, q3, q4⟩ := this
      exact ⟨k', x, vs, q1, q2, q3, repL_ren S _ _ q4⟩
    | gv e cs =>
      simp only [Ob.ren, Ob.rep] at this ⊢
      rcases this with q3 | ⟨k, c, vs, tl, q1, q2, q3, q4, q5⟩
      · exact .inl ⟨q3.1, by rw [q3.2]; rfl⟩
      · exact .inr ⟨k, c, vs, tl, q1, q2, q3, repL_ren S _ _ q4, q5⟩
  · obtain ⟨p, p1, p2⟩ := renβ_of hab o _ h1
    obtain ⟨q, q1, q2⟩ := renβ_of hab o' _ h2
    have := r.inj p q k p2 q2
    rw [← p1, ← q1, this]
  · obtain ⟨p, p1, p2⟩ := renβ_of hab o _ h1
    exact r.out p k i p2
  · have hbig := hdd_ge (r.big o (by rw [h1]; rfl))
    obtain ⟨ob', g1, g2⟩ := r.ent o ob h1
    have hr : ren1to a b o = o := by simp only [ren1to]; rw [if_neg (by omega)]
    refine ⟨ob'.ren (ren1to a b), by have := renH_to (h := h) hab hb o ob' g1; rwa [hr] at this, ?_⟩
    obtain ⟨x, hx⟩ : ∃ x, β o = some x := by
      have := r.dom o
      rw [g1] at this
      exact Option.isSome_iff_exists.1 this
    have := renβ_to (β := β) hab hβb o x hx
    rw [hr] at this
    rw [this]
    cases ob <;> cases ob' <;> simp_all [Ob.grow, Ob.ren, renL_length]
def renT (a b : Nat) : List (Nat × A) → List (Nat × A)
  | [] => []
  | (k, v) :: l => (k, v.ren (ren1to a b)) :: renT a b l
def renO (a b : Nat) : List (Nat × Ob) → List (Nat × Ob)
  | [] => []
  | (k, v) :: l => (ren1to a b k, v.ren (ren1to a b)) :: renO a b l
theorem lookT_renT : ∀ (t : List (Nat × A)) (k : Nat), lookT (renT a b t) k = (lookT t k).ren (ren1to a b)
  | [], k => rfl
  | (j, v) :: l, k => by
    simp only [renT, lookT]
    split
    · rfl
    · exact lookT_renT l k
theorem lookO_renO (hab : a ≠ b) : ∀ (o : List (Nat × Ob)), lookO o b = none → lookO (renO a b o) = renH a b (lookO o)
  | [], _ => by funext k; simp [renO, lookO, renH]
  | (j, v) :: l, hb => by
    have hj : j ≠ b := fun e => by simp [lookO, e] at hb
    have hb' : lookO l b = none := by simpa [lookO, hj] using hb
    have ih := lookO_renO hab l hb'
    funext k
    simp only [renO, lookO, ih]
    unfold renH
    by_cases h2 : k = b
    · subst h2
      by_cases h1 : j = a
      · subst h1; simp [ren1to, lookO]
      · simp [ren1to, h1, hj, lookO]
    · by_cases h1 : k = a
      · subst h1
        by_cases h3 : j = k
        · subst h3; simp [ren1to, h2, Ne.symm h2]
        · simp [ren1to, h2, h3]
      · by_cases h3 : j = a
        · subst h3; simp [ren1to, h2, h1, Ne.symm h1, Ne.symm h2, lookO]
        · simp [ren1to, h2, h1, h3, lookO]
          split <;> simp
/-- A state in which an object has another number. -/
theorem Weak.ren {t : List (Nat × A)} {o : List (Nat × Ob)} (a b : Nat) (hab : a ≠ b) (ha : a < 1000) (hb : lookO o b = none) : Weak (SL.mk t o).st (SL.mk (renT a b t) (renO a b o)).st := by
  intro cx N ac w ⟨β, r1, r2, r3, r4⟩
  obtain ⟨q1, q2⟩ := Rel.ren (a := a) (b := b) r1 hab ha hb
  refine ⟨renβ a b β, ?_, fun k => ?_, r3, ?_⟩
  · show Rel cx _ (lookO (renO a b o)) w
    rw [lookO_renO hab o hb]
    exact q1
  · show (lookT (renT a b t) k).rep (envOf cx.Xo _ (lookO (renO a b o)) w) _
    rw [lookT_renT, lookO_renO hab o hb]
    exact A.rep_ren q2 _ _ (r2 k)
  · show MarksOk _ _ (lookO (renO a b o)) _
    rw [lookO_renO hab o hb]
    refine MarksOk.mono r4 fun k as h1 h2 => ?_
    obtain ⟨g1, g2⟩ := q2.h k _ h2
    have e : ren1to a b k = k := by simp only [ren1to]; rw [if_neg (by omega)]
    rw [e] at g1 g2
    exact ⟨⟨_, g1⟩, g2⟩
/-- A function's end: a slice of its own that it hands over. -/
theorem ret_vec {p : Prop} {t : List (Nat × A)} {o : List (Nat × Ob)} {n e wd fz : Nat} {rows : List (List D)} (a : Nat) (hp : p) (ha : a < 1000) (ho : lookO o a = some (.vec e wd rows fz)) (hb : lookO o 1000 = none)
    (hin : keepIn (fun _ => false) o) : retx (some (p, .vec a n)) ⟨t, o⟩ (.vec 1000 n) [(1000, .vec e wd rows fz)] := by
  refine ⟨hp, ?_⟩
  have h1 : Weak (SL.mk [(0, .vec a n)] o).st (SL.mk [(0, .vec a n)] [(a, .vec e wd rows fz)]).st := by
    refine Weak.keepL ⟨⟨rfl, by simp [A.closed, inO, lookO]⟩, trivial⟩ ⟨⟨ho, rfl⟩, trivial⟩ ?_
    have key : ∀ (l : List (Nat × Ob)), keepIn (fun _ => false) l → keepIn (inO [(a, .vec e wd rows fz)]) l := by
      intro l
      induction l with
      | nil => intro _; trivial
      | cons x l ih => intro hl; obtain ⟨k, v⟩ := x; simp only [keepIn] at hl ⊢; exact ⟨.inl (hl.1.resolve_right (by simp)), ih hl.2⟩
    exact key o hin
  have h2 := Weak.ren (t := [(0, .vec a n)]) (o := [(a, .vec e wd rows fz)]) a 1000 (by omega) ha (by simp only [lookO]; rw [if_neg (by omega)])
  simp only [renT, renO, A.ren, Ob.ren, ren1to, if_true] at h2
  exact h1.trans h2
end
end Go.Am
namespace Go.Am
variable [T : Tab]
/-! Maps from numbers to true. -/
/-! Cells that hold such maps, or none; the objects. -/
theorem lookO_cons_ne {k j : Nat} {v : Ob} {l : List (Nat × Ob)} (h : k ≠ j) : lookO ((k, v) :: l) j = lookO l j := by simp only [lookO]; rw [if_neg h]
/-! A call that leaves all objects as they are. -/
theorem upds_self {h : Nat → Option Ob} : ∀ l : List (Nat × Ob), (∀ p ∈ l, h p.1 = some p.2) → upds h l = h
  | [], _ => rfl
  | (o, ob) :: l, hl => by
    simp only [upds]
    have : put h o (some ob) = h := by
      funext i
      by_cases hi : i = o
      · subst hi; rw [put_same]; exact (hl (i, ob) (by simp)).symm
      · rw [put_ne _ _ hi]
    rw [this]
    exact upds_self l fun p hp => hl p (by simp [hp])
theorem FnCall.same {P : Program} {f : FuncId} {as : List A} {h : Nat → Option Ob} {e : Eff} (fc : FnCall P f as h e) (hu : upds h e.upd = h) (hk : ∀ x ∈ e.upd.map (·.1), x ∈ e.rd) : FnCall P f as h ⟨e.side, e.res, [], e.rd⟩ where
  fn := fc.fn
  keyed := by intro p hp; simp at hp
  calls := fun h2 hr2 cx β w vs rel hvs => by
    have hh : upds h2 e.upd = h2 := by
      funext i
      by_cases hi : i ∈ e.upd.map (·.1)
      · rw [upds_mem (h2 := h) _ _ hi, hu]; exact (hr2 i (hk i hi)).symm
      · exact upds_not _ _ hi
    have := fc.calls h2 hr2 cx β w vs rel hvs
    rw [hh] at this
    exact this
end Go.Am
namespace Go.Am
variable [T : Tab]
theorem loop_gen {α : Type} {P : Program} {tt : Types} (hm : P.follows .mixedOrders = true) (T' : tt.ok P) {c : Code} {K : Exit → SL → Prop} {t : List (Nat × A)} {o : List (Nat × Ob)}
    (st : α → SL) (m : α → Nat) (Inv : α → Prop) (x0 : α) (h0 : Inv x0) (hw : Weak (SL.mk t o).st (st x0).st)
    (step : ∀ (I : {x : α // Inv x} → SL), (∀ x h, I ⟨x, h⟩ = st x) → ∀ (x : α) (hi : Inv x), ev P tt c (loopK I (fun x => m x.1) ⟨x, hi⟩ K) (st x)) :
    loopx P c K ⟨t, o⟩ :=
  loop_intro hm T' (fun x : {x : α // Inv x} => st x.1) (fun x => m x.1) ⟨x0, h0⟩ hw fun ⟨x, hi⟩ => step _ (fun _ _ => rfl) x hi
theorem gen_again {α : Type} {st : α → SL} {Inv : α → Prop} {I : {x : α // Inv x} → SL} (hI : ∀ x h, I ⟨x, h⟩ = st x) {mm : {x : α // Inv x} → Nat} {x : {x : α // Inv x}} {K : Exit → SL → Prop} {t : List (Nat × A)} {o : List (Nat × Ob)}
    (y : α) (h2 : Inv y) (h1 : mm ⟨y, h2⟩ < mm x) (hw : Weak (SL.mk t o).st (st y).st) : loopK I mm x K .normal ⟨t, o⟩ := by
  refine ⟨⟨y, h2⟩, h1, ?_⟩
  rw [hI]
  exact hw
/-- The arguments of a call, seen in another way. -/
def View (h : Nat → Option Ob) (as xs : List A) (rd : List Nat) : Prop :=
  ∀ h2, (∀ i ∈ rd, h2 i = h i) → ∀ (cx : Cx) (β : Nat → Option (Option Nat)) (w : World) (vs : List Value), Rel cx β h2 w → repL (envOf cx.Xo β h2 w) as vs → repL (envOf cx.Xo β h2 w) xs vs
theorem view_raw (h : Nat → Option Ob) (as : List A) : View h as as [] := fun _ _ _ _ _ _ _ hv => hv
/-- A slice of one's own as a slice over its object. -/
theorem vec_sub {cx : Cx} {β : Nat → Option (Option Nat)} {h : Nat → Option Ob} {w : World} {o n e wd fz : Nat} {rows : List (List D)} {v : Value} (rel : Rel cx β h w) (ho : h o = some (.vec e wd rows fz)) (hn : n = rows.length)
    (hv : (A.vec o n).rep (envOf cx.Xo β h w) v) : (A.sub o n 0 n).rep (envOf cx.Xo β h w) v := by
  have h1 : one v = true := by
    have hv' := hv
    simp only [A.rep] at hv'
    obtain ⟨_, _, _, _, _, _, h1, _⟩ := hv'
    exact h1
  rcases vec_live ho hn hv with ⟨hb, rfl⟩ | ⟨b, cap, hb, rfl, hcap, hcm, hsz⟩
  · have hd := rel.obj _ _ _ ho hb
    simp only [Ob.rep] at hd
    obtain ⟨_, _, hd | ⟨_, _, hd, _⟩⟩ := hd
    · have hn0 : n = 0 := by rw [hn, hd.2]; rfl
      simp only [A.rep]
      exact ⟨e, wd, rows, fz, ho, by omega, by first | exact h1 | trivial, fun _ => .inl ⟨hb, hn0, by first | rfl | trivial⟩⟩
    · cases hd
  · simp only [A.rep]
    exact ⟨e, wd, rows, fz, ho, by omega, by first | exact h1 | trivial, fun _ => .inr ⟨b, cap, hb, by rw [Nat.zero_mul], hcap, by omega, by omega, by rwa [Nat.zero_add]⟩⟩
theorem view_sub {h : Nat → Option Ob} {o n e wd fz : Nat} {rows : List (List D)} {as : List A} (ho : h o = some (.vec e wd rows fz)) (hn : n = rows.length) : View h (.vec o n :: as) (.sub o n 0 n :: as) [o] := by
  intro h2 hr cx β w vs rel hv
  simp only [repL] at hv ⊢
  obtain ⟨u, us, h1, h2', h3⟩ := hv
  exact ⟨u, us, h1, vec_sub rel ((hr o (by simp)).trans ho) hn h2', h3⟩
section
variable {P : Program} {tt : Types} {ops : Array Oper} {dr : Bool} {rest : List Oper} {log : List Foot} {K : SL → Prop}
/-- A call whose arguments are not shut. -/
theorem callx_ofV {f : FuncId} {caps as : List A} {d : Option Nat} {t : List (Nat × A)} {o : List (Nat × Ob)} (rn : List (Nat × Nat)) {xs : List A} {rd : List Nat} {cas : List A} {os os' : List (Nat × Ob)} {cres : A}
    (hz : View (lookO o) (as ++ caps) xs rd) (ac : ACall P f cas os cres os') (hargs : renL (ren1 rn) cas = xs) (hcl : closedL (inO os) cas = true)
    (hos : hosL (lookO o) (ren1 rn) (inO os) os) (hid : idsOk (ren1 rn) (lookO o) (os.map (·.1)) (os'.map (·.1)))
    (h : effx P tt ops dr (some ⟨True, cres.ren (ren1 rn), os'.map (fun p => (ren1 rn p.1, p.2.ren (ren1 rn))), rd ++ os'.map (fun p => ren1 rn p.1)⟩) d rest log K ⟨t, o⟩) :
    callx P tt ops dr (.clo f caps) as d rest log K ⟨t, o⟩ := by
  obtain ⟨i1, ⟨i2, i2'⟩, i3⟩ := hid
  have i1' : ∀ o, o ∈ os.map (·.1) → o ∈ os'.map (·.1) ∧ hdd o = true := fun o ho => by
    have := List.all_eq_true.1 i1 o ho
    simpa using this
  have h := h.2
  refine ⟨_, FnCall.ofV (g := ⟨xs, [], rd, True⟩) (by simp [Keyed]) (fun h2 hr cx β w vs rel hv => ⟨rel, Env.Le.refl _, hz h2 hr cx β w vs rel hv⟩) ac (ren1 rn) hargs hcl (fun x ob hx => hosL_spec os hos x ob hx) (fun x hx => ?_) (fun x y hx hy => ?_) (fun x hx hn => ?_) (fun x hx => ?_) ?_, h⟩
  · rw [inO_iff] at hx ⊢; exact (i1' x hx).1
  · rw [inO_iff] at hx hy
    exact nodup_map_inj _ i2 x hx y hy
  · rw [inO_iff] at hx
    rcases i3 x hx with q | q
    · rw [← inO_iff] at q; rw [q] at hn; cases hn
    · exact q
  · rw [inO_iff] at hx; exact (i1' x hx).2
  · exact i2'
/-- A call that is known by its effect. -/
theorem callx_fn {f : FuncId} {caps as : List A} {d : Option Nat} {t : List (Nat × A)} {o : List (Nat × Ob)} {e : Eff} (hf : FnCall P f (as ++ caps) (lookO o) e) (hs : e.side = True) (h : effx P tt ops dr (some e) d rest log K ⟨t, o⟩) :
    callx P tt ops dr (.clo f caps) as d rest log K ⟨t, o⟩ := ⟨e, hf, h.2⟩
end
end Go.Am
