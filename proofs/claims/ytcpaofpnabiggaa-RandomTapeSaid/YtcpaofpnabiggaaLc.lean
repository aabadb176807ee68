/- Whatever the two tapes and the factor are, the law of tapes says true and leaves its arguments as they were; there are no conditions. (part Lc) -/
import Derived.Test.YtcpaofpnabiggaaLb
import Derived.WalkKit
import Derived.ProofKit
import Derived.OpenShut
import Derived.JoinedCond
import Derived.Carry
set_option linter.all false

namespace Go.Am
open Go.ChangeShapes Go.WideShapes Go.ChangeAt Go.RowKit
set_option linter.unusedVariables false

/-- The world's data, where no object is kept from anyone. -/
def E0 (w : World) : Env := envOf (fun _ _ => False) (fun _ => none) (lookO []) w

theorem E0_cell {w : World} {b i : Nat} {v : Value} (h : w.cell? ⟨b, i, none⟩ = some v) : (E0 w).R b i v := by
  refine ⟨fun h => h, ?_, h⟩
  rintro ⟨o, ob, _, h2, _⟩
  cases h2

theorem repL_mk0 {E : Env} : repL E [] [] := by simp [repL]
theorem repL_mk {E : Env} {a : A} {v : Value} {as : List A} {vs : List Value} (h : a.rep E v) (hs : repL E as vs) : repL E (a :: as) (v :: vs) := by
  simp only [repL]
  exact ⟨v, vs, rfl, h, hs⟩
theorem repL_lit {E : Env} {u : Value} (h : one u = true) : (A.d (.lit u)).rep E u := by simp [A.rep, D.rep, h]

theorem E0_rel (w : World) : Rel ⟨w, fun _ _ => False, Xh (fun _ => none) (lookO []), fun _ => none, lookO []⟩ (fun _ => none) (lookO []) w where
  dom := fun o => rfl
  obj := fun o ob bo h => by simp [lookO] at h
  inj := fun o o' b h => by cases h
  out := fun o b i h => by cases h
  bnd := fun b i h => h.elim
  ev := Ev.refl _ _
  own := fun b i h => by obtain ⟨o, ob, _, h2, _⟩ := h; cases h2
  ent := fun o ob h => by simp [lookO] at h
  big := fun o h => by simp [lookO] at h

/-- A contract without objects, from outside. -/
theorem ACall.run {P : Program} {f : FuncId} {as : List A} {u : Value} {w : World} {vs : List Value} (ac : ACall P f as [] (.d (.lit u)) []) (hr : repL (E0 w) as vs) :
    Calls P f vs.toArray w fun e w' => e = .returned u ∧ Below w.heap.size w w' := by
  refine (ac.calls (fun _ _ => False) (fun _ => none) w vs (E0_rel w) hr).mono fun e w' ⟨v, β', he, rel, hv⟩ => ?_
  have hv' : v = u := by
    simp only [A.rep, D.rep] at hv
    exact hv.1
  subst hv'
  exact ⟨he, rel.ev.below fun b i h => by obtain ⟨o, ob, _, h2, _⟩ := h; cases h2⟩

section
variable {H : Type} {enc : TypeId × Value → H} {P : Program} {w : World} {base b0 : Nat} {spare : Nat → Bool} {held : Bool} {t e : TypeId} {v : Value} {d : DataW H} {ps : List MemPlace}

/-- A slice of integers, read. -/
theorem open_sl {k : IntKind} {r : Reach} (ht : P.underlying t = some (.slice e)) (he : P.underlying e = some (.int k)) (hc : P.cellsOf e = 1) (hval : Value.okWide P w r b0 t v) (h : DataW.Trod enc P w base spare held t v d ps) :
    ∃ xs : List Int, (∀ x ∈ xs, (Lit.int k x).wf = true) ∧ (A.d (.sl 1 (rowsOf (fun n => [D.lit (.int k n)]) xs))).rep (E0 w) v ∧ (d = .nil ∧ xs = [] ∨ ∃ rest, d = .slice (lits k xs) rest) := by
  obtain ⟨a0, len, cap, rfl⟩ := okWide_slice ht hval
  obtain ⟨fuel, hf⟩ := h
  rcases open_ints ht he hc hf with ⟨hcs, hx⟩ | ⟨a, len', cap', zs, hcs, _, hl, hm, hz, hx, hcell, hwz⟩
  · simp [Value.cells] at hcs
    obtain ⟨rfl, rfl, rfl⟩ := hcs
    refine ⟨[], by simp, ?_, .inl ⟨(Prod.mk.injEq .. ▸ hx).1, rfl⟩⟩
    simp only [A.rep, D.rep]
    exact ⟨none, 0, rfl, Nat.le_refl _, fun _ => ⟨rfl, rfl⟩, fun a' h => by cases h⟩
  · simp [Value.cells] at hcs
    obtain ⟨rfl, rfl, rfl⟩ := hcs
    have hlen : len ≤ zs.length := by rw [hz]; split <;> omega
    have hlt : (zs.take len).length = len := by simp; omega
    refine ⟨zs.take len, fun x hx => hwz x (List.mem_of_mem_take hx), ?_, .inr ⟨_, by rw [Prod.mk.injEq] at hx; exact hx.1⟩⟩
    have hspot : a.spot = none := by
      have hv : Cell.ok P w r b0 t (.slice (some a) len cap) := by
        simpa [Value.okWide, ht, Cell.okWide] using hval
      simp only [Cell.ok, ht] at hv
      exact hv.2.2.2.1
    simp only [A.rep, D.rep]
    refine ⟨some a, cap, by rw [rowsOf_length, hlt], by rw [rowsOf_length, hlt]; exact hl, (fun h => by cases h), fun a' ha' => ?_⟩
    cases ha'
    refine ⟨fun _ => hspot, ?_⟩
    have key : ∀ (ys : List Int) (k0 : Nat), (∀ j, j < ys.length → w.cell? ⟨a.block, k0 + j, none⟩ = some (.int k (ys.getD j 0))) → rowsAt (E0 w).R ((E0 w).R a.block) 1 k0 (rowsOf (fun n => [D.lit (.int k n)]) ys) := by
      intro ys
      induction ys with
      | nil => intro k0 _; simp [rowsOf, rowsAt]
      | cons y ys ih =>
        intro k0 hj
        rw [rowsOf_cons]
        simp only [rowsAt]
        refine ⟨rfl, ?_, ih (k0 + 1) fun j h => ?_⟩
        · simp only [rowAt]
          exact ⟨⟨.int k y, E0_cell (by simpa using hj 0 (by simp)), by simp [D.rep, one]⟩, trivial⟩
        · have := hj (j + 1) (by simpa using h)
          rw [show k0 + 1 + j = k0 + (j + 1) by omega, this]
          simp
    refine key _ _ fun j hj => ?_
    have := hcell j (by omega)
    rw [add_mk hspot] at this
    rw [this]
    congr 2
    simp only [List.getD_eq_getElem?_getD]
    rw [List.getElem?_take_of_lt (by omega)]

theorem trodAll_below (hl : laidOutB P = true) {W W' : World} (hb : Below W.heap.size W W') : ∀ {ts : List TypeId} {vs : List Value} {ds : List (DataW H)} {ps : List MemPlace}, (ts.all fun t => P.readableRec t && decide (t < P.types.size)) = true →
    DataW.TrodAll enc P W 0 (fun _ => true) true ts vs ds ps → (∀ x ∈ ps, x.block < W.heap.size) → DataW.TrodAll enc P W' 0 (fun b => decide (b < W.heap.size)) true ts vs ds ps
  | [], [], [], _, _, h, _ => h
  | _ :: _, _ :: _, _ :: _, _, hT, ⟨p, q, h1, h2, e⟩, hs => by
    simp only [List.all_cons, Bool.and_eq_true, decide_eq_true_eq] at hT
    exact ⟨p, q, Below.trod hl hT.1.1 hT.1.2 h1 hb (fun x hx => hs x (by rw [e]; exact List.mem_append_left _ hx)),
      trodAll_below hl hb hT.2 h2 (fun x hx => hs x (by rw [e]; exact List.mem_append_right _ hx)), e⟩

/-- Behind a law that says true and has written nothing. -/
theorem post_true {f : Func} {s : ChangeSpec} {W W' : World} {args : Array Value} {ds gs : List (DataW H)} {before : List MemPlace} {tB : TypeId} (hW : DataW.Whole enc P f.params.toList s.vars false W args.toList ds gs before)
    (hsv : s.vars = []) (hl : laidOutB P = true) (hr : (f.params.toList.all fun t => P.readableRec t && decide (t < P.types.size)) = true) (hT : f.resultTypes = #[tB]) (hB : P.underlying tB = some .bool)
    (hs : s.fn H ds = { results := [.lit (.bool true)], args := ds }) (hb : Below W.heap.size W W') : s.post enc P f false true false false W args (.bool true) W' := by
  have hW' := hW
  obtain ⟨p, q, hA, hV, rfl, _, _⟩ := hW
  rw [hsv] at hV
  obtain ⟨rfl, rfl⟩ := trodVars_none hV
  have hlt : ∀ x ∈ p, x.block < W.heap.size := fun x hx => hW'.lt x (by simp [hx])
  refine ⟨ds, [], p ++ [], [], p, [], hW', ?_, ?_, ?_, hb.frame _, fun h => by cases h⟩
  · rw [List.append_nil, hs, hT]
    exact trodAll_mk1 (shut_bool hB _)
  · rw [List.append_nil, hs]
    exact trodAll_below hl hb hr hA hlt
  · rw [List.append_nil, hs, hsv]
    rfl
end
end Go.Am

namespace Go.Am

theorem steps : type_of% (And.intro @ev_skip <| And.intro @ev_label <| And.intro @ev_ret <| And.intro @ev_exit <| And.intro @ev_seq <| And.intro @ev_cond <| And.intro @ev_block <| And.intro @ev_scope <| And.intro @ev_reg <| And.intro @ev_loop <| And.intro @seqK_normal <| And.intro @seqK_ret <| And.intro @seqK_exit <| And.intro @blkK_normal <| And.intro @blkK_ret <| And.intro @blkK_exit <| And.intro @scoK_normal <| And.intro @scoK_ret <| And.intro @scoK_exit <| And.intro @loopK_ret <| And.intro @loopK_exit <| And.intro @bodyK_ret <| And.intro @bodyK_normal <| And.intro @rgn_end_f <| And.intro @rgn_end_t <| And.intro @rgn_step <| And.intro @skg_some <| And.intro @skg_none <| And.intro @gk_none <| And.intro @gk_some <| And.intro @gkS_some <| And.intro @gkV_bool <| And.intro @gslot_eq <| And.intro @bind_dst <| And.intro @gsel_free <| And.intro @gsel_tt <| And.intro @gsel_ff <| And.intro @gsel_tf <| And.intro @gsel_ft <| And.intro @gsel_t <| And.intro @gsel_f <| And.intro @setB_eq <| And.intro @bcase_true <| And.intro @bcase_false <| And.intro @condx_bool <| And.intro @g_move <| And.intro @g_assign <| And.intro @g_pick <| And.intro @g_alloc <| And.intro @g_box <| And.intro @g_build <| And.intro @g_buildSlice <| And.intro @g_load <| And.intro @g_store <| And.intro @g_nilCheck <| And.intro @g_binOp <| And.intro @g_unOp <| And.intro @g_convert <| And.intro @g_makeFunc <| And.intro @g_makeSlice <| And.intro @g_slice <| And.intro @g_slice3 <| And.intro @g_fieldAddr <| And.intro @g_field <| And.intro @g_indexAddr <| And.intro @g_index <| And.intro @g_extract <| And.intro @g_builtin <| And.intro @g_call <| And.intro @evL_tmp <| And.intro @evL_const <| And.intro @evL_func <| And.intro @oc_int <| And.intro @oc_bool <| And.intro @oc_string <| And.intro @oc_nil <| And.intro @oc_ptr <| And.intro @o1_int <| And.intro @o1_bool <| And.intro @o1_string <| And.intro @o1_nil <| And.intro @o1_ptr <| And.intro @lookO_eq <| And.intro @evP_nil <| And.intro @evP_cons <| And.intro @evLs_nil <| And.intro @evLs_cons <| And.intro @evM_none <| And.intro @evM_some <| And.intro @eidx_int <| And.intro @extr_0 <| And.intro @extr_1 <| And.intro @extr_2 <| And.intro @epick_t <| And.intro @epick_f <| And.intro @epick_b <| And.intro @x_idx <| And.intro @x_idxc <| And.intro @x_loadV <| And.intro @load_ptr <| And.intro @load_d <| And.intro @load_v <| And.intro @idx_K <| And.intro @idx_sl <| And.intro @idx_csl <| And.intro @idx_vec <| And.intro @x_pure <| And.intro @x_ok1 <| And.intro @x_ok1n <| And.intro @x_ps <| And.intro @x_pn <| And.intro @x_us <| And.intro @x_un <| And.intro @upd_nil <| And.intro @upd_1 <| And.intro @upd_cons <| And.intro @resA_arr <| And.intro @resA_0 <| And.intro @resA_c <| And.intro @resA_1 <| And.intro @resA_two <| And.intro @resA_three <| And.intro @res1_tmp <| @res1_cell) :=
  And.intro @ev_skip <| And.intro @ev_label <| And.intro @ev_ret <| And.intro @ev_exit <| And.intro @ev_seq <| And.intro @ev_cond <| And.intro @ev_block <| And.intro @ev_scope <| And.intro @ev_reg <| And.intro @ev_loop <| And.intro @seqK_normal <| And.intro @seqK_ret <| And.intro @seqK_exit <| And.intro @blkK_normal <| And.intro @blkK_ret <| And.intro @blkK_exit <| And.intro @scoK_normal <| And.intro @scoK_ret <| And.intro @scoK_exit <| And.intro @loopK_ret <| And.intro @loopK_exit <| And.intro @bodyK_ret <| And.intro @bodyK_normal <| And.intro @rgn_end_f <| And.intro @rgn_end_t <| And.intro @rgn_step <| And.intro @skg_some <| And.intro @skg_none <| And.intro @gk_none <| And.intro @gk_some <| And.intro @gkS_some <| And.intro @gkV_bool <| And.intro @gslot_eq <| And.intro @bind_dst <| And.intro @gsel_free <| And.intro @gsel_tt <| And.intro @gsel_ff <| And.intro @gsel_tf <| And.intro @gsel_ft <| And.intro @gsel_t <| And.intro @gsel_f <| And.intro @setB_eq <| And.intro @bcase_true <| And.intro @bcase_false <| And.intro @condx_bool <| And.intro @g_move <| And.intro @g_assign <| And.intro @g_pick <| And.intro @g_alloc <| And.intro @g_box <| And.intro @g_build <| And.intro @g_buildSlice <| And.intro @g_load <| And.intro @g_store <| And.intro @g_nilCheck <| And.intro @g_binOp <| And.intro @g_unOp <| And.intro @g_convert <| And.intro @g_makeFunc <| And.intro @g_makeSlice <| And.intro @g_slice <| And.intro @g_slice3 <| And.intro @g_fieldAddr <| And.intro @g_field <| And.intro @g_indexAddr <| And.intro @g_index <| And.intro @g_extract <| And.intro @g_builtin <| And.intro @g_call <| And.intro @evL_tmp <| And.intro @evL_const <| And.intro @evL_func <| And.intro @oc_int <| And.intro @oc_bool <| And.intro @oc_string <| And.intro @oc_nil <| And.intro @oc_ptr <| And.intro @o1_int <| And.intro @o1_bool <| And.intro @o1_string <| And.intro @o1_nil <| And.intro @o1_ptr <| And.intro @lookO_eq <| And.intro @evP_nil <| And.intro @evP_cons <| And.intro @evLs_nil <| And.intro @evLs_cons <| And.intro @evM_none <| And.intro @evM_some <| And.intro @eidx_int <| And.intro @extr_0 <| And.intro @extr_1 <| And.intro @extr_2 <| And.intro @epick_t <| And.intro @epick_f <| And.intro @epick_b <| And.intro @x_idx <| And.intro @x_idxc <| And.intro @x_loadV <| And.intro @load_ptr <| And.intro @load_d <| And.intro @load_v <| And.intro @idx_K <| And.intro @idx_sl <| And.intro @idx_csl <| And.intro @idx_vec <| And.intro @x_pure <| And.intro @x_ok1 <| And.intro @x_ok1n <| And.intro @x_ps <| And.intro @x_pn <| And.intro @x_us <| And.intro @x_un <| And.intro @upd_nil <| And.intro @upd_1 <| And.intro @upd_cons <| And.intro @resA_arr <| And.intro @resA_0 <| And.intro @resA_c <| And.intro @resA_1 <| And.intro @resA_two <| And.intro @resA_three <| And.intro @res1_tmp <| @res1_cell
attribute [push_cast] lookT lookO effAlloc effBox effBuild effSlice0 loadP loadVo loadR loadD loadV_cons effStore
attribute [push_cast] effNil effBin effUn effConv effMake effSlice effFieldAddr effField idxK idxA idx_V resC
attribute [push_cast] res2 res3 pickAt strsA intsA aE_eq rI rV rC rF rT rIs
attribute [push_cast] rE_eq ex_eta rowsI_snoc rowsIs_snoc rowsV_snoc rowsC_snoc rowsF_snoc rowsT_snoc rowsE_snoc rowsOf_length rowsOf_take rowsOf_drop
attribute [push_cast] effIndex effBuiltin effLen effAppend effEq intBin strBin nilA nilLit eqEff eqA eqFs
attribute [push_cast] fieldOf loadA TI.isAgg A.cells A.storable A.isOne Go.Am.splice frzL frz fillR fillA placeS
attribute [push_cast] zrow zcell srcA apSrc apRoom bnd int64 ok1 upds put epick extr
attribute [push_cast] pickA ofConst1 oc_agg one List.getElem?_cons_zero List.getElem?_cons_succ List.getElem?_nil List.map_cons List.map_nil List.length_cons List.length_nil List.take_succ_cons
attribute [push_cast] List.take_zero List.take_nil List.drop_succ_cons List.drop_zero List.drop_nil List.cons_append List.nil_append List.append_nil List.set_cons_zero List.set_cons_succ List.headD_cons List.tail_cons
attribute [push_cast] List.all_cons List.all_nil List.getD_cons_zero List.getD_cons_succ bne_self_eq_false beq_self_eq_true Option.isSome_some Option.isSome_none A.ren Ob.ren renL ren1
attribute [push_cast] Option.map_some Option.map_none Option.getD_some Bool.and_true Bool.true_and Bool.and_false Bool.false_and Bool.or_true Bool.true_or Bool.not_true Bool.not_false decide_true
attribute [push_cast] decide_false ite_true ite_false Nat.add_zero Nat.zero_add true_and and_true eq_self ne_eq not_false_eq_true not_true_eq_false Bool.false_eq_true
attribute [push_cast] List.replicate_zero List.replicate_succ Int.toNat_natCast
theorem ends : type_of% (And.intro @keepT.eq_1 <| And.intro @keepT.eq_2 <| And.intro @lookT.eq_1 <| And.intro @lookT.eq_2 <| And.intro @keepO.eq_1 <| And.intro @keepO.eq_2 <| And.intro @keepIn.eq_1 <| And.intro @keepIn.eq_2 <| And.intro @lookO.eq_1 <| And.intro @lookO.eq_2 <| And.intro @updO.eq_1 <| And.intro @updO.eq_2 <| And.intro @inO.eq_1 <| And.intro @A.closed.eq_1 <| And.intro @A.closed.eq_2 <| And.intro @A.closed.eq_3 <| And.intro @A.closed.eq_4 <| And.intro @A.closed.eq_5 <| And.intro @A.closed.eq_6 <| And.intro @A.closed.eq_7 <| And.intro @A.closed.eq_8 <| And.intro @A.closed.eq_9 <| And.intro @A.closed.eq_10 <| And.intro @closedL.eq_1 <| And.intro @closedL.eq_2 <| And.intro @Ob.closed.eq_1 <| And.intro @Ob.closed.eq_2 <| And.intro @upds.eq_1 <| And.intro @upds.eq_2 <| And.intro @put.eq_1 <| And.intro @argT.eq_1 <| And.intro @argT.eq_2 <| And.intro @hosL.eq_1 <| And.intro @hosL.eq_2 <| And.intro @ren1.eq_1 <| And.intro @ren1.eq_2 <| And.intro @renL.eq_1 <| And.intro @renL.eq_2 <| And.intro @A.ren.eq_1 <| And.intro @A.ren.eq_2 <| And.intro @A.ren.eq_3 <| And.intro @A.ren.eq_4 <| And.intro @A.ren.eq_5 <| And.intro @A.ren.eq_6 <| And.intro @A.ren.eq_7 <| And.intro @A.ren.eq_8 <| And.intro @A.ren.eq_9 <| And.intro @A.ren.eq_10 <| And.intro @Ob.ren.eq_1 <| And.intro @Ob.ren.eq_2 <| And.intro @Option.some.injEq.{0} <| And.intro @true_and <| And.intro @and_true <| And.intro @Bool.true_and <| And.intro @Bool.and_true <| And.intro @Go.Am.splice.eq_1 <| And.intro @List.take_succ_cons.{0} <| And.intro @List.take_zero.{0} <| And.intro @List.take_nil.{0} <| And.intro @List.drop_succ_cons.{0} <| And.intro @List.drop_zero.{0} <| And.intro @List.drop_nil.{0} <| And.intro @List.cons_append.{0} <| And.intro @List.nil_append.{0} <| And.intro @List.append_nil.{0} <| And.intro @List.length_cons.{0} <| And.intro @List.length_nil.{0} <| And.intro @Ob.var.injEq <| And.intro @List.cons.injEq.{0} <| And.intro @A.d.injEq <| And.intro @D.lit.injEq <| And.intro @Go.Value.int.injEq <| And.intro @not_true_eq_false <| And.intro @or_true <| And.intro @true_or <| And.intro @Nat.add_zero <| And.intro @Nat.zero_add <| And.intro @Option.isSome_some.{0} <| And.intro @Option.isSome_none.{0} <| And.intro @closed_aD <| And.intro @ren_aD <| And.intro @closed_agg_d <| And.intro @ren_agg_d <| And.intro @closed_aE <| And.intro @ren_aE <| And.intro @ex_eta <| And.intro @List.headD_cons.{0} <| And.intro @List.tail_cons.{0} <| And.intro @rowsOf_cons <| And.intro @rowsOf_nil <| And.intro @rI.eq_1 <| And.intro @idsOk.eq_1 <| And.intro @List.all_cons.{0} <| And.intro @List.all_nil.{0} <| And.intro @List.map_cons.{0,0} <| And.intro @List.map_nil.{0,0} <| And.intro @List.nodup_cons.{0} <| And.intro @List.nodup_nil.{0} <| And.intro @List.not_mem_nil.{0} <| @List.mem_cons.{0}) :=
  And.intro @keepT.eq_1 <| And.intro @keepT.eq_2 <| And.intro @lookT.eq_1 <| And.intro @lookT.eq_2 <| And.intro @keepO.eq_1 <| And.intro @keepO.eq_2 <| And.intro @keepIn.eq_1 <| And.intro @keepIn.eq_2 <| And.intro @lookO.eq_1 <| And.intro @lookO.eq_2 <| And.intro @updO.eq_1 <| And.intro @updO.eq_2 <| And.intro @inO.eq_1 <| And.intro @A.closed.eq_1 <| And.intro @A.closed.eq_2 <| And.intro @A.closed.eq_3 <| And.intro @A.closed.eq_4 <| And.intro @A.closed.eq_5 <| And.intro @A.closed.eq_6 <| And.intro @A.closed.eq_7 <| And.intro @A.closed.eq_8 <| And.intro @A.closed.eq_9 <| And.intro @A.closed.eq_10 <| And.intro @closedL.eq_1 <| And.intro @closedL.eq_2 <| And.intro @Ob.closed.eq_1 <| And.intro @Ob.closed.eq_2 <| And.intro @upds.eq_1 <| And.intro @upds.eq_2 <| And.intro @put.eq_1 <| And.intro @argT.eq_1 <| And.intro @argT.eq_2 <| And.intro @hosL.eq_1 <| And.intro @hosL.eq_2 <| And.intro @ren1.eq_1 <| And.intro @ren1.eq_2 <| And.intro @renL.eq_1 <| And.intro @renL.eq_2 <| And.intro @A.ren.eq_1 <| And.intro @A.ren.eq_2 <| And.intro @A.ren.eq_3 <| And.intro @A.ren.eq_4 <| And.intro @A.ren.eq_5 <| And.intro @A.ren.eq_6 <| And.intro @A.ren.eq_7 <| And.intro @A.ren.eq_8 <| And.intro @A.ren.eq_9 <| And.intro @A.ren.eq_10 <| And.intro @Ob.ren.eq_1 <| And.intro @Ob.ren.eq_2 <| And.intro @Option.some.injEq.{0} <| And.intro @true_and <| And.intro @and_true <| And.intro @Bool.true_and <| And.intro @Bool.and_true <| And.intro @Go.Am.splice.eq_1 <| And.intro @List.take_succ_cons.{0} <| And.intro @List.take_zero.{0} <| And.intro @List.take_nil.{0} <| And.intro @List.drop_succ_cons.{0} <| And.intro @List.drop_zero.{0} <| And.intro @List.drop_nil.{0} <| And.intro @List.cons_append.{0} <| And.intro @List.nil_append.{0} <| And.intro @List.append_nil.{0} <| And.intro @List.length_cons.{0} <| And.intro @List.length_nil.{0} <| And.intro @Ob.var.injEq <| And.intro @List.cons.injEq.{0} <| And.intro @A.d.injEq <| And.intro @D.lit.injEq <| And.intro @Go.Value.int.injEq <| And.intro @not_true_eq_false <| And.intro @or_true <| And.intro @true_or <| And.intro @Nat.add_zero <| And.intro @Nat.zero_add <| And.intro @Option.isSome_some.{0} <| And.intro @Option.isSome_none.{0} <| And.intro @closed_aD <| And.intro @ren_aD <| And.intro @closed_agg_d <| And.intro @ren_agg_d <| And.intro @closed_aE <| And.intro @ren_aE <| And.intro @ex_eta <| And.intro @List.headD_cons.{0} <| And.intro @List.tail_cons.{0} <| And.intro @rowsOf_cons <| And.intro @rowsOf_nil <| And.intro @rI.eq_1 <| And.intro @idsOk.eq_1 <| And.intro @List.all_cons.{0} <| And.intro @List.all_nil.{0} <| And.intro @List.map_cons.{0,0} <| And.intro @List.map_nil.{0,0} <| And.intro @List.nodup_cons.{0} <| And.intro @List.nodup_nil.{0} <| And.intro @List.not_mem_nil.{0} <| @List.mem_cons.{0}
end Go.Am
