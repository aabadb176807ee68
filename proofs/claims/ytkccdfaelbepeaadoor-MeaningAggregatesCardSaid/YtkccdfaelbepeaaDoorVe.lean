/- Any aggregate over any rows is what the specification says: a proof over an abstract machine of our own (part Ve) -/
import Derived.Test.YtkccdfaelbepeaaDoorW0
import Derived.Test.YtkccdfaelbepeaaDoorLe
import Derived.Test.YtkccdfaelbepeaaDoorRows
import Derived.MakeChecks
import Derived.LaidLaws
import Derived.LaidMore
import Derived.Shelf.Vars
set_option linter.all false

namespace Go.Proofs.YtkccdfaelbepeaaDoor
open Go.Am
set_option linter.unusedVariables false
set_option maxRecDepth 100000

theorem ui64 : Tryd.prog.underlying 3 = some (.int .i64) := by kernel_rfl
theorem uint64 : Tryd.prog.underlying 2 = some (.int .i64) := by kernel_rfl
theorem ustr : Tryd.prog.underlying 9 = some .string := by kernel_rfl
theorem uboo : Tryd.prog.underlying 4 = some .bool := by kernel_rfl
theorem uInts : Tryd.prog.underlying 46 = some (.slice 3) := by kernel_rfl
theorem uIntss : Tryd.prog.underlying 47 = some (.slice 46) := by kernel_rfl
theorem uVals : Tryd.prog.underlying 54 = some (.slice 42) := by kernel_rfl
theorem uRows : Tryd.prog.underlying 38 = some (.slice 54) := by kernel_rfl
theorem uTabs : Tryd.prog.underlying 25 = some (.slice 38) := by kernel_rfl
theorem uExs : Tryd.prog.underlying 33 = some (.slice 35) := by kernel_rfl
theorem uCols : Tryd.prog.underlying 45 = some (.slice 57) := by kernel_rfl
theorem uFors : Tryd.prog.underlying 48 = some (.slice 52) := by kernel_rfl
theorem uTbls : Tryd.prog.underlying 22 = some (.slice 50) := by kernel_rfl
theorem c1i : Tryd.prog.cellsOf 3 = 1 := by kernel_rfl
theorem c1is : Tryd.prog.cellsOf 46 = 1 := by kernel_rfl
theorem c3v : Tryd.prog.cellsOf 42 = 3 := by kernel_rfl
theorem c1vs : Tryd.prog.cellsOf 54 = 1 := by kernel_rfl
theorem c1rs : Tryd.prog.cellsOf 38 = 1 := by kernel_rfl
theorem c6e : Tryd.prog.cellsOf 35 = 6 := by kernel_rfl
theorem c3c : Tryd.prog.cellsOf 57 = 3 := by kernel_rfl
theorem c2f : Tryd.prog.cellsOf 52 = 2 := by kernel_rfl
theorem c6t : Tryd.prog.cellsOf 50 = 6 := by kernel_rfl
theorem sVal : structOk Tryd.prog 42 [3, 2, 9] = true := by kernel_rfl
theorem sEx : structOk Tryd.prog 35 [3, 3, 2, 9, 3, 33] = true := by kernel_rfl
theorem sCol : structOk Tryd.prog 57 [9, 3, 4] = true := by kernel_rfl
theorem sFor : structOk Tryd.prog 52 [46, 9] = true := by kernel_rfl
theorem sTbl : structOk Tryd.prog 50 [9, 45, 46, 47, 48, 33] = true := by kernel_rfl
theorem sSch : structOk Tryd.prog 24 [22] = true := by kernel_rfl
theorem sIns : structOk Tryd.prog 27 [25] = true := by kernel_rfl

section
variable {H : Type} {enc : TypeId × Value → H} {w : World} {base : Nat} {spare : Nat → Bool} {held : Bool} {fuel : Nat} {cs : List Value} {x : DataW H × List MemPlace}
theorem rd_ints (h : DataW.trod enc Tryd.prog w base spare held fuel 46 cs = some x) : ∃ l : List Int, crep (E0 w).R [.sl 1 (rowsOf rI l)] cs :=
  rd_slice rI uInts c1i (by decide) h fun n cs' y _ hy => by obtain ⟨k, _, hk⟩ := rd_int ui64 hy; exact ⟨k, hk⟩
theorem rd_intss (h : DataW.trod enc Tryd.prog w base spare held fuel 47 cs = some x) : ∃ l : List (List Int), crep (E0 w).R [.sl 1 (rowsOf rIs l)] cs :=
  rd_slice rIs uIntss c1is (by decide) h fun n cs' y _ hy => rd_ints hy
theorem rd_val (h : DataW.trod enc Tryd.prog w base spare held fuel 42 cs = some x) : ∃ v : Val, crep (E0 w).R (rV v) cs := by
  obtain ⟨n, _, hl, hf⟩ := rd_structT _ sVal h
  obtain ⟨c0, y0, e0, h0⟩ := hf 0 _ rfl
  obtain ⟨c1, y1, e1, h1⟩ := hf 1 _ rfl
  obtain ⟨c2, y2, e2, h2⟩ := hf 2 _ rfl
  obtain ⟨a, _, r0⟩ := rd_int (R := (E0 w).R) ui64 h0
  obtain ⟨b, _, r1⟩ := rd_int (R := (E0 w).R) uint64 h1
  obtain ⟨s, r2⟩ := rd_str (R := (E0 w).R) ustr h2
  exact ⟨⟨a, b, s⟩, crep_3 hl e0 e1 e2 r0 r1 r2⟩
theorem rd_row (h : DataW.trod enc Tryd.prog w base spare held fuel 54 cs = some x) : ∃ l : Row, crep (E0 w).R (rRow l) cs :=
  rd_slice rV uVals c3v (by decide) h fun n cs' y _ hy => rd_val hy
theorem rd_tab (h : DataW.trod enc Tryd.prog w base spare held fuel 38 cs = some x) : ∃ l : Tab2, crep (E0 w).R (rTab l) cs :=
  rd_slice rRow uRows c1vs (by decide) h fun n cs' y _ hy => rd_row hy
theorem rd_tabs (h : DataW.trod enc Tryd.prog w base spare held fuel 25 cs = some x) : ∃ l : List Tab2, crep (E0 w).R [.sl 1 (rowsOf rTab l)] cs :=
  rd_slice rTab uTabs c1rs (by decide) h fun n cs' y _ hy => rd_tab hy
theorem rd_ex : ∀ (fuel : Nat) (cs : List Value) (x : DataW H × List MemPlace), DataW.trod enc Tryd.prog w base spare held fuel 35 cs = some x → ∃ e : Ex, crep (E0 w).R (rE e) cs := by
  intro fuel
  induction fuel using Nat.strongRecOn with
  | ind fuel ih =>
    intro cs x h
    obtain ⟨n, hn, hl, hf⟩ := rd_structT _ sEx h
    obtain ⟨c0, y0, e0, h0⟩ := hf 0 _ rfl
    obtain ⟨c1, y1, e1, h1⟩ := hf 1 _ rfl
    obtain ⟨c2, y2, e2, h2⟩ := hf 2 _ rfl
    obtain ⟨c3, y3, e3, h3⟩ := hf 3 _ rfl
    obtain ⟨c4, y4, e4, h4⟩ := hf 4 _ rfl
    obtain ⟨c5, y5, e5, h5⟩ := hf 5 _ rfl
    obtain ⟨a0, _, r0⟩ := rd_int (R := (E0 w).R) ui64 h0
    obtain ⟨a1, _, r1⟩ := rd_int (R := (E0 w).R) ui64 h1
    obtain ⟨a2, _, r2⟩ := rd_int (R := (E0 w).R) uint64 h2
    obtain ⟨a3, r3⟩ := rd_str (R := (E0 w).R) ustr h3
    obtain ⟨a4, _, r4⟩ := rd_int (R := (E0 w).R) ui64 h4
    obtain ⟨ks, r5⟩ := rd_slice rE uExs c6e (by decide) h5 fun m cs' y hm hy => ih m (by omega) cs' y hy
    have hx : rE (.mk a0 a1 a2 a3 a4 ks) = [.lit (.int .i64 a0), .lit (.int .i64 a1), .lit (.int .i64 a2), .lit (.string a3), .lit (.int .i64 a4), .sl 6 (rowsOf rE ks)] := by rw [rE_eq]; rfl
    exact ⟨.mk a0 a1 a2 a3 a4 ks, by rw [hx]; exact crep_6 hl e0 e1 e2 e3 e4 e5 r0 r1 r2 r3 r4 r5⟩
theorem rd_exs (h : DataW.trod enc Tryd.prog w base spare held fuel 33 cs = some x) : ∃ l : List Ex, crep (E0 w).R [.sl 6 (rowsOf rE l)] cs :=
  rd_slice rE uExs c6e (by decide) h fun n cs' y _ hy => rd_ex n cs' y hy
theorem rd_col (h : DataW.trod enc Tryd.prog w base spare held fuel 57 cs = some x) : ∃ c : Col, crep (E0 w).R (rC c) cs := by
  obtain ⟨n, _, hl, hf⟩ := rd_structT _ sCol h
  obtain ⟨c0, y0, e0, h0⟩ := hf 0 _ rfl
  obtain ⟨c1, y1, e1, h1⟩ := hf 1 _ rfl
  obtain ⟨c2, y2, e2, h2⟩ := hf 2 _ rfl
  obtain ⟨a, r0⟩ := rd_str (R := (E0 w).R) ustr h0
  obtain ⟨b, _, r1⟩ := rd_int (R := (E0 w).R) ui64 h1
  obtain ⟨s, r2⟩ := rd_bool (R := (E0 w).R) uboo h2
  exact ⟨⟨a, b, s⟩, crep_3 hl e0 e1 e2 r0 r1 r2⟩
theorem rd_for (h : DataW.trod enc Tryd.prog w base spare held fuel 52 cs = some x) : ∃ f : Fk, crep (E0 w).R (rF f) cs := by
  obtain ⟨n, _, hl, hf⟩ := rd_structT _ sFor h
  obtain ⟨c0, y0, e0, h0⟩ := hf 0 _ rfl
  obtain ⟨c1, y1, e1, h1⟩ := hf 1 _ rfl
  obtain ⟨a, r0⟩ := rd_ints h0
  obtain ⟨b, r1⟩ := rd_str (R := (E0 w).R) ustr h1
  exact ⟨⟨a, b⟩, crep_2 hl e0 e1 r0 r1⟩
theorem rd_tbl (h : DataW.trod enc Tryd.prog w base spare held fuel 50 cs = some x) : ∃ t : Tbl, crep (E0 w).R (rT t) cs := by
  obtain ⟨n, _, hl, hf⟩ := rd_structT _ sTbl h
  obtain ⟨c0, y0, e0, h0⟩ := hf 0 _ rfl
  obtain ⟨c1, y1, e1, h1⟩ := hf 1 _ rfl
  obtain ⟨c2, y2, e2, h2⟩ := hf 2 _ rfl
  obtain ⟨c3, y3, e3, h3⟩ := hf 3 _ rfl
  obtain ⟨c4, y4, e4, h4⟩ := hf 4 _ rfl
  obtain ⟨c5, y5, e5, h5⟩ := hf 5 _ rfl
  obtain ⟨a0, r0⟩ := rd_str (R := (E0 w).R) ustr h0
  obtain ⟨a1, r1⟩ := rd_slice rC uCols c3c (by decide) h1 fun n cs' y _ hy => rd_col hy
  obtain ⟨a2, r2⟩ := rd_ints h2
  obtain ⟨a3, r3⟩ := rd_intss h3
  obtain ⟨a4, r4⟩ := rd_slice rF uFors c2f (by decide) h4 fun n cs' y _ hy => rd_for hy
  obtain ⟨a5, r5⟩ := rd_exs h5
  exact ⟨⟨a0, a1, a2, a3, a4, a5⟩, crep_6 hl e0 e1 e2 e3 e4 e5 r0 r1 r2 r3 r4 r5⟩
theorem rd_sch (h : DataW.trod enc Tryd.prog w base spare held fuel 24 cs = some x) : ∃ s : Sch, crep (E0 w).R [.sl 6 (rowsOf rT s)] cs := by
  obtain ⟨n, _, hl, hf⟩ := rd_structT _ sSch h
  obtain ⟨c0, y0, e0, h0⟩ := hf 0 _ rfl
  obtain ⟨a0, r0⟩ := rd_slice rT uTbls c6t (by decide) h0 fun n cs' y _ hy => rd_tbl hy
  exact ⟨a0, crep_1 hl e0 r0⟩
theorem rd_ins (h : DataW.trod enc Tryd.prog w base spare held fuel 27 cs = some x) : ∃ s : List Tab2, crep (E0 w).R [.sl 1 (rowsOf rTab s)] cs := by
  obtain ⟨n, _, hl, hf⟩ := rd_structT _ sIns h
  obtain ⟨c0, y0, e0, h0⟩ := hf 0 _ rfl
  obtain ⟨a0, r0⟩ := rd_tabs h0
  exact ⟨a0, crep_1 hl e0 r0⟩
end
end Go.Proofs.YtkccdfaelbepeaaDoor

namespace Go.Proofs.YtkccdfaelbepeaaDoor
open Go.Am
set_option linter.unusedVariables false
set_option maxRecDepth 100000

theorem uOps : Tryd.prog.underlying 146 = some (.array 29 77) := by kernel_rfl
theorem sOp : structOk Tryd.prog 77 [9, 3, 3, 3] = true := by kernel_rfl
theorem c4o : Tryd.prog.cellsOf 77 = 4 := by kernel_rfl
theorem gOps : Tryd.prog.globalNamed "querylab/expression.operations" = some 0 := by kernel_rfl
theorem tOps : (Tryd.prog.globals[0]?).map (·.type) = some 146 := by kernel_rfl

def dOp {H : Type} (o : OpD) : DataW H := .agg [.lit (.string o.word.data.toList), .lit (.int .i64 o.kids), .lit (.int .i64 o.types), .lit (.int .i64 o.own)]
theorem laid_eq : (Rows.laid_querylab_expression_operations : DataW Unit) = .agg (opTab.map dOp) := by rfl

theorem crep_ops {R : Rd} : ∀ (l : List OpD) (cs : List Value), cs.length = l.length * 4 → (∀ i (hi : i < l.length), crep R (rOp l[i]) ((cs.drop (i * 4)).take 4)) → crep R (l.map rOp).flatten cs
  | [], cs, hl, _ => by
    have : cs = [] := List.eq_nil_of_length_eq_zero (by simpa using hl)
    rw [this]; trivial
  | o :: l, cs, hl, h => by
    have h0 := h 0 (by simp)
    match cs, hl with
    | a :: b :: c :: d :: cs, hl =>
      simp at h0
      refine ⟨h0.1, h0.2.1, h0.2.2.1, h0.2.2.2.1, crep_ops l cs (by simp at hl; omega) fun i hi => ?_⟩
      have := h (i + 1) (by simpa using hi)
      rw [show (i + 1) * 4 = i * 4 + 1 + 1 + 1 + 1 by omega] at this
      simpa only [List.drop_succ_cons, List.getElem_cons_succ] using this
    | [], hl => simp at hl
    | [_], hl => simp at hl; omega
    | [_, _], hl => simp at hl; omega
    | [_, _, _], hl => simp at hl; omega

theorem rd_structX {H : Type} {enc : TypeId × Value → H} {P : Program} {w : World} {base : Nat} {spare : Nat → Bool} {held : Bool} {t : TypeId} {fuel : Nat} {cs : List Value} {x : DataW H × List MemPlace} (tys : List TypeId)
    (hs : structOk P t tys = true) (h : DataW.trod enc P w base spare held fuel t cs = some x) : ∃ (n : Nat) (xs : List (DataW H × List MemPlace)), x.1 = .agg (xs.map (·.1)) ∧ xs.length = tys.length ∧ cs.length = tys.length ∧ ∀ (i : Nat) (u : TypeId), tys[i]? = some u → ∃ c, cs[i]? = some c ∧ DataW.trod enc P w base spare held n u [c] = xs[i]? := by
  unfold structOk at hs
  split at hs
  · rename_i fs hu
    simp only [Bool.and_eq_true, beq_iff_eq] at hs
    obtain ⟨⟨h1, h2⟩, h3⟩ := hs
    obtain ⟨xs, n, hn, hx, hl, hxl, hf⟩ := DataW.trod_struct hu h
    rw [h2] at hl
    refine ⟨n, xs, by rw [hx], by rw [hxl, ← h1]; simp, by rw [hl, ← h1]; simp, fun i u hi => ?_⟩
    rw [← h1, List.getElem?_map, Option.map_eq_some_iff] at hi
    obtain ⟨f, hf1, rfl⟩ := hi
    have hf2 : fs[i]? = some f := by simpa using hf1
    have hlt : i < fs.size := (Array.getElem?_eq_some_iff.1 hf2).1
    have g1 := List.all_eq_true.1 h3 i (by simpa using hlt)
    rw [hf2] at g1
    simp only [Bool.and_eq_true, beq_iff_eq] at g1
    have g2 := hf i f hf2
    rw [g1.1, g1.2, List.drop_eq_getElem_cons (by omega), List.take_succ_cons, List.take_zero] at g2
    exact ⟨cs[i], List.getElem?_eq_getElem (by omega), g2⟩
  · cases hs
theorem crep_4 {R : Rd} {a b c d : D} {c0 c1 c2 c3 : Value} {cs : List Value} (hl : cs.length = 4) (e0 : cs[0]? = some c0) (e1 : cs[1]? = some c1) (e2 : cs[2]? = some c2) (e3 : cs[3]? = some c3) (r0 : crep R [a] [c0]) (r1 : crep R [b] [c1]) (r2 : crep R [c] [c2]) (r3 : crep R [d] [c3]) : crep R [a, b, c, d] cs := by
  match cs, hl with
  | [x, y, z, u], _ => simp at e0 e1 e2 e3; subst e0; subst e1; subst e2; subst e3; exact ⟨r0.1, r1.1, r2.1, r3.1, trivial⟩
theorem op_of {R : Rd} {w : World} {base : Nat} {spare : Nat → Bool} {held : Bool} {fuel : Nat} {cs : List Value} {p : List MemPlace} {o : OpD} (h : DataW.trod (fun _ => ()) Tryd.prog w base spare held fuel 77 cs = some (dOp o, p)) : crep R (rOp o) cs := by
  obtain ⟨n, xs, hx, hxl, hl, hf⟩ := rd_structX _ sOp h
  obtain ⟨c0, e0, h0⟩ := hf 0 _ rfl
  obtain ⟨c1, e1, h1⟩ := hf 1 _ rfl
  obtain ⟨c2, e2, h2⟩ := hf 2 _ rfl
  obtain ⟨c3, e3, h3⟩ := hf 3 _ rfl
  match xs, hxl with
  | [y0, y1, y2, y3], _ =>
    simp only [dOp, List.map_cons, List.map_nil, DataW.agg.injEq, List.cons.injEq, and_true] at hx
    obtain ⟨q0, q1, q2, q3⟩ := hx
    obtain ⟨s, g0, k0, _⟩ := DataW.trod_string ustr (show _ = some y0 from h0)
    obtain ⟨m1, g1, k1, _⟩ := DataW.trod_int ui64 (show _ = some y1 from h1)
    obtain ⟨m2, g2, k2, _⟩ := DataW.trod_int ui64 (show _ = some y2 from h2)
    obtain ⟨m3, g3, k3, _⟩ := DataW.trod_int ui64 (show _ = some y3 from h3)
    subst k0; subst k1; subst k2; subst k3
    simp only [DataW.lit.injEq, Lit.string.injEq, Lit.int.injEq, true_and] at q0 q1 q2 q3
    have hs : s = o.word := by
      apply ByteArray.ext
      exact Array.toList_inj.1 q0.symm
    simp only [List.cons.injEq, and_true] at g0 g1 g2 g3
    subst g0; subst g1; subst g2; subst g3; subst hs
    rw [rOp, q1, q2, q3]
    exact crep_4 hl e0 e1 e2 e3 ⟨⟨by simp [D.rep, one], rfl⟩, trivial⟩ ⟨⟨by simp [D.rep, one], rfl⟩, trivial⟩ ⟨⟨by simp [D.rep, one], rfl⟩, trivial⟩ ⟨⟨by simp [D.rep, one], rfl⟩, trivial⟩

/-- The table of operations, where it is laid. -/
theorem tab_of {W : World} (h : laidMetH Tryd.prog Rows.meaningFitsRow.laid W) : Go.Am.rowAt (E0 W).R ((E0 W).R 0) 0 opRow := by
  rw [MakeChecks.laidMetH_plain _ _ _ (by kernel_rfl)] at h
  obtain ⟨ps, ⟨g0, t0, cs0, f0, p0, q0, hg0, ht0, hv0, hd0, _⟩, _⟩ := h
  obtain rfl := Option.some.inj (gOps.symm.trans hg0)
  obtain rfl := Option.some.inj (tOps.symm.trans ht0)
  rw [laid_eq] at hd0
  obtain ⟨xs, m, hm, hx, hl, hn, hel⟩ := DataW.trod_array uOps hd0
  rw [c4o] at hel
  have hxs : xs.map (·.1) = opTab.map dOp := by
    simp only [Prod.mk.injEq, DataW.agg.injEq] at hx
    exact hx.1.symm
  have hcl : cs0.toList.length = opTab.length * 4 := by rw [hl]; kernel_rfl
  have hc : crep (E0 W).R opRow cs0.toList := by
    refine crep_ops opTab cs0.toList hcl fun i hi => ?_
    have hi2 : i < 29 := hi
    have h1 := hel i hi2
    rw [List.getElem?_eq_getElem (by omega)] at h1
    have h2 : (xs[i]'(by omega)).1 = dOp opTab[i] := by
      have := congrArg (fun l => l[i]?) hxs
      simp only [List.getElem?_map, List.getElem?_eq_getElem (show i < xs.length by omega), List.getElem?_eq_getElem hi, Option.map_some, Option.some.injEq] at this
      exact this
    obtain ⟨pp, hpp⟩ : ∃ pp, xs[i]'(by omega) = (dOp opTab[i], pp) := ⟨(xs[i]'(by omega)).2, by rw [← h2]⟩
    rw [hpp] at h1
    exact op_of h1
  refine crep_rowAt 0 hc fun j u hj => E0_cell ?_
  rw [Nat.zero_add, World.var?_cell hg0 hv0 j]
  simpa using hj
end Go.Proofs.YtkccdfaelbepeaaDoor
