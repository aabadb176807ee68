/- Each operation of expressions with operands, and each operator of queries, stands at the root for some tape: a proof over an abstract machine of our own (part Wg) -/
import Derived.Test.YtampbaaiddbacaaDoorW0
import Derived.Test.YtampbaaiddbacaaDoorLe
import Derived.Test.YtampbaaiddbacaaDoorWf
import Derived.Test.YtampbaaiddbacaaDoorRows
import Derived.MakeChecks
import Derived.LaidLaws
import Derived.LaidMore
import Derived.Shelf.Vars
set_option linter.all false
namespace Go.Proofs.YtampbaaiddbacaaDoor
open Go.Am
set_option linter.unusedVariables false
set_option maxRecDepth 100000
theorem ui64 : Tryd.prog.underlying 3 = some (.int .i64) := by kernel_rfl
theorem ustr : Tryd.prog.underlying 9 = some .string := by kernel_rfl
theorem uboo : Tryd.prog.underlying 4 = some .bool := by kernel_rfl
section
variable {H : Type} {enc : TypeId × Value → H} {w : World} {base : Nat} {spare : Nat → Bool} {held : Bool} {fuel : Nat} {cs : List Value} {x : DataW H × List MemPlace}
end
end Go.Proofs.YtampbaaiddbacaaDoor
namespace Go.Proofs.YtampbaaiddbacaaDoor
open Go.Am
set_option linter.unusedVariables false
set_option maxRecDepth 100000
theorem uOps : Tryd.prog.underlying 152 = some (.array 29 134) := by kernel_rfl
theorem sOp : structOk Tryd.prog 134 [9, 3, 3, 3] = true := by kernel_rfl
theorem c4o : Tryd.prog.cellsOf 134 = 4 := by kernel_rfl
theorem gOps : Tryd.prog.globalNamed "querylab/expression.operations" = some 2 := by kernel_rfl
theorem tOps : (Tryd.prog.globals[2]?).map (·.type) = some 152 := by kernel_rfl
def dOp {H : Type} (o : OpD) : DataW H := .agg [.lit (.string o.word.data.toList), .lit (.int .i64 o.kids), .lit (.int .i64 o.types), .lit (.int .i64 o.own)]
theorem laid_eq : (Rows.laid_querylab_expression_operations : DataW Unit) = .agg (opTab.map dOp) := by rfl
theorem crep_ops {R : Rd} : ∀ (l : List OpD) (cs : List Value), cs.length = l.length * 4 → (∀ i (hi : i < l.length), crep R (rOp l[i]) ((cs.drop (i * 4)).take 4)) → crep R (l.map rOp).flatten cs
  | [], cs, hl, _ => by
    have : cs = [] := List.eq_nil_of_length_eq_zero (by simpa using hl)
    rw [this]; trivial
  | o :: l, cs, hl, h => by
    have h0 := h 0 (by simp)
    match cs, hl with
    | a :: b :: c :: d :: cs, hl =>
      simp at h0
      refine ⟨h0.1, h0.2.1, h0.2.2.1, h0.2.2.2.1, crep_ops l cs (by simp at hl; omega) fun i hi => ?_⟩
      have := h (i + 1) (by simpa using hi)
      rw [show (i + 1) * 4 = i * 4 + 1 + 1 + 1 + 1 by omega] at this
      simpa only [List.drop_succ_cons, List.getElem_cons_succ] using this
    | [], hl => simp at hl
    | [_], hl => simp at hl; omega
    | [_, _], hl => simp at hl; omega
    | [_, _, _], hl => simp at hl; omega
theorem rd_structX {H : Type} {enc : TypeId × Value → H} {P : Program} {w : World} {base : Nat} {spare : Nat → Bool} {held : Bool} {t : TypeId} {fuel : Nat} {cs : List Value} {x : DataW H × List MemPlace} (tys : List TypeId)
    (hs : structOk P t tys = true) (h : DataW.trod enc P w base spare held fuel t cs = some x) : ∃ (n : Nat) (xs : List (DataW H × List MemPlace)), x.1 = .agg (xs.map (·.1)) ∧ xs.length = tys.length ∧ cs.length = tys.length ∧ ∀ (i : Nat) (u : TypeId), tys[i]? = some u → ∃ c, cs[i]? = some c ∧ DataW.trod enc P w base spare held n u [c] = xs[i]? := by
  unfold structOk at hs
  split at hs
  · rename_i fs hu
    simp only [Bool.and_eq_true, beq_iff_eq] at hs
    obtain ⟨⟨h1, h2⟩, h3⟩ := hs
    obtain ⟨xs, n, hn, hx, hl, hxl, hf⟩ := DataW.trod_struct hu h
    rw [h2] at hl
    refine ⟨n, xs, by rw [hx], by rw [hxl, ← h1]; simp, by rw [hl, ← h1]; simp, fun i u hi => ?_⟩
    rw [← h1, List.getElem?_map, Option.map_eq_some_iff] at hi
    obtain ⟨f, hf1, rfl⟩ := hi
    have hf2 : fs[i]? = some f := by simpa using hf1
    have hlt : i < fs.size := (Array.getElem?_eq_some_iff.1 hf2).1
    have g1 := List.all_eq_true.1 h3 i (by simpa using hlt)
    rw [hf2] at g1
    simp only [Bool.and_eq_true, beq_iff_eq] at g1
    have g2 := hf i f hf2
    rw [g1.1, g1.2, List.drop_eq_getElem_cons (by omega), List.take_succ_cons, List.take_zero] at g2
    exact ⟨cs[i], List.getElem?_eq_getElem (by omega), g2⟩
  · cases hs
theorem crep_4 {R : Rd} {a b c d : D} {c0 c1 c2 c3 : Value} {cs : List Value} (hl : cs.length = 4) (e0 : cs[0]? = some c0) (e1 : cs[1]? = some c1) (e2 : cs[2]? = some c2) (e3 : cs[3]? = some c3) (r0 : crep R [a] [c0]) (r1 : crep R [b] [c1]) (r2 : crep R [c] [c2]) (r3 : crep R [d] [c3]) : crep R [a, b, c, d] cs := by
  match cs, hl with
  | [x, y, z, u], _ => simp at e0 e1 e2 e3; subst e0; subst e1; subst e2; subst e3; exact ⟨r0.1, r1.1, r2.1, r3.1, trivial⟩
theorem op_of {R : Rd} {w : World} {base : Nat} {spare : Nat → Bool} {held : Bool} {fuel : Nat} {cs : List Value} {p : List MemPlace} {o : OpD} (h : DataW.trod (fun _ => ()) Tryd.prog w base spare held fuel 134 cs = some (dOp o, p)) : crep R (rOp o) cs := by
  obtain ⟨n, xs, hx, hxl, hl, hf⟩ := rd_structX _ sOp h
  obtain ⟨c0, e0, h0⟩ := hf 0 _ rfl
  obtain ⟨c1, e1, h1⟩ := hf 1 _ rfl
  obtain ⟨c2, e2, h2⟩ := hf 2 _ rfl
  obtain ⟨c3, e3, h3⟩ := hf 3 _ rfl
  match xs, hxl with
  | [y0, y1, y2, y3], _ =>
    simp only [dOp, List.map_cons, List.map_nil, DataW.agg.injEq, List.cons.injEq, and_true] at hx
    obtain ⟨q0, q1, q2, q3⟩ := hx
    obtain ⟨s, g0, k0, _⟩ := DataW.trod_string ustr (show _ = some y0 from h0)
    obtain ⟨m1, g1, k1, _⟩ := DataW.trod_int ui64 (show _ = some y1 from h1)
    obtain ⟨m2, g2, k2, _⟩ := DataW.trod_int ui64 (show _ = some y2 from h2)
    obtain ⟨m3, g3, k3, _⟩ := DataW.trod_int ui64 (show _ = some y3 from h3)
    subst k0; subst k1; subst k2; subst k3
    simp only [DataW.lit.injEq, Lit.string.injEq, Lit.int.injEq, true_and] at q0 q1 q2 q3
    have hs : s = o.word := by
      apply ByteArray.ext
      exact Array.toList_inj.1 q0.symm
    simp only [List.cons.injEq, and_true] at g0 g1 g2 g3
    subst g0; subst g1; subst g2; subst g3; subst hs
    rw [rOp, q1, q2, q3]
    exact crep_4 hl e0 e1 e2 e3 ⟨⟨by simp [D.rep, one], rfl⟩, trivial⟩ ⟨⟨by simp [D.rep, one], rfl⟩, trivial⟩ ⟨⟨by simp [D.rep, one], rfl⟩, trivial⟩ ⟨⟨by simp [D.rep, one], rfl⟩, trivial⟩
theorem ops_of {W : World} {cs : Array Value} {base : Nat} {spare : Nat → Bool} {held : Bool} {fuel : Nat} {p : List MemPlace} (hd0 : DataW.trod (fun _ => ()) Tryd.prog W base spare held fuel 152 cs.toList = some (Rows.laid_querylab_expression_operations, p)) {R : Rd} :
    crep R opRow cs.toList ∧ cs.toList.length = 116 := by
  rw [laid_eq] at hd0
  obtain ⟨xs, m, hm, hx, hl, hn, hel⟩ := DataW.trod_array uOps hd0
  rw [c4o] at hel
  have hxs : xs.map (·.1) = opTab.map dOp := by
    simp only [Prod.mk.injEq, DataW.agg.injEq] at hx
    exact hx.1.symm
  have hcl : cs.toList.length = opTab.length * 4 := by rw [hl]; kernel_rfl
  refine ⟨crep_ops opTab cs.toList hcl fun i hi => ?_, hcl⟩
  have hi2 : i < 29 := hi
  have h1 := hel i hi2
  rw [List.getElem?_eq_getElem (by omega)] at h1
  have h2 : (xs[i]'(by omega)).1 = dOp opTab[i] := by
    have := congrArg (fun l => l[i]?) hxs
    simp only [List.getElem?_map, List.getElem?_eq_getElem (show i < xs.length by omega), List.getElem?_eq_getElem hi, Option.map_some, Option.some.injEq] at this
    exact this
  obtain ⟨pp, hpp⟩ : ∃ pp, xs[i]'(by omega) = (dOp opTab[i], pp) := ⟨(xs[i]'(by omega)).2, by rw [← h2]⟩
  rw [hpp] at h1
  exact op_of h1
theorem uFms : Tryd.prog.underlying 125 = some (.array 11 107) := by kernel_rfl
theorem sFm : structOk Tryd.prog 107 [9, 3, 9] = true := by kernel_rfl
theorem c3f : Tryd.prog.cellsOf 107 = 3 := by kernel_rfl
theorem gFms : Tryd.prog.globalNamed "querylab/algebra.forms" = some 0 := by kernel_rfl
theorem tFms : (Tryd.prog.globals[0]?).map (·.type) = some 125 := by kernel_rfl
def dFm {H : Type} (o : FmD) : DataW H := .agg [.lit (.string o.word.data.toList), .lit (.int .i64 o.kids), .lit (.string o.uses.data.toList)]
theorem laid_fm : (Rows.laid_querylab_algebra_forms : DataW Unit) = .agg (fmTab.map dFm) := by rfl
theorem crep_fms {R : Rd} : ∀ (l : List FmD) (cs : List Value), cs.length = l.length * 3 → (∀ i (hi : i < l.length), crep R (rFm l[i]) ((cs.drop (i * 3)).take 3)) → crep R (l.map rFm).flatten cs
  | [], cs, hl, _ => by
    have : cs = [] := List.eq_nil_of_length_eq_zero (by simpa using hl)
    rw [this]; trivial
  | o :: l, cs, hl, h => by
    have h0 := h 0 (by simp)
    match cs, hl with
    | a :: b :: c :: cs, hl =>
      simp at h0
      refine ⟨h0.1, h0.2.1, h0.2.2.1, crep_fms l cs (by simp at hl; omega) fun i hi => ?_⟩
      have := h (i + 1) (by simpa using hi)
      rw [show (i + 1) * 3 = i * 3 + 1 + 1 + 1 by omega] at this
      simpa only [List.drop_succ_cons, List.getElem_cons_succ] using this
    | [], hl => simp at hl
    | [_], hl => simp at hl; omega
    | [_, _], hl => simp at hl; omega
theorem fm_of {R : Rd} {w : World} {base : Nat} {spare : Nat → Bool} {held : Bool} {fuel : Nat} {cs : List Value} {p : List MemPlace} {o : FmD} (h : DataW.trod (fun _ => ()) Tryd.prog w base spare held fuel 107 cs = some (dFm o, p)) : crep R (rFm o) cs := by
  obtain ⟨n, xs, hx, hxl, hl, hf⟩ := rd_structX _ sFm h
  obtain ⟨c0, e0, h0⟩ := hf 0 _ rfl
  obtain ⟨c1, e1, h1⟩ := hf 1 _ rfl
  obtain ⟨c2, e2, h2⟩ := hf 2 _ rfl
  match xs, hxl with
  | [y0, y1, y2], _ =>
    simp only [dFm, List.map_cons, List.map_nil, DataW.agg.injEq, List.cons.injEq, and_true] at hx
    obtain ⟨q0, q1, q2⟩ := hx
    obtain ⟨s0, g0, k0, _⟩ := DataW.trod_string ustr (show _ = some y0 from h0)
    obtain ⟨m1, g1, k1, _⟩ := DataW.trod_int ui64 (show _ = some y1 from h1)
    obtain ⟨s2, g2, k2, _⟩ := DataW.trod_string ustr (show _ = some y2 from h2)
    subst k0; subst k1; subst k2
    simp only [DataW.lit.injEq, Lit.string.injEq, Lit.int.injEq, true_and] at q0 q1 q2
    have hs0 : s0 = o.word := by
      apply ByteArray.ext
      exact Array.toList_inj.1 q0.symm
    have hs2 : s2 = o.uses := by
      apply ByteArray.ext
      exact Array.toList_inj.1 q2.symm
    simp only [List.cons.injEq, and_true] at g0 g1 g2
    subst g0; subst g1; subst g2; subst hs0; subst hs2
    rw [rFm, q1]
    exact crep_3 hl e0 e1 e2 ⟨⟨by simp [D.rep, Go.Am.one], rfl⟩, trivial⟩ ⟨⟨by simp [D.rep, Go.Am.one], rfl⟩, trivial⟩ ⟨⟨by simp [D.rep, Go.Am.one], rfl⟩, trivial⟩
theorem fms_of {W : World} {cs : Array Value} {base : Nat} {spare : Nat → Bool} {held : Bool} {fuel : Nat} {p : List MemPlace} (hd0 : DataW.trod (fun _ => ()) Tryd.prog W base spare held fuel 125 cs.toList = some (Rows.laid_querylab_algebra_forms, p)) {R : Rd} :
    crep R fmRow cs.toList ∧ cs.toList.length = 33 := by
  rw [laid_fm] at hd0
  obtain ⟨xs, m, hm, hx, hl, hn, hel⟩ := DataW.trod_array uFms hd0
  rw [c3f] at hel
  have hxs : xs.map (·.1) = fmTab.map dFm := by
    simp only [Prod.mk.injEq, DataW.agg.injEq] at hx
    exact hx.1.symm
  have hcl : cs.toList.length = fmTab.length * 3 := by rw [hl]; kernel_rfl
  refine ⟨crep_fms fmTab cs.toList hcl fun i hi => ?_, hcl⟩
  have hi2 : i < 11 := hi
  have h1 := hel i hi2
  rw [List.getElem?_eq_getElem (by omega)] at h1
  have h2 : (xs[i]'(by omega)).1 = dFm fmTab[i] := by
    have := congrArg (fun l => l[i]?) hxs
    simp only [List.getElem?_map, List.getElem?_eq_getElem (show i < xs.length by omega), List.getElem?_eq_getElem hi, Option.map_some, Option.some.injEq] at this
    exact this
  obtain ⟨pp, hpp⟩ : ∃ pp, xs[i]'(by omega) = (dFm fmTab[i], pp) := ⟨(xs[i]'(by omega)).2, by rw [← h2]⟩
  rw [hpp] at h1
  exact fm_of h1
theorem sized_of {W : World} {n : String} {g : Nat} {cs : Array Value} (hg : Tryd.prog.globalNamed n = some g) (h : W.var? Tryd.prog n = some cs) : Sized W g cs.size := by
  simp only [World.var?, hg, Option.bind_some] at h
  split at h
  · rename_i cs' el fl hc
    cases h
    exact ⟨_, _, _, hc, rfl⟩
  · cases h
/-- What lies in the tables that are laid. -/
def laidL : List (String × DataW Unit) := [("querylab/expression.operations", Rows.laid_querylab_expression_operations), ("querylab/algebra.forms", Rows.laid_querylab_algebra_forms)]
theorem tabs_of {W : World} (h : laidMetH Tryd.prog laidL W) : ∀ g row, Tab.tab g = some row → Go.Am.rowAt (E0 W).R ((E0 W).R g) 0 row ∧ Sized W g row.length := by
  rw [MakeChecks.laidMetH_plain _ _ _ (by kernel_rfl)] at h
  obtain ⟨ps, ⟨g0, t0, cs0, f0, p0, q0, hg0, ht0, hv0, hd0, ⟨g1, t1, cs1, f1, p1, q1, hg1, ht1, hv1, hd1, _⟩, _⟩, _⟩ := h
  obtain rfl := Option.some.inj (gOps.symm.trans hg0)
  obtain rfl := Option.some.inj (tOps.symm.trans ht0)
  obtain rfl := Option.some.inj (gFms.symm.trans hg1)
  obtain rfl := Option.some.inj (tFms.symm.trans ht1)
  have key : ∀ {g : Nat} {n : String} {cs : Array Value} {row : List D}, Tryd.prog.globalNamed n = some g → W.var? Tryd.prog n = some cs → crep (E0 W).R row cs.toList → cs.toList.length = row.length → Go.Am.rowAt (E0 W).R ((E0 W).R g) 0 row ∧ Sized W g row.length := by
    intro g n cs row hg hv hc hl
    refine ⟨crep_rowAt 0 hc fun j u hj => E0_cell ?_, ?_⟩
    · rw [Nat.zero_add, World.var?_cell hg hv j]
      simpa using hj
    · have := sized_of hg hv
      rwa [show cs.size = row.length by simpa using hl] at this
  intro g row hrow
  match g, hrow with
  | 2, h => cases h; exact key hg0 hv0 (ops_of hd0).1 ((ops_of (R := (E0 W).R) hd0).2.trans (by kernel_rfl))
  | 0, h => cases h; exact key hg1 hv1 (fms_of hd1).1 ((fms_of (R := (E0 W).R) hd1).2.trans (by kernel_rfl))
end Go.Proofs.YtampbaaiddbacaaDoor
