/- Instances made from a tape have few rows, as the tape says: a proof over an abstract machine of our own (part Wh) -/
import Derived.Test.YtampbaaiddbacaaGreatDoorWe
import Derived.Test.YtampbaaiddbacaaGreatDoorRows
import Derived.MakeChecks
import Derived.LaidLaws
import Derived.LaidMore
import Derived.Shelf.Vars
import Derived.Test.YtampbaaiddbacaaGreatDoorWg
import Derived.Test.YtampbaaiddbacaaGreatDoorWf
import Derived.Test.YtampbaaiddbacaaGreatDoorLe
set_option linter.all false
namespace Go.Proofs.YtampbaaiddbacaaGreatDoor
open Go.Am
set_option linter.unusedVariables false
set_option maxRecDepth 100000
theorem uOps : Tryz.prog.underlying 241 = some (.array 29 216) := by kernel_rfl
theorem sOp : structOk Tryz.prog 216 [9, 3, 3, 3] = true := by kernel_rfl
theorem c4o : Tryz.prog.cellsOf 216 = 4 := by kernel_rfl
theorem gOps : Tryz.prog.globalNamed "querylab/expression.operations" = some 2 := by kernel_rfl
theorem tOps : (Tryz.prog.globals[2]?).map (·.type) = some 241 := by kernel_rfl
def dOp {H : Type} (o : OpD) : DataW H := .agg [.lit (.string o.word.data.toList), .lit (.int .i64 o.kids), .lit (.int .i64 o.types), .lit (.int .i64 o.own)]
theorem laid_eq : (Rows.laid_querylab_expression_operations : DataW Unit) = .agg (opTab.map dOp) := by rfl
theorem crep_ops {R : Rd} : ∀ (l : List OpD) (cs : List Value), cs.length = l.length * 4 → (∀ i (hi : i < l.length), crep R (rOp l[i]) ((cs.drop (i * 4)).take 4)) → crep R (l.map rOp).flatten cs
  | [], cs, hl, _ => by
    have : cs = [] := List.eq_nil_of_length_eq_zero (by simpa using hl)
    rw [this]; trivial
  | o :: l, cs, hl, h => by
    have h0 := h 0 (by simp)
    match cs, hl with
    | a :: b :: c :: d :: cs, hl =>
      simp at h0
      refine ⟨h0.1, h0.2.1, h0.2.2.1, h0.2.2.2.1, crep_ops l cs (by simp at hl; omega) fun i hi => ?_⟩
      have := h (i + 1) (by simpa using hi)
      rw [show (i + 1) * 4 = i * 4 + 1 + 1 + 1 + 1 by omega] at this
      simpa only [List.drop_succ_cons, List.getElem_cons_succ] using this
    | [], hl => simp at hl
    | [_], hl => simp at hl; omega
    | [_, _], hl => simp at hl; omega
    | [_, _, _], hl => simp at hl; omega
theorem rd_structX {H : Type} {enc : TypeId × Value → H} {P : Program} {w : World} {base : Nat} {spare : Nat → Bool} {held : Bool} {t : TypeId} {fuel : Nat} {cs : List Value} {x : DataW H × List MemPlace} (tys : List TypeId)
    (hs : structOk P t tys = true) (h : DataW.trod enc P w base spare held fuel t cs = some x) : ∃ (n : Nat) (xs : List (DataW H × List MemPlace)), x.1 = .agg (xs.map (·.1)) ∧ xs.length = tys.length ∧ cs.length = tys.length ∧ ∀ (i : Nat) (u : TypeId), tys[i]? = some u → ∃ c, cs[i]? = some c ∧ DataW.trod enc P w base spare held n u [c] = xs[i]? := by
  unfold structOk at hs
  split at hs
  · rename_i fs hu
    simp only [Bool.and_eq_true, beq_iff_eq] at hs
    obtain ⟨⟨h1, h2⟩, h3⟩ := hs
    obtain ⟨xs, n, hn, hx, hl, hxl, hf⟩ := DataW.trod_struct hu h
    rw [h2] at hl
    refine ⟨n, xs, by rw [hx], by rw [hxl, ← h1]; simp, by rw [hl, ← h1]; simp, fun i u hi => ?_⟩
    rw [← h1, List.getElem?_map, Option.map_eq_some_iff] at hi
    obtain ⟨f, hf1, rfl⟩ := hi
    have hf2 : fs[i]? = some f := by simpa using hf1
    have hlt : i < fs.size := (Array.getElem?_eq_some_iff.1 hf2).1
    have g1 := List.all_eq_true.1 h3 i (by simpa using hlt)
    rw [hf2] at g1
    simp only [Bool.and_eq_true, beq_iff_eq] at g1
    have g2 := hf i f hf2
    rw [g1.1, g1.2, List.drop_eq_getElem_cons (by omega), List.take_succ_cons, List.take_zero] at g2
    exact ⟨cs[i], List.getElem?_eq_getElem (by omega), g2⟩
  · cases hs
theorem crep_4 {R : Rd} {a b c d : D} {c0 c1 c2 c3 : Value} {cs : List Value} (hl : cs.length = 4) (e0 : cs[0]? = some c0) (e1 : cs[1]? = some c1) (e2 : cs[2]? = some c2) (e3 : cs[3]? = some c3) (r0 : crep R [a] [c0]) (r1 : crep R [b] [c1]) (r2 : crep R [c] [c2]) (r3 : crep R [d] [c3]) : crep R [a, b, c, d] cs := by
  match cs, hl with
  | [x, y, z, u], _ => simp at e0 e1 e2 e3; subst e0; subst e1; subst e2; subst e3; exact ⟨r0.1, r1.1, r2.1, r3.1, trivial⟩
theorem op_of {R : Rd} {w : World} {base : Nat} {spare : Nat → Bool} {held : Bool} {fuel : Nat} {cs : List Value} {p : List MemPlace} {o : OpD} (h : DataW.trod (fun _ => ()) Tryz.prog w base spare held fuel 216 cs = some (dOp o, p)) : crep R (rOp o) cs := by
  obtain ⟨n, xs, hx, hxl, hl, hf⟩ := rd_structX _ sOp h
  obtain ⟨c0, e0, h0⟩ := hf 0 _ rfl
  obtain ⟨c1, e1, h1⟩ := hf 1 _ rfl
  obtain ⟨c2, e2, h2⟩ := hf 2 _ rfl
  obtain ⟨c3, e3, h3⟩ := hf 3 _ rfl
  match xs, hxl with
  | [y0, y1, y2, y3], _ =>
    simp only [dOp, List.map_cons, List.map_nil, DataW.agg.injEq, List.cons.injEq, and_true] at hx
    obtain ⟨q0, q1, q2, q3⟩ := hx
    obtain ⟨s, g0, k0, _⟩ := DataW.trod_string ustr (show _ = some y0 from h0)
    obtain ⟨m1, g1, k1, _⟩ := DataW.trod_int ui64 (show _ = some y1 from h1)
    obtain ⟨m2, g2, k2, _⟩ := DataW.trod_int ui64 (show _ = some y2 from h2)
    obtain ⟨m3, g3, k3, _⟩ := DataW.trod_int ui64 (show _ = some y3 from h3)
    subst k0; subst k1; subst k2; subst k3
    simp only [DataW.lit.injEq, Lit.string.injEq, Lit.int.injEq, true_and] at q0 q1 q2 q3
    have hs : s = o.word := by
      apply ByteArray.ext
      exact Array.toList_inj.1 q0.symm
    simp only [List.cons.injEq, and_true] at g0 g1 g2 g3
    subst g0; subst g1; subst g2; subst g3; subst hs
    rw [rOp, q1, q2, q3]
    exact crep_4 hl e0 e1 e2 e3 ⟨⟨by simp [D.rep, one], rfl⟩, trivial⟩ ⟨⟨by simp [D.rep, one], rfl⟩, trivial⟩ ⟨⟨by simp [D.rep, one], rfl⟩, trivial⟩ ⟨⟨by simp [D.rep, one], rfl⟩, trivial⟩
theorem gNull : Tryz.prog.globalNamed "querylab/value.null" = some 3 := by kernel_rfl
theorem tNull : (Tryz.prog.globals[3]?).map (·.type) = some 45 := by kernel_rfl
def nullRow : List D := [.lit (.int .i64 0), .lit (.int .i64 0), .lit (.string ⟨#[]⟩)]
theorem null_of {R : Rd} {w : World} {base : Nat} {spare : Nat → Bool} {held : Bool} {fuel : Nat} {cs : List Value} {p : List MemPlace} (h : DataW.trod (fun _ => ()) Tryz.prog w base spare held fuel 45 cs = some (Rows.laid_querylab_value_null, p)) : crep R nullRow cs := by
  obtain ⟨n, xs, hx, hxl, hl, hf⟩ := rd_structX _ sVal h
  obtain ⟨c0, e0, h0⟩ := hf 0 _ rfl
  obtain ⟨c1, e1, h1⟩ := hf 1 _ rfl
  obtain ⟨c2, e2, h2⟩ := hf 2 _ rfl
  match xs, hxl with
  | [y0, y1, y2], _ =>
    simp only [Rows.laid_querylab_value_null, List.map_cons, List.map_nil, DataW.agg.injEq, List.cons.injEq, and_true] at hx
    obtain ⟨q0, q1, q2⟩ := hx
    obtain ⟨m0, g0, k0, _⟩ := DataW.trod_int ui64 (show _ = some y0 from h0)
    obtain ⟨m1, g1, k1, _⟩ := DataW.trod_int uint64 (show _ = some y1 from h1)
    obtain ⟨s, g2, k2, _⟩ := DataW.trod_string ustr (show _ = some y2 from h2)
    subst k0; subst k1; subst k2
    simp only [DataW.lit.injEq, Lit.string.injEq, Lit.int.injEq, true_and] at q0 q1 q2
    have hs : s = ⟨#[]⟩ := by
      apply ByteArray.ext
      exact Array.toList_inj.1 q2.symm
    simp only [List.cons.injEq, and_true] at g0 g1 g2
    subst g0; subst g1; subst g2; subst hs; subst q0; subst q1
    exact crep_3 hl e0 e1 e2 ⟨⟨by simp [D.rep, Go.Am.one], rfl⟩, trivial⟩ ⟨⟨by simp [D.rep, Go.Am.one], rfl⟩, trivial⟩ ⟨⟨by simp [D.rep, Go.Am.one], rfl⟩, trivial⟩
theorem crep_len {R : Rd} : ∀ {row : List D} {cs : List Value}, crep R row cs → row.length = cs.length
  | [], [], _ => rfl
  | _ :: _, _ :: _, h => by simp only [List.length_cons]; rw [crep_len h.2]
theorem ops_of {W : World} {cs : Array Value} {base : Nat} {spare : Nat → Bool} {held : Bool} {fuel : Nat} {p : List MemPlace} (hd0 : DataW.trod (fun _ => ()) Tryz.prog W base spare held fuel 241 cs.toList = some (Rows.laid_querylab_expression_operations, p)) {R : Rd} :
    crep R opRow cs.toList ∧ cs.toList.length = 116 := by
  rw [laid_eq] at hd0
  obtain ⟨xs, m, hm, hx, hl, hn, hel⟩ := DataW.trod_array uOps hd0
  rw [c4o] at hel
  have hxs : xs.map (·.1) = opTab.map dOp := by
    simp only [Prod.mk.injEq, DataW.agg.injEq] at hx
    exact hx.1.symm
  have hcl : cs.toList.length = opTab.length * 4 := by rw [hl]; kernel_rfl
  refine ⟨crep_ops opTab cs.toList hcl fun i hi => ?_, hcl⟩
  have hi2 : i < 29 := hi
  have h1 := hel i hi2
  rw [List.getElem?_eq_getElem (by omega)] at h1
  have h2 : (xs[i]'(by omega)).1 = dOp opTab[i] := by
    have := congrArg (fun l => l[i]?) hxs
    simp only [List.getElem?_map, List.getElem?_eq_getElem (show i < xs.length by omega), List.getElem?_eq_getElem hi, Option.map_some, Option.some.injEq] at this
    exact this
  obtain ⟨pp, hpp⟩ : ∃ pp, xs[i]'(by omega) = (dOp opTab[i], pp) := ⟨(xs[i]'(by omega)).2, by rw [← h2]⟩
  rw [hpp] at h1
  exact op_of h1
theorem uPow : Tryz.prog.underlying 257 = some (.array 20 250) := by kernel_rfl
theorem uu64 : Tryz.prog.underlying 250 = some (.int .u64) := by kernel_rfl
theorem c1p : Tryz.prog.cellsOf 250 = 1 := by kernel_rfl
theorem c20 : Tryz.prog.cellsOf 257 = 20 := by kernel_rfl
theorem tPow : (Tryz.prog.globals[4]?).map (·.type) = some 257 := by kernel_rfl
theorem powLaid : (Rows.laid_internal_strconv_uint64pow10 : DataW Unit) = .agg (Lib.pow10Tab.map fun z => .lit (.int .u64 z)) := by rfl
theorem crep_u64 {R : Rd} : ∀ zs : List Int, crep R (zs.map fun z => D.lit (.int .u64 z)) (zs.map fun z => Value.int .u64 z)
  | [] => trivial
  | z :: zs => ⟨by simp [D.rep, Go.Am.one], crep_u64 zs⟩
theorem powRow_of {W : World} {cs : Array Value} {base : Nat} {spare : Nat → Bool} {held : Bool} {fuel : Nat} {p : List MemPlace} (hd : DataW.trod (fun _ => ()) Tryz.prog W base spare held fuel 257 cs.toList = some (Rows.laid_internal_strconv_uint64pow10, p)) {R : Rd} :
    crep R (Lib.pow10Tab.map fun z => D.lit (.int .u64 z)) cs.toList ∧ cs.toList.length = 20 := by
  rw [powLaid] at hd
  obtain ⟨xs, m, hm, hx, hl, hn, hel⟩ := DataW.trod_array uPow hd
  rw [c1p] at hel
  rw [c20] at hl
  have hxs : xs.map (·.1) = Lib.pow10Tab.map fun z => DataW.lit (.int .u64 z) := by
    simp only [Prod.mk.injEq, DataW.agg.injEq] at hx
    exact hx.1.symm
  have h20 := Lib.pow10Tab_length
  have hcs : cs.toList = Lib.pow10Tab.map fun z => Value.int .u64 z := by
    apply List.ext_getElem?
    intro i
    rcases Nat.lt_or_ge i 20 with hi | hi
    · have h1 := hel i hi
      rw [List.getElem?_eq_getElem (by omega), Nat.mul_one] at h1
      have h2 : (xs[i]'(by omega)).1 = .lit (.int .u64 (Lib.pow10Tab[i]'(by omega))) := by
        have := congrArg (fun l => l[i]?) hxs
        simp only [List.getElem?_map, List.getElem?_eq_getElem (show i < xs.length by omega), List.getElem?_eq_getElem (show i < Lib.pow10Tab.length by omega), Option.map_some, Option.some.injEq] at this
        exact this
      obtain ⟨k, g0, k0, _⟩ := DataW.trod_int uu64 (show _ = some (xs[i]'(by omega)) from h1)
      rw [k0] at h2
      simp only [DataW.lit.injEq, Lit.int.injEq, true_and] at h2
      have h3 := congrArg (fun l => l[0]?) g0
      simp only [List.getElem?_take, List.getElem?_drop, Nat.add_zero, List.getElem?_cons_zero] at h3
      rw [if_pos (by omega)] at h3
      rw [h3, h2, List.getElem?_map, List.getElem?_eq_getElem (show i < Lib.pow10Tab.length by omega)]
      rfl
    · rw [List.getElem?_eq_none (by omega), List.getElem?_eq_none (by simp; omega)]
  exact ⟨by rw [hcs]; exact crep_u64 _, hl⟩
theorem sized_of {W : World} {n : String} {g : Nat} {cs : Array Value} (hg : Tryz.prog.globalNamed n = some g) (h : W.var? Tryz.prog n = some cs) : Sized W g cs.size := by
  simp only [World.var?, hg, Option.bind_some] at h
  split at h
  · rename_i cs' el fl hc
    cases h
    exact ⟨_, _, _, hc, rfl⟩
  · cases h
/-- What lies in the tables that are laid. -/
def laidL : List (String × DataW Unit) := [("math/bits.deBruijn32tab", Rows.laid_math_bits_deBruijn32tab), ("math/bits.deBruijn64tab", Rows.laid_math_bits_deBruijn64tab), ("internal/strconv.uint64pow10", Rows.laid_internal_strconv_uint64pow10), ("querylab/value.null", Rows.laid_querylab_value_null), ("querylab/expression.operations", Rows.laid_querylab_expression_operations)]
theorem tabs_of {W : World} (h : laidMetH Tryz.prog laidL W) : ∀ g row, Tab.tab g = some row → Go.Am.rowAt (E0 W).R ((E0 W).R g) 0 row ∧ Sized W g row.length := by
  rw [MakeChecks.laidMetH_plain _ _ _ (by kernel_rfl)] at h
  obtain ⟨ps, ⟨g5, t5, cs5, f5, p5, q5, hg5, ht5, hv5, hd5, ⟨g6, t6, cs6, f6, p6, q6, hg6, ht6, hv6, hd6, ⟨g3, t3, cs3, f3, p3, q3, hg3, ht3, hv3, hd3, ⟨g1, t1, cs1, f1, p1, q1, hg1, ht1, hv1, hd1, ⟨g0, t0, cs0, f0, p0, q0, hg0, ht0, hv0, hd0, _⟩, _⟩, _⟩, _⟩, _⟩, _⟩ := h
  obtain rfl := Option.some.inj (gOps.symm.trans hg0)
  obtain rfl := Option.some.inj (tOps.symm.trans ht0)
  obtain rfl := Option.some.inj (gNull.symm.trans hg1)
  obtain rfl := Option.some.inj (tNull.symm.trans ht1)
  obtain rfl := Option.some.inj (gPow.symm.trans hg3)
  obtain rfl := Option.some.inj (tPow.symm.trans ht3)
  have key : ∀ {g : Nat} {n : String} {cs : Array Value} {row : List D}, Tryz.prog.globalNamed n = some g → W.var? Tryz.prog n = some cs → crep (E0 W).R row cs.toList → cs.toList.length = row.length → Go.Am.rowAt (E0 W).R ((E0 W).R g) 0 row ∧ Sized W g row.length := by
    intro g n cs row hg hv hc hl
    refine ⟨crep_rowAt 0 hc fun j u hj => E0_cell ?_, ?_⟩
    · rw [Nat.zero_add, World.var?_cell hg hv j]
      simpa using hj
    · have := sized_of hg hv
      rwa [show cs.size = row.length by simpa using hl] at this
  intro g row hrow
  match g, hrow with
  | 2, h => cases h; exact key hg0 hv0 (ops_of hd0).1 ((ops_of (R := (E0 W).R) hd0).2.trans (by kernel_rfl))
  | 3, h => cases h; exact key hg1 hv1 (null_of hd1) (crep_len (null_of (R := (E0 W).R) hd1)).symm
  | 4, h => cases h; exact key hg3 hv3 (powRow_of hd3).1 ((powRow_of (R := (E0 W).R) hd3).2.trans (by kernel_rfl))
end Go.Proofs.YtampbaaiddbacaaGreatDoor
namespace Go.Proofs.YtampbaaiddbacaaGreatDoor
open Go.Am
attribute [local simp, local push_cast] num boo str ints aV aTab aInst aS aT aC aRow rRow rTab rC rB vT tapeO rows_empty
set_option linter.unusedVariables false
set_option maxRecDepth 100000
set_option maxHeartbeats 4000000
/-! random.Instance. -/
theorem c_primary (T : Tbl) (c : Int) (hp : T.primary.length ≤ 1000) : ACall Tryz.prog 37 [aT T, num c] [] (boo (T.primary.contains c)) [] := by
  refine enterq mixed ttok Tryz.func37 Tryz.ntmps37 Tryz.results37 ?_
  generalize hr : boo (T.primary.contains c) = R
  simp -implicitDefEqProofs only [argT, ↓steps, push_cast, simprocAttr, tte]
  refine loop_count mixed ttok 10 [1, 8, 9] [] (by simp only [pickT, ends, push_cast, simprocAttr]; rfl) (by simp only [pickO, consO_some, ends, push_cast, simprocAttr]; rfl) T.primary.length (fun n => ∀ i, i < n → T.primary.getD i default ≠ c) (fun _ => []) (fun _ => []) (fun i h => absurd h (Nat.not_lt_zero _)) ?_ ?_
  · exact Weak.keepL (by simp [cst, ends]) (by simp [cst, ends]) (by simp [cst, ends])
  intro I hI n hn hi
  simp -implicitDefEqProofs only [cst, ↓steps, push_cast, simprocAttr, tte]
  refine bcase_intro (fun h => ?_) fun h => ?_
  · simp only [decide_eq_true_eq] at h
    have h' : n < T.primary.length := by omega
    have hw := wrap_succ h' (by omega)
    refine ⟨(by first | omega | trivial | (refine ⟨?_, ?_⟩ <;> first | omega | trivial | (refine ⟨?_, ?_⟩ <;> first | omega | trivial | (refine ⟨?_, ?_⟩ <;> first | omega | trivial | rfl)))), ?_⟩
    refine bcase_intro (fun g => ?_) fun g => ?_
    · have hc : T.primary.contains c = true := by
        rw [List.contains_iff_mem]
        have := getD_mem h'
        rwa [beq_iff_eq.1 g] at this
      exact ret_d trivial (by rw [← hr, hc]; rfl) (by simp [ends])
    · have g' : T.primary.getD n default ≠ c := by simpa using g
      exact cnt_again hI n rfl h' (fun i h2 => if h3 : i = n then by rw [h3]; exact g' else hi i (by omega)) (by simp [hw, ends]) (by simp [hw, ends]) (by simp [hw, ends]) (by simp [hw, ends])
  · simp only [decide_eq_false_iff_not] at h
    obtain rfl : n = T.primary.length := by omega
    have hc : T.primary.contains c = false := by
      cases hq : T.primary.contains c with
      | false => rfl
      | true =>
        obtain ⟨i, hi2, he⟩ := mem_at (List.contains_iff_mem.1 hq)
        exact absurd he (hi i hi2)
    exact ret_d trivial (by rw [← hr, hc]; rfl) (by simp [ends])
def isKey (T : Tbl) (c : Nat) : Bool := (T.columns.getD c default).type == 1 && T.primary.contains (c : Int)
def cellR (xs : List Int) (T : Tbl) (m c p : Nat) : Val × Nat :=
  if isKey T c = true then (⟨1, m, ByteArray.empty⟩, p) else valueM xs (T.columns.getD c default).type (T.columns.getD c default).nullable p
def rowR (xs : List Int) (T : Tbl) (m p : Nat) : Nat → Row × Nat
  | 0 => ([], p)
  | c + 1 => ((rowR xs T m p c).1 ++ [(cellR xs T m c (rowR xs T m p c).2).1], (cellR xs T m c (rowR xs T m p c).2).2)
theorem rowR_len (xs : List Int) (T : Tbl) (m p : Nat) : ∀ c, (rowR xs T m p c).1.length = c
  | 0 => rfl
  | c + 1 => by simp [rowR, rowR_len xs T m p c]
def rowF (xs : List Int) (s : Sch) (n : Nat) (x : Inst × Nat) : Row × Nat := rowR xs (s.getD n default) (x.1.getD n default).length x.2 (s.getD n default).columns.length
def stepR (xs : List Int) (s : Sch) (n : Nat) (x : Inst × Nat) : Inst × Nat :=
  (if validI s (x.1.set n (x.1.getD n default ++ [(rowF xs s n x).1])) = true then x.1.set n (x.1.getD n default ++ [(rowF xs s n x).1]) else x.1, (rowF xs s n x).2)
def stepsR (xs : List Int) (s : Sch) (n : Nat) (x : Inst × Nat) : Nat → Inst × Nat
  | 0 => x
  | k + 1 => stepR xs s n (stepsR xs s n x k)
def tabR (xs : List Int) (s : Sch) (rows : Int) (n : Nat) (x : Inst × Nat) : Inst × Nat := stepsR xs s n (x.1, x.2 + 1) (drawn xs x.2 (rows + 1)).toNat
def tabsR (xs : List Int) (s : Sch) (rows : Int) (ord : List Int) (x : Inst × Nat) : Nat → Inst × Nat
  | 0 => x
  | j + 1 => tabR xs s rows (ord.getD j default).toNat (tabsR xs s rows ord x j)
def rinstM (xs : List Int) (s : Sch) (rows : Int) : Inst := (tabsR xs s rows (orderP s) (emptyI s.length, 0) (orderP s).length).1
/-- An instance under way: few rows, as long as their tables want. -/
structure SoFar (s : Sch) (i : Inst) (b : Nat) : Prop where
  len : i.length = s.length
  few : ∀ t ∈ i, t.length ≤ b
  row : ∀ t ∈ i, ∀ r ∈ t, r.length ≤ 1000
theorem SoFar.small {s : Sch} {i : Inst} {b : Nat} (h : SoFar s i b) (hs : s.length ≤ 1000) (hb : b ≤ 1000) : SmallI i :=
  ⟨by rw [h.len]; exact hs, fun t ht => Nat.le_trans (h.few t ht) hb, h.row⟩
theorem SoFar.mono {s : Sch} {i : Inst} {b c : Nat} (h : SoFar s i b) (hb : b ≤ c) : SoFar s i c := ⟨h.len, fun t ht => Nat.le_trans (h.few t ht) hb, h.row⟩
theorem SoFar.add {s : Sch} {i : Inst} {b n : Nat} (h : SoFar s i b) (hn : n < i.length) {r : Row} (hr : r.length ≤ 1000) : SoFar s (i.set n (i.getD n default ++ [r])) (b + 1) := by
  have hm := getD_mem hn
  refine ⟨by rw [List.length_set]; exact h.len, fun t ht => ?_, fun t ht q hq => ?_⟩
  · rcases List.mem_or_eq_of_mem_set ht with h2 | rfl
    · have := h.few t h2; omega
    · have := h.few _ hm
      rw [List.length_append]; simp only [List.length_cons, List.length_nil]; omega
  · rcases List.mem_or_eq_of_mem_set ht with h2 | rfl
    · exact h.row t h2 q hq
    · rcases List.mem_append.1 hq with h3 | h3
      · exact h.row _ hm q h3
      · rw [List.mem_singleton.1 h3]; exact hr
theorem stepR_far {xs : List Int} {s : Sch} (hS : SmallS s) {n : Nat} (hn : n < s.length) {x : Inst × Nat} {b : Nat} (h : SoFar s x.1 b) : SoFar s (stepR xs s n x).1 (b + 1) := by
  unfold stepR
  simp only
  split
  · refine h.add (by rw [h.len]; exact hn) ?_
    rw [rowF, rowR_len]
    exact (hS.tab _ (getD_mem hn)).cols
  · exact h.mono (by omega)
theorem stepsR_far {xs : List Int} {s : Sch} (hS : SmallS s) {n : Nat} (hn : n < s.length) {x : Inst × Nat} {b : Nat} (h : SoFar s x.1 b) : ∀ k, SoFar s (stepsR xs s n x k).1 (b + k)
  | 0 => h
  | k + 1 => stepR_far hS hn (stepsR_far hS hn h k)
theorem tabR_far {xs : List Int} {s : Sch} (hS : SmallS s) {rows : Int} (h0 : 0 ≤ rows) (h40 : rows ≤ 40) {n : Nat} (hn : n < s.length) {x : Inst × Nat} {b : Nat} (h : SoFar s x.1 b) : SoFar s (tabR xs s rows n x).1 (b + 40) := by
  have hd := drawn_range xs x.2 (n := rows + 1) (by omega)
  exact (stepsR_far hS hn (x := (x.1, x.2 + 1)) h _).mono (by omega)
theorem tabsR_far {xs : List Int} {s : Sch} (hS : SmallS s) {rows : Int} (h0 : 0 ≤ rows) (h40 : rows ≤ 40) {ord : List Int} (ho : ∀ x ∈ ord, 0 ≤ x ∧ x < s.length) {x : Inst × Nat} {b : Nat} (h : SoFar s x.1 b) : ∀ j, j ≤ ord.length → SoFar s (tabsR xs s rows ord x j).1 (b + 40 * j)
  | 0, _ => h
  | j + 1, hj => by
    have := ho _ (getD_mem (show j < ord.length by omega))
    exact (tabR_far hS h0 h40 (by omega) (tabsR_far hS h0 h40 ho h j (by omega))).mono (by omega)
theorem order_in {s : Sch} (h : orderE s = 0) : (∀ x ∈ orderP s, 0 ≤ x ∧ x < s.length) ∧ (orderP s).length = s.length := by
  unfold orderE at h
  have ho : orderOk s = true := by
    cases hq : orderOk s with
    | true => rfl
    | false => rw [hq] at h; simp at h
  rw [orderP, if_pos ho]
  refine ⟨?_, picks_length s _⟩
  have key : ∀ n, n ≤ s.length → ∀ x ∈ picks s n, 0 ≤ x ∧ x < s.length := by
    intro n
    induction n with
    | zero => intro _ x hx; simp [picks] at hx
    | succ n ih =>
      intro hn x hx
      rw [picks, List.mem_append, List.mem_singleton] at hx
      rcases hx with hx | rfl
      · exact ih (by omega) x hx
      · have h1 := of_decide_eq_true (List.all_eq_true.1 ho n (List.mem_range.2 (by omega)))
        have h2 := fidx_lt (freeAt s (picks s n)) (List.range s.length)
        rw [List.length_range] at h2
        exact ⟨h1, h2⟩
  exact key _ (Nat.le_refl _)
theorem valid_parts {s : Sch} (h : validS s = 0) : s.length ≤ 6 ∧ orderE s = 0 := by
  unfold validS at h
  split at h
  · cases h
  rename_i h1
  split at h
  · rename_i h2; exact absurd h h2
  split at h
  · rename_i h3; exact absurd h h3
  · exact ⟨by omega, h⟩
end Go.Proofs.YtampbaaiddbacaaGreatDoor
namespace Go.Proofs.YtampbaaiddbacaaGreatDoor
open Go.Am
attribute [local simp, local push_cast] num boo str ints aV aTab aInst aS aT aC aRow rRow rTab rC rB vT tapeO rows_empty
set_option linter.unusedVariables false
set_option maxRecDepth 100000
set_option maxHeartbeats 4000000
/-! random.Instance: the walk. -/
theorem Weak.nilsL {t : List (Nat × A)} {o : List (Nat × Ob)} (q n : Nat) (hq : lookO o q = some (.var (List.replicate n .snil))) :
    Weak (SL.mk t o).st (SL.mk t ((q, .var (List.replicate n (.d (.sl 1 [])))) :: o)).st := by
  have key : ∀ k, k ≤ n → Weak (SL.mk t o).st ⟨lookT t, put (lookO o) q (some (.var (List.replicate k (.d (.sl 1 [])) ++ List.replicate (n - k) .snil)))⟩ := by
    intro k
    induction k with
    | zero =>
      intro _
      have : put (lookO o) q (some (.var (List.replicate 0 (.d (.sl 1 [])) ++ List.replicate (n - 0) .snil))) = lookO o := by
        funext j
        simp only [put]
        split
        · rename_i h; rw [h, hq]; simp
        · rfl
      rw [this]
      exact fun _ _ _ _ h => h
    | succ k ih =>
      intro hk
      refine (ih (by omega)).trans ?_
      have hr : List.replicate (n - k) A.snil = .snil :: List.replicate (n - (k + 1)) .snil := by
        rw [show n - k = (n - (k + 1)) + 1 by omega, List.replicate_succ]
      rw [hr]
      have hl : (List.replicate k (A.d (.sl 1 []))).length = k := by simp
      have h1 := Weak.frzCell (s := ⟨lookT t, put (lookO o) q (some (.var (List.replicate k (.d (.sl 1 [])) ++ .snil :: List.replicate (n - (k + 1)) .snil)))⟩) q k 1 (cs := List.replicate k (.d (.sl 1 [])) ++ .snil :: List.replicate (n - (k + 1)) .snil) (c := .snil) (put_same _ _ _) (get_at hl) rfl trivial (by simp [upds])
      simp only [upds, set_at hl] at h1
      have e : put (put (lookO o) q (some (.var (List.replicate k (.d (.sl 1 [])) ++ .snil :: List.replicate (n - (k + 1)) .snil)))) q (some (.var (List.replicate k (.d (.sl 1 [])) ++ .d (.sl 1 []) :: List.replicate (n - (k + 1)) .snil))) = put (lookO o) q (some (.var (List.replicate (k + 1) (.d (.sl 1 [])) ++ List.replicate (n - (k + 1)) .snil))) := by
        funext j
        simp only [put]
        split
        · simp [List.replicate_succ', List.append_assoc]
        · rfl
      rw [e] at h1
      exact h1
  have := key n (Nat.le_refl _)
  rw [Nat.sub_self, List.replicate_zero, List.append_nil, lookO_put] at this
  exact this
theorem emptyI_tabs (n : Nat) : (emptyI n).map tabC = List.replicate n (.d (.sl 1 [])) := by simp [emptyI, tabC, rowsOf]
theorem closedL_reps {dom : Nat → Bool} (x : D) : ∀ n : Nat, closedL dom (List.replicate n (.d x)) = true
  | 0 => rfl
  | n + 1 => by rw [List.replicate_succ, closedL, closedL_reps x n]; rfl
theorem emptyI_far (s : Sch) : SoFar s (emptyI s.length) 0 := by
  refine ⟨by simp [emptyI], fun t ht => ?_, fun t ht r hr => ?_⟩
  · rw [(List.mem_replicate.1 ht).2]; simp
  · rw [(List.mem_replicate.1 ht).2] at hr; simp at hr
def tR (rows : Int) (ord : List Int) : List (Nat × A) := [(2, num rows), (3, .ptr 3 0), (6, .ptr 6 0), (9, .ptr 33 0), (10, .ptr 10 0), (44, ints ord), (45, .d (.lit (.int .i64 ord.length)))]
def oR (xs : List Int) (s : Sch) (cs : List A) (p : Nat) : List (Nat × Ob) := [(3, vS s), (6, .var [.snil]), (10, .var [.vs 37 s.length]), (37, .var cs), (33, tapeO xs p)]
def S30 (xs : List Int) (s : Sch) (rows : Int) (ord : List Int) (x : Inst × Nat) (j : Nat) : SL := ⟨(46, .d (.lit (.int .i64 j))) :: tR rows ord, oR xs s (x.1.map tabC) x.2⟩
def T30 (xs : List Int) (s : Sch) (rows : Int) (ord : List Int) (x : Inst × Nat) (j n M k : Nat) : SL :=
  ⟨(54, .d (.lit (.int .i64 k))) :: (53, .d (.lit (.int .i64 M))) :: (14, .d (.lit (.int .i64 n))) :: (46, .d (.lit (.int .i64 j))) :: tR rows ord, oR xs s (x.1.map tabC) x.2⟩
def C30 (xs : List Int) (s : Sch) (rows : Int) (ord : List Int) (i : Inst) (j n M k : Nat) (T : Tbl) (r : Row × Nat) (c : Nat) : SL :=
  ⟨(63, .d (.lit (.int .i64 c))) :: (15, .vec 500 c) :: (61, .d (.sl 3 (rowsOf rC T.columns))) :: (62, .d (.lit (.int .i64 T.columns.length))) :: (54, .d (.lit (.int .i64 k))) :: (53, .d (.lit (.int .i64 M))) :: (14, .d (.lit (.int .i64 n))) :: (46, .d (.lit (.int .i64 j))) :: tR rows ord,
   (500, .vec 45 3 (rowsOf rV r.1) 0) :: oR xs s (i.map tabC) r.2⟩
theorem c_rinst {xs : List Int} {s : Sch} {rows : Int} (hx : ∀ x ∈ xs, i64 x) (hS : SmallS s) (hv : validS s = 0) (h0 : 0 ≤ rows) (h40 : rows ≤ 40) :
    ACall Tryz.prog 7 [aS s, ints xs, num rows] [] (.tup [aInst (rinstM (xs.take 400) s rows), num 0]) [] := by
  obtain ⟨hs6, hoe⟩ := valid_parts hv
  obtain ⟨hoi, hol⟩ := order_in hoe
  have hG := good_of_valid hv
  refine enterq mixed ttok Tryz.func7 Tryz.ntmps7 Tryz.results7 ?_
  have hsl := hS.len
  simp -implicitDefEqProofs only [argT, ↓steps, push_cast, simprocAttr, tte]
  refine callq [[6]] [] (c_svalid s hS) ?_
  simp -implicitDefEqProofs only [hv, ↓steps, push_cast, simprocAttr, tte]
  have d1 : decide (rows < 0) = false := decide_eq_false (by omega)
  have d2 : decide (rows > 40) = false := decide_eq_false (by omega)
  simp -implicitDefEqProofs only [d1, d2, ↓steps, push_cast, simprocAttr, tte]
  refine callq [[1]] [(9, 33)] (c10 (xs := xs)) ?_
  have hx := tape_take hx
  generalize xs.take 400 = xs at hx ⊢
  simp -implicitDefEqProofs only [↓steps, push_cast, simprocAttr, tte]
  refine ⟨by omega, ?_⟩
  have hO := c_order s (by omega) (fun t h => (hS.tab t h).fors) (fun t ht f hf => by have := (hG.fors t ht f hf).2.2.1; omega)
  rw [hoe] at hO
  have hM : rinstM xs s rows = (tabsR xs s rows (orderP s) (emptyI s.length, 0) (orderP s).length).1 := rfl
  rw [hM]
  generalize orderP s = ord at hO hoi hol
  refine callq [[6]] [] (hO) ?_
  simp -implicitDefEqProofs only [↓steps, push_cast, simprocAttr, tte]
  refine loopx_weak ?_
  refine loop_gen mixed ttok (fun j : Nat => S30 xs s rows ord (tabsR xs s rows ord (emptyI s.length, 0) j) j) (fun j => ord.length - j) (fun j => j ≤ ord.length) 0 (Nat.zero_le _) ?_ ?_
  · exact (Weak.nilsL 37 s.length rfl).trans (Weak.keepL (by simp [S30, tR, oR, ends]) (by simp [S30, oR, vS, tabsR, emptyI_tabs, closedL_reps, ends]) (by simp [S30, oR, ends]))
  intro I hI j hj
  have hfar := tabsR_far (xs := xs) hS h0 h40 hoi (x := (emptyI s.length, 0)) (b := 0) (emptyI_far s) j hj
  have hsucc : tabsR xs s rows ord (emptyI s.length, 0) (j + 1) = tabR xs s rows (ord.getD j default).toNat (tabsR xs s rows ord (emptyI s.length, 0) j) := rfl
  simp -implicitDefEqProofs only [S30, tR, oR, vS, ↓steps, push_cast, simprocAttr, tte]
  refine bcase_intro (fun h => ?_) fun h => ?_
  rotate_left
  · have hjj : j = ord.length := by have := of_decide_eq_false h; omega
    subst hjj
    generalize (tabsR xs s rows ord (emptyI s.length, 0) ord.length).1 = i at hfar ⊢
    have hil := hfar.len
    have hxs : i.map tabC = (i.map fun t => (.sl 1 (rowsOf rRow t) : D)).map .d := by simp [tabC]
    have hrt : ((i.map fun t => (.sl 1 (rowsOf rRow t) : D)).map fun x => [x]) = rowsOf rTab i := by rw [List.map_map]; rfl
    rw [hxs]
    refine ⟨⟨[(6, .ptr 6 0), (10, .ptr 10 0)], [(6, .var [.snil]), (10, .var [.d (.sl 1 (rowsOf rTab i))])]⟩, ?_, ?_⟩
    · rw [← hrt]
      exact Weak.keepVsCell 10 (q := 37) (n := s.length) (xs := i.map fun t => (.sl 1 (rowsOf rRow t) : D)) rfl rfl rfl rfl (by simp [hil]) (by simp [ends]) (by simp [vS, vI, ends]) (by simp [ends])
    simp -implicitDefEqProofs only [↓steps, push_cast, simprocAttr, tte]
    exact retx_tup [[1], []] rfl (by simp) (by simp) rfl rfl trivial (by simp [ends])
  have h' : j < ord.length := by have := of_decide_eq_true h; omega
  have hw := wrap_succ h' (by omega)
  obtain ⟨n, hn⟩ : ∃ n : Nat, ord.getD j default = n := ⟨(ord.getD j default).toNat, by have := hoi _ (getD_mem h'); omega⟩
  have hns : n < s.length := by have := hoi _ (getD_mem h'); omega
  rw [hn, Int.toNat_natCast] at hsucc
  generalize tabsR xs s rows ord (emptyI s.length, 0) j = x at hfar hsucc ⊢
  have wm : IntKind.i64.wrap (rows + 1) = rows + 1 := wrap_eq (by omega) (by omega)
  simp only [hn, wm]
  refine ⟨by omega, ?_⟩
  refine callq [[], []] [(1000, 33)] (c13 (n := rows + 1) (p := x.2) hx (by omega) (by omega)) ?_
  have hd := drawn_range xs x.2 (n := rows + 1) (by omega)
  simp -implicitDefEqProofs only [↓steps, push_cast, simprocAttr, tte]
  obtain ⟨M, hM⟩ : ∃ M : Nat, drawn xs x.2 (rows + 1) = M := ⟨(drawn xs x.2 (rows + 1)).toNat, by omega⟩
  rw [tabR, hM, Int.toNat_natCast] at hsucc
  rw [hM] at hd ⊢
  have hTm := getD_mem hns
  have hsm := hS.tab _ hTm
  refine loop_gen mixed ttok (fun k : Nat => T30 xs s rows ord (stepsR xs s n (x.1, x.2 + 1) k) j n M k) (fun k => M - k) (fun k => k ≤ M) 0 (Nat.zero_le _) ?_ ?_
  · exact Weak.keepL (by simp [T30, tR, oR, ends]) (by simp [T30, oR, vS, stepsR, closedL_tabs, ends]) (by simp [T30, oR, ends])
  intro J hJ k hk
  have hfk := stepsR_far (xs := xs) hS hns (x := (x.1, x.2 + 1)) hfar k
  have hsk : stepsR xs s n (x.1, x.2 + 1) (k + 1) = stepR xs s n (stepsR xs s n (x.1, x.2 + 1) k) := rfl
  simp -implicitDefEqProofs only [T30, tR, oR, vS, ↓steps, push_cast, simprocAttr, tte]
  refine bcase_intro (fun g => ?_) fun g => ?_
  rotate_left
  · have hkk : k = M := by have := of_decide_eq_false g; omega
    subst hkk
    exact gen_again hI (j + 1) h' (by show ord.length - (j + 1) < ord.length - j; omega) (Weak.keepL (by simp [S30, tR, oR, hw, ends]) (by simp [S30, oR, vS, hsucc, closedL_tabs, ends]) (by simp [S30, oR, ends]))
  have g' : k < M := by have := of_decide_eq_true g; omega
  have hwk := wrap_succ g' (by omega)
  generalize stepsR xs s n (x.1, x.2 + 1) k = y at hfk hsk ⊢
  have hyn : n < y.1.length := by rw [hfk.len]; exact hns
  have hyl := hfk.few _ (getD_mem hyn)
  have hyr := hfk.row _ (getD_mem hyn)
  have hgt := get_tab hyn
  refine ⟨⟨by omega, by omega⟩, ?_⟩
  have hrf : rowF xs s n y = rowR xs (s.getD n default) (y.1.getD n default).length y.2 (s.getD n default).columns.length := rfl
  obtain ⟨T, hT⟩ : ∃ T, s.getD n default = T := ⟨_, rfl⟩
  rw [hT] at hrf hsm
  rw [hT]
  have hcl := hsm.cols
  have hsk2 : stepR xs s n y = (if validI s (y.1.set n (y.1.getD n default ++ [(rowF xs s n y).1])) = true then y.1.set n (y.1.getD n default ++ [(rowF xs s n y).1]) else y.1, (rowF xs s n y).2) := rfl
  rw [hsk2] at hsk
  clear hsk2
  generalize rowF xs s n y = rF at hrf hsk
  obtain ⟨old, hold⟩ : ∃ old, y.1.getD n default = old := ⟨_, rfl⟩
  rw [hold] at hrf hsk hyl hyr hgt
  rw [tabC] at hgt
  refine loop_gen mixed ttok (fun c : Nat => C30 xs s rows ord y.1 j n M k T (rowR xs T old.length y.2 c) c) (fun c => T.columns.length - c) (fun c => c ≤ T.columns.length) 0 (Nat.zero_le _) ?_ ?_
  · exact (Weak.nilL 15 500 45 3 rfl rfl).trans (Weak.keepL (by simp [C30, tR, oR, ends]) (by simp [C30, oR, vS, rowR, rowsOf, closedL_tabs, ends]) (by simp [C30, oR, ends]))
  intro L hL c hc
  have hrl := rowR_len xs T old.length y.2 c
  simp -implicitDefEqProofs only [C30, tR, oR, vS, ↓steps, push_cast, simprocAttr, tte]
  refine bcase_intro (fun g2 => ?_) fun g2 => ?_
  · have g2' : c < T.columns.length := by have := of_decide_eq_true g2; omega
    have hwc := wrap_succ g2' (by omega)
    refine ⟨⟨by omega, by omega⟩, ?_⟩
    have hrs : rowR xs T old.length y.2 (c + 1) = ((rowR xs T old.length y.2 c).1 ++ [(cellR xs T old.length c (rowR xs T old.length y.2 c).2).1], (cellR xs T old.length c (rowR xs T old.length y.2 c).2).2) := rfl
    generalize rowR xs T old.length y.2 c = r at hrl hrs ⊢
    simp only [hT]
    refine bcase_intro (fun ht => ?_) fun ht => ?_
    · refine ⟨⟨by omega, by omega⟩, ?_⟩
      refine callq [[], []] [] (c_primary T (c : Int) hsm.prim) ?_
      simp -implicitDefEqProofs only [hgt, ↓steps, push_cast, simprocAttr, tte]
      refine bcase_intro (fun hp => ?_) fun hp => ?_
      · have hk1 : isKey T c = true := by rw [isKey, ht, hp]; rfl
        rw [cellR, if_pos hk1] at hrs
        refine ⟨⟨by omega, by omega⟩, ⟨by omega, by omega⟩, ?_⟩
        exact gen_again hL (c + 1) g2' (by show T.columns.length - (c + 1) < T.columns.length - c; omega) (Weak.keepL (by simp [C30, tR, oR, hwc, hrl, ends]) (by simp [C30, oR, vS, hrs, hrl, rowsOf, rV, closedL_tabs, ends]) (by simp [C30, oR, ends]))
      · have hk1 : ¬ isKey T c = true := by rw [isKey, ht, hp]; decide
        rw [cellR, if_neg hk1] at hrs
        refine callq [[], [], []] [(1000, 33)] (c18 (typ := (T.columns.getD c default).type) (nl := (T.columns.getD c default).nullable) (p := r.2) hx) ?_
        simp -implicitDefEqProofs only [↓steps, push_cast, simprocAttr, tte]
        refine ⟨⟨by omega, by omega⟩, ?_⟩
        generalize hvv : valueM xs (T.columns.getD c default).type (T.columns.getD c default).nullable r.2 = vv at hrs
        exact gen_again hL (c + 1) g2' (by show T.columns.length - (c + 1) < T.columns.length - c; omega) (Weak.keepL (by simp [C30, tR, oR, hwc, hrl, ends]) (by simp [C30, oR, vS, hrs, hrl, rowsOf, rV, closedL_tabs, ends]) (by simp [C30, oR, ends]))
    · have hk1 : ¬ isKey T c = true := by rw [isKey, ht, Bool.false_and]; decide
      rw [cellR, if_neg hk1] at hrs
      refine callq [[], [], []] [(1000, 33)] (c18 (typ := (T.columns.getD c default).type) (nl := (T.columns.getD c default).nullable) (p := r.2) hx) ?_
      simp -implicitDefEqProofs only [↓steps, push_cast, simprocAttr, tte]
      refine ⟨⟨by omega, by omega⟩, ?_⟩
      generalize hvv : valueM xs (T.columns.getD c default).type (T.columns.getD c default).nullable r.2 = vv at hrs
      exact gen_again hL (c + 1) g2' (by show T.columns.length - (c + 1) < T.columns.length - c; omega) (Weak.keepL (by simp [C30, tR, oR, hwc, hrl, ends]) (by simp [C30, oR, vS, hrs, hrl, rowsOf, rV, closedL_tabs, ends]) (by simp [C30, oR, ends]))
  have g2' : c = T.columns.length := by have := of_decide_eq_false g2; omega
  subst g2'
  rw [← hrf] at hrl ⊢
  clear hL L
  simp -implicitDefEqProofs only [hgt, ↓steps, push_cast, simprocAttr, tte]
  rw [List.take_length]
  refine ⟨⟨by omega, by omega⟩, ⟨by omega, by omega⟩, hrl.symm, by omega, ⟨by omega, by omega⟩, by simp; omega, drawx_intro (by kernel_rfl), ?_⟩
  have htt : n < (y.1.map tabC).length := by rw [List.length_map]; exact hyn
  have hset : List.take n (y.1.map tabC) ++ [A.vec 116 (old.length + 1)] ++ List.drop (n + 1) (y.1.map tabC) = (y.1.map tabC).set n (.vec 116 (old.length + 1)) := by
    rw [List.set_eq_take_append_cons_drop, if_pos htt, List.append_assoc, List.singleton_append]
  have hap : rowsOf rRow old ++ [[D.sl 3 (rowsOf rV rF.1)]] = rowsOf rRow (old ++ [rF.1]) := by simp [rowsOf, rRow]
  rw [hset, hap]
  have hsa := fun (h2 : Nat → Option Ob) (e fz : Nat) => seen_args (h2 := h2) (s := s) (i := y.1) (k := n) (q := 37) (o := 116) (m := old.length + 1) (e := e) (fz := fz) (tab := old ++ [rF.1]) hyn
  have hfar2 : SoFar s (y.1.set n (old ++ [rF.1])) (0 + 40 * j + k + 1) := by
    have := hfk.add hyn (r := rF.1) (by omega)
    rwa [hold] at this
  have hv2 := c_validI s (y.1.set n (old ++ [rF.1])) hS (hfar2.small hS.len (by omega))
  rw [hfk.len] at hsa
  refine callx_seen [37, 116] hv2 (fun h2 hh => hsa h2 _ _ ((hh 37 (by simp)).trans rfl) ((hh 116 (by simp)).trans rfl) (by simp)) ?_
  have hgs : ((y.1.map tabC).set n (.vec 116 (old.length + 1)))[n]? = some (.vec 116 (old.length + 1)) := by rw [List.getElem?_set_self htt]
  have hss : ∀ a, ((y.1.map tabC).set n (.vec 116 (old.length + 1))).set n a = (y.1.map tabC).set n a := fun a => by rw [List.set_set]
  have hts : List.take n ((y.1.map tabC).set n (A.vec 116 (old.length + 1))) ++ [tabC old] ++ List.drop (n + 1) ((y.1.map tabC).set n (A.vec 116 (old.length + 1))) = y.1.map tabC := by
    have e : ((y.1.map tabC).set n (A.vec 116 (old.length + 1))).set n (tabC old) = y.1.map tabC := by
      rw [hss]
      have : (y.1.map tabC)[n]? = some (tabC old) := by rw [hgt]; rfl
      rw [List.getElem?_eq_getElem htt] at this
      rw [← Option.some.inj this, List.set_getElem_self]
    rw [← e]
    conv => rhs; rw [List.set_eq_take_append_cons_drop, if_pos (by rw [List.length_set]; exact htt)]
    rw [e, List.append_assoc, List.singleton_append]
  simp only [tabC] at hts
  cases hva : validI s (y.1.set n (old ++ [rF.1])) with
  | true =>
    rw [hva, if_pos rfl] at hsk
    simp -implicitDefEqProofs only [↓steps, push_cast, simprocAttr, tte]
    refine gen_again hJ (k + 1) g' (by show M - (k + 1) < M - k; omega) ?_
    refine (Weak.frzCellL 37 n 1 rfl hgs rfl (by simp [rowsOf_length]) rfl).trans ?_
    rw [hss]
    have hst : (y.1.map tabC).set n (.d (.sl 1 (rowsOf rRow (old ++ [rF.1])))) = (y.1.set n (old ++ [rF.1])).map tabC := by rw [List.map_set, tabC]
    rw [hst]
    have hsk1 : (stepsR xs s n (x.1, x.2 + 1) (k + 1)).1 = y.1.set n (old ++ [rF.1]) := by rw [hsk]
    have hsk2 : (stepsR xs s n (x.1, x.2 + 1) (k + 1)).2 = rF.2 := by rw [hsk]
    have hclt : ∀ dom : Nat → Bool, closedL dom ((y.1.set n (old ++ [rF.1])).map tabC) = true := fun dom => closedL_tabs _
    rw [← hsk1] at hclt ⊢
    generalize hyy : (stepsR xs s n (x.1, x.2 + 1) (k + 1)).1.map tabC = cs at hclt ⊢
    exact Weak.keepL (by simp [T30, tR, oR, hwk, ends]) (by simp [T30, oR, vS, hyy, hsk2, hclt, ends]) (by simp [T30, oR, ends])
  | false =>
    rw [hva, if_neg (by decide)] at hsk
    simp -implicitDefEqProofs only [↓steps, push_cast, simprocAttr, tte]
    refine ⟨⟨by omega, by omega⟩, by rw [List.length_set]; omega, ?_⟩
    rw [hts]
    have hsk1 : (stepsR xs s n (x.1, x.2 + 1) (k + 1)).1 = y.1 := by rw [hsk]
    have hsk2 : (stepsR xs s n (x.1, x.2 + 1) (k + 1)).2 = rF.2 := by rw [hsk]
    have hclt : ∀ dom : Nat → Bool, closedL dom (y.1.map tabC) = true := fun dom => closedL_tabs _
    refine gen_again hJ (k + 1) g' (by show M - (k + 1) < M - k; omega) ?_
    rw [← hsk1] at hclt ⊢
    generalize hyy : (stepsR xs s n (x.1, x.2 + 1) (k + 1)).1.map tabC = cs at hclt ⊢
    exact Weak.keepL (by simp [T30, tR, oR, hwk, ends]) (by simp [T30, oR, vS, hyy, hsk2, hclt, ends]) (by simp [T30, oR, ends])
end Go.Proofs.YtampbaaiddbacaaGreatDoor
namespace Go.Proofs.YtampbaaiddbacaaGreatDoor
open Go.Am
attribute [local simp, local push_cast] num boo str ints aV aTab aInst aS aT aC aRow rRow rTab rC rB vT tapeO rows_empty
set_option linter.unusedVariables false
set_option maxRecDepth 100000
set_option maxHeartbeats 4000000
/-! RandomPrefix. -/
theorem c_mod {x n : Int} (hx : i64 x) (hn : 1 ≤ n) (hn2 : n ≤ 1000000) : ACall Tryz.prog 8 [num x, num n] [] (num (x % n)) [] := by
  refine enterq mixed ttok Tryz.func8 Tryz.ntmps8 Tryz.results8 ?_
  generalize hr : num (x % n) = R
  simp -implicitDefEqProofs only [argT, ↓steps, push_cast, simprocAttr, tte]
  obtain ⟨hx1, hx2⟩ := hx
  have h0 : decide (n < 1) = false := decide_eq_false (by omega)
  simp -implicitDefEqProofs only [h0, ↓steps, push_cast, simprocAttr, tte]
  have hz : (n == 0) = false := beq_eq_false_iff_ne.2 (by omega)
  have hfix := tmod_fix x n (by omega)
  have hb := Int.emod_lt_of_pos x (show 0 < n by omega)
  have hnn := Int.emod_nonneg x (show n ≠ 0 by omega)
  refine ⟨by omega, ?_⟩
  refine bcase_intro (fun h => ?_) fun h => ?_
  · rw [if_pos (of_decide_eq_true h)] at hfix
    have hw : IntKind.i64.wrap (x.tmod n + n) = x % n := by rw [hfix]; exact wrap_eq (by omega) (by omega)
    rw [hw]
    exact ret_d trivial hr (by simp [ends])
  · rw [if_neg (of_decide_eq_false h)] at hfix
    rw [hfix]
    exact ret_d trivial hr (by simp [ends])
theorem c_fint (n : Int) : ACall Tryz.prog 9 [num n] [] (aV ⟨1, n, ByteArray.empty⟩) [] := by
  refine enterq mixed ttok Tryz.func9 Tryz.ntmps9 Tryz.results9 ?_
  generalize hr : aV ⟨1, n, ByteArray.empty⟩ = R
  simp -implicitDefEqProofs only [argT, ↓steps, push_cast, simprocAttr, tte]
  exact ret_v trivial hr (by simp [ends])
theorem valueM_fits (xs : List Int) (typ : Int) (ht : typ = 1 ∨ typ = 2 ∨ typ = 3) (nl : Bool) (p : Nat) (nm : ByteArray) (f : Bool) : badV ⟨nm, typ, f⟩ (valueM xs typ nl p).1 = false := by
  have e : ∀ v, badV ⟨nm, typ, f⟩ v = badV ⟨ByteArray.empty, typ, false⟩ v := fun _ => rfl
  rw [e]
  have key : ∀ p, badV ⟨ByteArray.empty, typ, false⟩ (valM xs typ p).1 = false := by
    intro p
    unfold valM
    have h7 := drawn_range xs p (n := 7) (by omega)
    have h4 := drawn_range xs p (n := 4) (by omega)
    have h2 := drawn_range xs p (n := 2) (by omega)
    split
    · rename_i h
      subst h
      generalize drawn xs p 7 = d at h7
      have : d = 0 ∨ d = 1 ∨ d = 2 ∨ d = 3 ∨ d = 4 ∨ d = 5 ∨ d = 6 := by omega
      rcases this with rfl | rfl | rfl | rfl | rfl | rfl | rfl <;> (simp only []; decide +kernel)
    · split
      · rename_i h
        subst h
        generalize drawn xs p 2 = d at h2
        have : d = 0 ∨ d = 1 := by omega
        rcases this with rfl | rfl <;> (simp only []; decide +kernel)
      · obtain rfl : typ = 3 := by omega
        generalize drawn xs p 4 = d at h4
        have : d = 0 ∨ d = 1 ∨ d = 2 ∨ d = 3 := by omega
        rcases this with rfl | rfl | rfl | rfl <;> (simp only []; decide +kernel)
  unfold valueM
  split
  · split
    · unfold badV validM
      simp
    · exact key _
  · exact key _
theorem order_tabP : orderP [tabP] = [0] := by kernel_rfl
theorem rowP (xs : List Int) (m p : Nat) : ∃ v : Val, (rowR xs tabP m p 2).1 = [kV m, v] ∧ badV ⟨⟨#[99]⟩, 3, true⟩ v = false := by
  refine ⟨(cellR xs tabP m 1 (rowR xs tabP m p 1).2).1, ?_, ?_⟩
  · show ([] ++ [(cellR xs tabP m 0 p).1]) ++ _ = _
    rfl
  · have : isKey tabP 1 = false := by decide +kernel
    unfold cellR
    rw [this, if_neg (by decide)]
    exact valueM_fits xs 3 (by simp) true _ _ _
theorem stepsP (xs : List Int) (p : Nat) : ∀ k, k ≤ 100 → ∃ t : Tab2, (stepsR xs [tabP] 0 (emptyI 1, p) k).1 = [t] ∧ t.length = k ∧ RowsP t
  | 0, _ => ⟨[], rfl, rfl, by simp, fun n h => by simp at h⟩
  | k + 1, hk => by
    obtain ⟨t, h1, h2, h3⟩ := stepsP xs p k (by omega)
    have hs : stepsR xs [tabP] 0 (emptyI 1, p) (k + 1) = stepR xs [tabP] 0 (stepsR xs [tabP] 0 (emptyI 1, p) k) := rfl
    rw [hs]
    generalize stepsR xs [tabP] 0 (emptyI 1, p) k = y at h1 ⊢
    obtain ⟨v, e, hv⟩ := rowP xs t.length y.2
    have hr : (rowF xs [tabP] 0 y).1 = [kV t.length, v] := by
      rw [rowF, h1]
      exact e
    have hR : RowsP (t ++ [[kV t.length, v]]) := by
      refine ⟨by simp; omega, fun n hn => ?_⟩
      rcases Nat.lt_or_ge n t.length with h | h
      · obtain ⟨u, g1, g2⟩ := h3.2 n h
        refine ⟨u, ?_, g2⟩
        rw [← g1]
        simp [List.getD_eq_getElem?_getD, List.getElem?_append_left h]
      · simp at hn
        obtain rfl : n = t.length := by omega
        exact ⟨v, by simp [List.getD_eq_getElem?_getD], hv⟩
    refine ⟨t ++ [[kV t.length, v]], ?_, by simp [h2], hR⟩
    unfold stepR
    simp only [hr, h1]
    have : List.set [t] 0 (List.getD [t] 0 default ++ [[kV t.length, v]]) = [t ++ [[kV t.length, v]]] := rfl
    rw [this, if_pos hR.valid]
theorem rinstP (xs : List Int) {rows : Int} (h0 : 0 ≤ rows) (h40 : rows ≤ 40) : ∃ t : Tab2, rinstM xs [tabP] rows = [t] ∧ (t.length : Int) = xs.getD 0 0 % (rows + 1) ∧ RowsP t := by
  have hd := drawn_range xs 0 (n := rows + 1) (by omega)
  obtain ⟨t, h1, h2, h3⟩ := stepsP xs 1 (drawn xs 0 (rows + 1)).toNat (by omega)
  refine ⟨t, ?_, ?_, h3⟩
  · unfold rinstM
    rw [order_tabP]
    exact h1
  · rw [h2, Int.toNat_of_nonneg hd.1]
    rfl
theorem tabP_small : SmallS [tabP] := by
  refine ⟨by simp, fun t ht => ?_⟩
  rw [List.mem_singleton.1 ht]
  refine ⟨by simp [tabP], by simp [tabP], by simp [tabP], by simp [tabP], by simp [tabP], by simp [tabP], by simp [tabP], by simp [tabP]⟩
theorem c_lawP (xs : List Int) (hx : ∀ x ∈ xs, i64 x) (n : Int) (hn0 : 0 ≤ n) (hn : n ≤ 255) : ACall Tryz.prog 3 [ints xs, .d (.lit (.int .u8 n))] [] (boo true) [] := by
  refine enterq mixed ttok Tryz.func3 Tryz.ntmps3 Tryz.results3 ?_
  simp -implicitDefEqProofs only [argT, ↓steps, push_cast, simprocAttr, tte]
  refine bcase_intro (fun h => ?_) fun h => ?_
  · refine callq [[]] [] (c4) ?_
    simp -implicitDefEqProofs only [↓steps, push_cast, simprocAttr, tte]
    exact retx_of [0] rfl trivial trivial rfl rfl trivial (by simp [ends])
  have hl : xs.length ≤ 300 := by have := of_decide_eq_false h; omega
  have hwn : IntKind.i64.wrap n = n := wrap_eq (by omega) (by omega)
  rw [hwn]
  have hm1 : 0 ≤ n.tmod 20 := Int.tmod_nonneg _ hn0
  have hm2 : n.tmod 20 < 20 := Int.tmod_lt_of_pos _ (by omega)
  generalize n.tmod 20 = rows at hm1 hm2 ⊢
  obtain ⟨t, ht1, ht2, ht3⟩ := rinstP xs (rows := rows) (by omega) (by omega)
  have hcr := c_rinst (xs := xs) (s := [tabP]) (rows := rows) hx tabP_small tabP_valid (by omega) (by omega)
  rw [List.take_of_length_le (by omega), ht1] at hcr
  simp only [aS, rowsOf, List.map_cons, List.map_nil, rT, tabP, rC, rI] at hcr
  refine callq [[6], [], []] [] (hcr) ?_
  simp -implicitDefEqProofs only [↓steps, push_cast, simprocAttr, tte]
  have hTL := ht3.1
  have hgd : xs.getD 0 default = xs.getD 0 0 := rfl
  have hwr : IntKind.i64.wrap (rows + 1) = rows + 1 := wrap_eq (by omega) (by omega)
  rw [hgd, hwr]
  have hx0 : i64 (xs.getD 0 0) := by
    cases xs with
    | nil => simp [i64]
    | cons x xs => exact hx x (by simp)
  refine bcase_intro (fun hp => ?_) fun hp => ?_
  · have hp' : 0 < xs.length := by have := of_decide_eq_true hp; omega
    refine ⟨by omega, ?_⟩
    refine callq [[], []] [] (c_mod hx0 (n := rows + 1) (by omega) (by omega)) ?_
    rw [← ht2]
    simp -implicitDefEqProofs only [↓steps, push_cast, simprocAttr, tte]
    refine loop_count mixed ttok 55 [53, 54, 7, 9] [7] (by simp only [pickT, ends, push_cast, simprocAttr]; rfl) (by simp only [pickO, consO_some, ends, push_cast, simprocAttr]; rfl) t.length (fun _ => True) (fun _ => []) (fun _ => []) trivial ?_ ?_
    · exact Weak.keepL (by simp [cst, ends]) (by simp [cst, ends]) (by simp [cst, ends])
    intro I hI k hk hi
    simp -implicitDefEqProofs only [cst, ↓steps, push_cast, simprocAttr, tte]
    refine bcase_intro (fun g => ?_) fun g => ?_
    · have g' : k < t.length := by have := of_decide_eq_true g; omega
      have hwk := wrap_succ g' (by omega)
      obtain ⟨v, he, hv⟩ := ht3.2 k g'
      have hkk : ((kV (k : Int)).num) = k := rfl
      refine ⟨(by first | omega | trivial | (refine ⟨?_, ?_⟩ <;> first | omega | trivial | (refine ⟨?_, ?_⟩ <;> first | omega | trivial | (refine ⟨?_, ?_⟩ <;> first | omega | trivial | rfl)))), ?_⟩
      simp -implicitDefEqProofs only [he, kV, ↓steps, push_cast, simprocAttr, tte]
      refine callq [[]] [] (c_fint (k : Int)) ?_
      simp -implicitDefEqProofs only [↓steps, push_cast, simprocAttr, tte]
      refine ⟨drawx_intro (by kernel_rfl), ?_⟩
      exact cnt_again hI k rfl g' trivial (by simp [hwk, ends]) (by simp [hwk, ends]) (by simp [hwk, ends]) (by simp [hwk, ends])
    · obtain rfl : k = t.length := by have := of_decide_eq_false g; omega
      refine callq [[]] [] (c4) ?_
      simp -implicitDefEqProofs only [↓steps, push_cast, simprocAttr, tte]
      exact retx_of [0] rfl trivial trivial rfl rfl trivial (by simp [ends])
  · have hp' : xs = [] := by
      have := of_decide_eq_false hp
      exact List.eq_nil_of_length_eq_zero (by omega)
    have ht0 : t.length = 0 := by
      rw [hp'] at ht2
      simp at ht2
      rw [ht2]; rfl
    have hte : t = [] := List.eq_nil_of_length_eq_zero ht0
    rw [hte]
    simp -implicitDefEqProofs only [↓steps, push_cast, simprocAttr, tte]
    refine loop_count mixed ttok 55 [53, 54, 7, 9] [7] (by simp only [pickT, ends, push_cast, simprocAttr]; rfl) (by simp only [pickO, consO_some, ends, push_cast, simprocAttr]; rfl) 0 (fun _ => True) (fun _ => []) (fun _ => []) trivial ?_ ?_
    · exact Weak.keepL (by simp [cst, ends]) (by simp [cst, ends]) (by simp [cst, ends])
    intro I hI k hk hi
    simp -implicitDefEqProofs only [cst, ↓steps, push_cast, simprocAttr, tte]
    refine bcase_intro (fun g => ?_) fun g => ?_
    · have := of_decide_eq_true g; omega
    · obtain rfl : k = 0 := by omega
      refine callq [[]] [] (c4) ?_
      simp -implicitDefEqProofs only [↓steps, push_cast, simprocAttr, tte]
      exact retx_of [0] rfl trivial trivial rfl rfl trivial (by simp [ends])
end Go.Proofs.YtampbaaiddbacaaGreatDoor
