/- Conditions over finite domains (part Wr) -/
import Derived.Test.YtiagabnddihchaaGreatDoorWz
set_option linter.all false

namespace Go.Proofs.YtiagabnddihchaaGreatDoor
open Go.Am
attribute [local simp, local push_cast] num boo str ints aV aTab aRow rRow vE tapeO
set_option linter.unusedVariables false
set_option maxRecDepth 100000
set_option maxHeartbeats 4000000

/-! The law of relevance. -/
def RLs (d : List Row) (e : Ex) (xs : List Int) (p i : Nat) : SL :=
  ⟨[(33, .d (.lit (.int .i64 i))), (32, .d (.lit (.int .i64 d.length))), (3, .ptr 400 0), (4, aTab d), (5, .ptr 5 0), (6, ints (relTo d e d.length)), (8, ints (colsM e))], [(5, .var (vE e)), (400, tapeO xs p)]⟩
def RKs (d : List Row) (e : Ex) (xs : List Int) (i p k : Nat) : SL :=
  ⟨[(10, .d (.lit (.int .i64 k))), (9, .d (.lit (.int .i64 i))), (33, .d (.lit (.int .i64 i))), (32, .d (.lit (.int .i64 d.length))), (3, .ptr 400 0), (4, aTab d), (5, .ptr 5 0), (6, ints (relTo d e d.length)), (8, ints (colsM e))], [(5, .var (vE e)), (400, tapeO xs p)]⟩
theorem rel_mem {d : List Row} {e : Ex} {i : Nat} (hi : i < d.length) : (relTo d e d.length).contains (i : Int) = depTo d e i (prodL d) := eq_of_iff (by
  rw [List.contains_iff_mem, relTo, List.mem_map]
  constructor
  · rintro ⟨j, hj, hij⟩
    have : j = i := by omega
    subst this
    exact (List.mem_filter.1 hj).2
  · intro h
    exact ⟨i, List.mem_filter.2 ⟨List.mem_range.2 hi, h⟩, rfl⟩)
theorem dep_none {d : List Row} (hf : Full d) {e : Ex} {i : Nat} (hi : i < d.length) (h : depTo d e i (prodL d) = false) {k v : Nat} (hk : k < prodL d) (hv : v < (d.getD i default).length) :
    evalM ((ptM d k).set i ((d.getD i default).getD v default)) e = evalM (ptM d k) e := by
  have key : ∀ n, n < prodL d → valAt d e n = valAt d e (n - dig d i n * strd d i) := by
    intro n hn
    have := List.any_eq_false.1 h n (List.mem_range.2 hn)
    unfold depAt at this
    simp only [Bool.not_eq_true, Bool.not_eq_false'] at this
    exact (same_iff _ _).1 this
  have hp := pt_put hf (n := k) hi hv
  have hlt := put_lt hf hi hv hk
  have h1 := key _ hlt
  have h2 := key _ hk
  rw [← hp]
  show valAt d e _ = valAt d e k
  rw [h1, h2]
  congr 1
  rw [dig_put hf hi hi hv, if_pos rfl, Nat.add_sub_cancel]
theorem c_lawV (t : List Int) (ht : ∀ x ∈ t, i64 x) : ACall Tryz.prog 5 [ints t] [] (boo true) [] := by
  have hN := c_new t
  have hx := tape_of ht
  generalize t.take 2000 = xs at hx hN
  refine enterq mixed ttok Tryz.func5 Tryz.ntmps5 Tryz.results5 ?_
  simp -implicitDefEqProofs only [argT, ↓steps, push_cast, simprocAttr, tte]
  refine callq [[1]] [(1000, 400)] (hN) ?_
  simp -implicitDefEqProofs only [↓steps, push_cast, simprocAttr, tte]
  refine callq [[]] [(1000, 400)] (c_domains (p := 0) hx) ?_
  have hD := domF_ok xs 0
  generalize domF xs 0 = dp at hD ⊢
  obtain ⟨d, p⟩ := dp
  dsimp only at hD ⊢
  have hsm := hD.small
  have htl : (typesM d).length ≤ 1000 := by have := hD.tlen; have := hD.len; omega
  simp -implicitDefEqProofs only [aTab, ↓steps, push_cast, simprocAttr, tte]
  refine callq [[1]] [] (c_types23 d hsm) ?_
  simp -implicitDefEqProofs only [↓steps, push_cast, simprocAttr, tte]
  refine callq [[], [1], [], []] [(1000, 400)] (c_fexprN hx htl 4 4 rfl (by decide) 2 p kn2) ?_
  have hE := made_expr xs (typesM d) 3 2 kn2 p
  generalize exprF xs (typesM d) 4 2 p = ap at hE ⊢
  obtain ⟨e, p⟩ := ap
  dsimp only at hE ⊢
  have vE' := hE.valid (by decide) hD
  have hR := c_prelevant d hsm e hE.ok12
  have hr : relM d e = (relTo d e d.length, 0) := by rw [relM, if_neg (by omega)]
  rw [hr] at hR
  have hCo := c_columns e (by have := hE.size; omega)
  have hP := c_points23 d hsm
  rw [hD.pts23] at hP
  have hpr := hD.pts
  have hf := hD.full
  have hev := fun x => c_reval x e hE.ok12
  have hrl : (relTo d e d.length).length ≤ 1000000 := by
    rw [relTo, List.length_map]
    have := List.length_filter_le (fun j => depTo d e j (prodL d)) (List.range d.length)
    rw [List.length_range] at this
    have := hD.len
    omega
  have hcl : (colsM e).length ≤ 1000000 := by have := colsM_len e; have := hE.size; omega
  rw [aE_eq] at hR hCo
  simp -implicitDefEqProofs only [↓steps, push_cast, simprocAttr, tte]
  refine callq [[1], [0, 0, 0, 0, 0, 6]] [] (hR) ?_
  simp -implicitDefEqProofs only [bne_self_eq_false, ↓steps, push_cast, simprocAttr, tte]
  refine callq [[0, 0, 0, 0, 0, 6]] [] (hCo) ?_
  simp -implicitDefEqProofs only [↓steps, push_cast, simprocAttr, tte]
  refine loop_gen mixed ttok (fun x : Nat × Nat => RLs d e xs x.2 x.1) (fun x => d.length - x.1) (fun x => x.1 ≤ d.length) (0, p) (Nat.zero_le _) ?_ ?_
  · exact Weak.keepL (by simp [RLs, ends]) (by simp [RLs, vE, tapeO, ends]) (by simp [RLs, ends])
  rintro I hI ⟨i, p⟩ hi
  dsimp only at hi
  have hl4 := hD.len
  simp -implicitDefEqProofs only [RLs, vE, tapeO, ↓steps, push_cast, simprocAttr, tte]
  refine bcase_intro (fun h1 => ?_) fun h1 => ?_
  · have h1' : i < d.length := by simpa using h1
    have hw := wrap_succ h1' (by omega)
    refine callq [[1], []] [] (c_in (relTo d e d.length) (i : Int) hrl) ?_
    rw [rel_mem h1']
    simp -implicitDefEqProofs only [↓steps, push_cast, simprocAttr, tte]
    refine bcase_intro (fun h2 => ?_) fun h2 => ?_
    · have hc : (colsM e).contains (i : Int) = true := List.contains_iff_mem.2 (rel_cols hf h1' h2)
      have hIn := c_in (colsM e) (i : Int) hcl
      rw [hc] at hIn
      refine callq [[1], []] [] (hIn) ?_
      simp -implicitDefEqProofs only [Bool.not_true, ↓steps, push_cast, simprocAttr, tte]
      exact gen_again hI (i + 1, p) h1' (by show d.length - (i + 1) < d.length - i; omega) (Weak.keepL (by simp [RLs, hw, ends]) (by simp [RLs, vE, tapeO, ends]) (by simp [RLs, ends]))
    · refine loop_gen mixed ttok (fun x : Nat × Nat => RKs d e xs i x.2 x.1) (fun x => prodL d - x.1) (fun x => x.1 ≤ prodL d) (0, p) (Nat.zero_le _) ?_ ?_
      · exact Weak.keepL (by simp [RKs, ends]) (by simp [RKs, vE, tapeO, ends]) (by simp [RKs, ends])
      rintro J hJ ⟨k, p⟩ hk
      dsimp only at hk
      simp -implicitDefEqProofs only [RKs, vE, tapeO, ↓steps, push_cast, simprocAttr, tte]
      refine callq [[1]] [] (hP) ?_
      simp -implicitDefEqProofs only [↓steps, push_cast, simprocAttr, tte]
      refine bcase_intro (fun h3 => ?_) fun h3 => ?_
      · have h3' : k < prodL d := by simpa using h3
        have hwk := wrap_succ h3' (by omega)
        have hlen := hf.at h1'
        have hll := hD.good.ll _ (getD_mem h1')
        refine callq [[1], []] [(1000, 600)] (c_point d hD.good k (by omega)) ?_
        have hxl := ptM_length d k
        simp -implicitDefEqProofs only [xOb, ↓steps, push_cast, simprocAttr, tte]
        refine callx_seenV (xs := [aE e, aRow (ptM d k)]) (rs := valL (evalM (ptM d k) e)) [600] (hev (ptM d k)) (fun h2 hr => seen_ev e (hr 600 (by simp)) hxl.symm) ?_
        simp -implicitDefEqProofs only [lits, valL, ↓steps, push_cast, simprocAttr, tte]
        have hdr := drawn_range xs p (n := ((d.getD i default).length : Nat)) (by omega)
        refine ⟨⟨by omega, by omega⟩, ⟨by omega, by omega⟩, ?_⟩
        refine callq [[], []] [(1000, 400)] (c_N (n := ((d.getD i default).length : Nat)) (p := p) hx (by omega) (by omega)) ?_
        obtain ⟨v, hv⟩ : ∃ v : Nat, drawn xs p ((d.getD i default).length : Nat) = v := ⟨(drawn xs p ((d.getD i default).length : Nat)).toNat, by omega⟩
        rw [hv] at hdr ⊢
        have hvs := rowV_set (l := ptM d k) (n := i) (v := (d.getD i default).getD v default) (by omega)
        have hx2 : ((ptM d k).set i ((d.getD i default).getD v default)).length = d.length := by rw [List.length_set, hxl]
        simp -implicitDefEqProofs only [Int.toNat_natCast, hvs, ↓steps, push_cast, simprocAttr, tte]
        have hE2 := hev ((ptM d k).set i ((d.getD i default).getD v default))
        rw [dep_none hf h1' h2 h3' (by omega)] at hE2
        refine ⟨⟨by omega, by omega⟩, ⟨⟨by omega, by omega⟩, hxl.symm⟩, ⟨hxl.symm, by omega, by omega⟩, drawx_intro (by kernel_rfl), ?_⟩
        refine callx_seenV (xs := [aE e, aRow ((ptM d k).set i ((d.getD i default).getD v default))]) (rs := valL (evalM (ptM d k) e)) [600] hE2 (fun h2 hr => seen_ev e (hr 600 (by simp)) hx2.symm) ?_
        simp -implicitDefEqProofs only [lits, valL, beq_self_eq_true, bne_self_eq_false, Bool.and_self, Bool.not_true, ↓steps, push_cast, simprocAttr, tte]
        refine ⟨drawx_intro (by kernel_rfl), ?_⟩
        exact gen_again hJ (k + 1, p + 1) h3' (by show prodL d - (k + 1) < prodL d - k; omega) (Weak.keepL (by simp [RKs, hwk, ends]) (by simp [RKs, vE, tapeO, ends]) (by simp [RKs, ends]))
      · have hkk : k = prodL d := by have := of_decide_eq_false h3; omega
        exact gen_again hI (i + 1, p) h1' (by show d.length - (i + 1) < d.length - i; omega) (Weak.keepL (by simp [RLs, hw, ends]) (by simp [RLs, vE, tapeO, ends]) (by simp [RLs, ends]))
  · refine callq [] [] (c_awake) ?_
    simp -implicitDefEqProofs only [↓steps, push_cast, simprocAttr, tte]
    exact ret_d trivial rfl (by simp [ends])
end Go.Proofs.YtiagabnddihchaaGreatDoor
