/- Histories and their anomalies (part Wb) -/
import Derived.Test.YthknpcpddlaapaaWa
import Derived.Test.YthknpcpddlaapaaW0
set_option linter.all false
namespace Go.Proofs.Ythknpcpddlaapaa
open Go.Am
attribute [local simp, local push_cast] num boo str ints rEv aEv rTk aTk rEg aEg aH vEv vecI aDone boos_ren d5_take d5_drop d5_len vTk rTk_snoc
set_option linter.unusedVariables false
set_option maxRecDepth 100000
set_option maxHeartbeats 4000000
/-! Dependencies: the small functions. -/
def vecE (l : List Eg) : Ob := .vec 54 4 (rowsOf rEg l) 0
theorem rEg_snoc (l : List Eg) (a b c d : Int) : rowsOf rEg l ++ [[D.lit (.int .i64 a), D.lit (.int .i64 b), D.lit (.int .i64 c), D.lit (.int .i64 d)]] = rowsOf rEg (l ++ [⟨a, b, c, d⟩]) := by simp [rowsOf, rEg]
attribute [local simp, local push_cast] vecE rEg_snoc
theorem c_add (out : List Eg) (f t k key : Int) (hl : out.length ≤ 1000000) :
    ACall Try.prog 57 [num f, num t, num k, num key, .ptr 1000 0] [(1000, .var [.vec 1001 out.length]), (1001, vecE out)] (.tup []) [(1000, .var [.vec 1001 (addE out f t k key).length]), (1001, vecE (addE out f t k key))] := by
  refine enterq mixed ttok Try.func57 Try.ntmps57 Try.results57 ?_
  have hyes : ((decide (f ≥ 0) && decide (t ≥ 0)) && (f != t)) = true → addE out f t k key = out ++ [⟨f, t, k, key⟩] := fun h => by unfold addE; rw [if_pos h]
  have hno : ((decide (f ≥ 0) && decide (t ≥ 0)) && (f != t)) = false → addE out f t k key = out := fun h => by unfold addE; rw [if_neg (by rw [h]; decide)]
  simp -implicitDefEqProofs only [argT, ↓steps, push_cast, simprocAttr, tte]
  refine bcase_intro (fun a => bcase_intro (fun b => bcase_intro (fun c => ?_) fun c => ?_) fun b => ?_) fun a => ?_
  · rw [hyes (by rw [a, b, c]; rfl)]
    refine ⟨by omega, ?_⟩
    exact ret_same trivial rfl rfl (by simp [ends]) (by simp [ends])
  · rw [hno (by rw [c]; simp)]
    exact ret_same trivial rfl rfl (by simp [ends]) (by simp [ends])
  · rw [hno (by rw [b]; simp)]
    exact ret_same trivial rfl rfl (by simp [ends]) (by simp [ends])
  · rw [hno (by rw [a]; simp)]
    exact ret_same trivial rfl rfl (by simp [ends]) (by simp [ends])
theorem c_nan (a : Int) : ACall Try.prog 83 [num a] [] (boo false) [] := by
  refine enterq mixed ttok Try.func83 Try.ntmps83 Try.results83 ?_
  simp -implicitDefEqProofs only [argT, ↓steps, push_cast, simprocAttr, tte]
  exact ret_d trivial (by simp) (by simp [ends])
def cmpI (a b : Int) : Int := if a < b then -1 else if b < a then 1 else 0
theorem c_cmpI (a b : Int) : ACall Try.prog 63 [num a, num b] [] (num (cmpI a b)) [] := by
  refine enterq mixed ttok Try.func63 Try.ntmps63 Try.results63 ?_
  generalize hr : num (cmpI a b) = R
  simp -implicitDefEqProofs only [argT, ↓steps, push_cast, simprocAttr, tte]
  refine callq [[]] [] (c_nan a) ?_
  simp -implicitDefEqProofs only [↓steps, push_cast, simprocAttr, tte]
  refine callq [[]] [] (c_nan b) ?_
  simp -implicitDefEqProofs only [↓steps, push_cast, simprocAttr, tte]
  unfold cmpI at hr
  refine bcase_intro (fun h => ?_) fun h => ?_
  · exact ret_d trivial (by rw [← hr, if_pos (by simpa using h)]; rfl) (by simp [ends])
  rw [if_neg (by simpa using h)] at hr
  refine bcase_intro (fun g => ?_) fun g => ?_
  · exact ret_d trivial (by rw [← hr, if_pos (by simpa using g)]; rfl) (by simp [ends])
  · exact ret_d trivial (by rw [← hr, if_neg (by simpa using g)]; rfl) (by simp [ends])
def orI : List Int → Int
  | [] => 0
  | x :: l => if x = 0 then orI l else x
theorem orI_drop {l : List Int} {n : Nat} (h : n < l.length) : orI (l.drop n) = if l.getD n default = 0 then orI (l.drop (n + 1)) else l.getD n default := by
  rw [drop_cons l n h, orI]
theorem c_orI (l : List Int) (hl : l.length ≤ 1000) : ACall Try.prog 62 [ints l] [] (num (orI l)) [] := by
  refine enterq mixed ttok Try.func62 Try.ntmps62 Try.results62 ?_
  generalize hr : num (orI l) = R
  simp -implicitDefEqProofs only [argT, ↓steps, push_cast, simprocAttr, tte]
  refine loop_gen mixed ttok (fun n : Nat => (⟨[(8, .d (.lit (.int .i64 n))), (7, .d (.lit (.int .i64 l.length))), (6, ints l), (3, num 0)], []⟩ : SL)) (fun n => l.length - n) (fun n => n ≤ l.length ∧ orI (l.drop n) = orI l) 0 ⟨Nat.zero_le _, rfl⟩ ?_ ?_
  · exact Weak.keepL (by simp [ends]) (by simp [ends]) (by simp [ends])
  intro I hI n ⟨hn, hi⟩
  simp -implicitDefEqProofs only [rI, ↓steps, push_cast, simprocAttr, tte]
  refine bcase_intro (fun h => ?_) fun h => ?_
  · simp only [decide_eq_true_eq] at h
    have h' : n < l.length := by omega
    have hw := wrap_succ h' (by omega)
    rw [orI_drop h'] at hi
    refine ⟨⟨by omega, h⟩, ?_⟩
    refine bcase_intro (fun g => ?_) fun g => ?_
    · rw [if_neg (by simpa using g)] at hi
      exact ret_d trivial (by rw [← hr, ← hi]; rfl) (by simp [ends])
    · rw [if_pos (by simpa using g)] at hi
      exact gen_again hI (n + 1) ⟨h', hi⟩ (by show l.length - (n + 1) < l.length - n; omega) (Weak.keepL (by simp [hw, ends]) (by simp [ends]) (by simp [ends]))
  · simp only [decide_eq_false_iff_not] at h
    obtain rfl : n = l.length := by omega
    rw [List.drop_length] at hi
    exact ret_d trivial (by rw [← hr, ← hi]; rfl) (by simp [ends])
def cmpE (a b : Eg) : Int := orI [cmpI a.frm b.frm, cmpI a.to b.to, cmpI a.kind b.kind, cmpI a.key b.key]
theorem c_cmpE (a b : Eg) : ACall Try.prog 61 [aEg a, aEg b] [] (num (cmpE a b)) [] := by
  refine enterq mixed ttok Try.func61 Try.ntmps61 Try.results61 ?_
  generalize hr : num (cmpE a b) = R
  simp -implicitDefEqProofs only [argT, ↓steps, push_cast, simprocAttr, tte]
  refine callq [[], []] [] (c_cmpI a.frm b.frm) ?_
  simp -implicitDefEqProofs only [↓steps, push_cast, simprocAttr, tte]
  refine callq [[], []] [] (c_cmpI a.to b.to) ?_
  simp -implicitDefEqProofs only [↓steps, push_cast, simprocAttr, tte]
  refine callq [[], []] [] (c_cmpI a.kind b.kind) ?_
  simp -implicitDefEqProofs only [↓steps, push_cast, simprocAttr, tte]
  refine callq [[], []] [] (c_cmpI a.key b.key) ?_
  simp -implicitDefEqProofs only [↓steps, push_cast, simprocAttr, tte]
  have hc := c_orI [cmpI a.frm b.frm, cmpI a.to b.to, cmpI a.kind b.kind, cmpI a.key b.key] (by simp)
  refine callq [[1]] [] (hc) ?_
  simp -implicitDefEqProofs only [↓steps, push_cast, simprocAttr, tte]
  refine ⟨drawx_intro (by kernel_rfl), ?_⟩
  exact ret_d trivial (by rw [← hr]; rfl) (by simp [ends])
theorem cmpE_lt (a b : Eg) : cmpE a b < 0 ↔ leE b a = false := by
  rw [← Bool.not_eq_true, leE_iff]
  unfold cmpE orI orI orI orI orI cmpI
  repeat' split
  all_goals omega
end Go.Proofs.Ythknpcpddlaapaa
namespace Go.Proofs.Ythknpcpddlaapaa
open Go.Am
attribute [local simp, local push_cast] num boo str ints rEv aEv rTk aTk rEg aEg aH vEv vecI aDone boos_ren d5_take d5_drop d5_len vTk rTk_snoc vecE rEg_snoc
set_option linter.unusedVariables false
set_option maxRecDepth 100000
set_option maxHeartbeats 4000000
/-! slices.Compact of dependencies. -/
def sameEg (x y : Eg) : Bool := (x.frm == y.frm) && ((x.to == y.to) && ((x.kind == y.kind) && (x.key == y.key)))
def nullE : Eg := ⟨0, 0, 0, 0⟩
theorem sameEg_iff (x y : Eg) : sameEg x y = true ↔ x = y := by
  obtain ⟨a, b, c, d⟩ := x
  obtain ⟨e, f, g, h⟩ := y
  unfold sameEg
  simp only [Bool.and_eq_true, beq_iff_eq, Eg.mk.injEq]
theorem set_rE (l : List Eg) (i : Nat) (x : Eg) (hi : i < l.length) :
    (rowsOf rEg l).set i (D.lit (.int .i64 x.frm) :: D.lit (.int .i64 x.to) :: D.lit (.int .i64 x.kind) :: D.lit (.int .i64 x.key) :: List.drop 4 ((rowsOf rEg l).getD i [])) = rowsOf rEg (l.set i x) := by
  rw [rowsOf_getD _ _ _ hi]
  exact rowsOf_set rEg l i x
theorem put_rE (l : List Eg) (i n : Nat) : putRows (rowsOf rEg l) i (List.replicate n [D.lit (.int .i64 0), D.lit (.int .i64 0), D.lit (.int .i64 0), D.lit (.int .i64 0)]) = rowsOf rEg (putRows l i (List.replicate n nullE)) := by
  have : List.replicate n [D.lit (Value.int .i64 0), D.lit (Value.int .i64 0), D.lit (Value.int .i64 0), D.lit (Value.int .i64 0)] = rowsOf rEg (List.replicate n nullE) := by
    simp [rowsOf, rEg, nullE]
  rw [this]
  simp [putRows, rowsOf]
/-- Is the value at a place another one than that ahead of it? -/
def keepE (vs : List Eg) (j : Nat) : Bool := j == 0 || !sameEg (vs.getD j default) (vs.getD (j - 1) default)
def ddE (vs : List Eg) (n : Nat) : List Eg := ((List.range n).filter (keepE vs)).map fun j => vs.getD j default
def cpE (vs : List Eg) : List Eg := ddE vs vs.length ++ List.replicate (vs.length - (ddE vs vs.length).length) nullE
theorem ddE_succ (vs : List Eg) (n : Nat) : ddE vs (n + 1) = if keepE vs n = true then ddE vs n ++ [vs.getD n default] else ddE vs n := by
  unfold ddE
  rw [List.range_succ, List.filter_append, List.map_append]
  cases h : keepE vs n <;> simp [h]
theorem ddE_len (vs : List Eg) (n : Nat) : (ddE vs n).length ≤ n := by
  rw [ddE, List.length_map]
  exact Nat.le_trans (List.length_filter_le _ _) (by simp)
theorem ddE_all (vs : List Eg) : ∀ (n : Nat), n ≤ vs.length → (∀ j, j < n → keepE vs j = true) → ddE vs n = vs.take n
  | 0, _, _ => rfl
  | n + 1, hn, h => by rw [ddE_succ, if_pos (h n (by omega)), ddE_all vs n (by omega) fun j hj => h j (by omega), take_snoc _ _ (by omega)]
theorem sameEg_eq (x y : Eg) : (x.frm == y.frm && (x.to == y.to && (x.kind == y.kind && x.key == y.key))) = sameEg x y := rfl
theorem keepE1 (vs : List Eg) : ∀ j, j < 1 → keepE vs j = true := by
  intro j hj
  obtain rfl : j = 0 := by omega
  rfl
theorem c_compactE (vs : List Eg) (hl : vs.length ≤ 1000000) :
    ACall Try.prog 64 [.sub 1000 vs.length 0 vs.length] [(1000, vecE vs)] (.sub 1000 vs.length 0 (ddE vs vs.length).length) [(1000, vecE (cpE vs))] := by
  refine enterq mixed ttok Try.func64 Try.ntmps64 Try.results64 ?_
  generalize hr : A.sub 1000 vs.length 0 (ddE vs vs.length).length = R
  simp -implicitDefEqProofs only [argT, ↓steps, push_cast, simprocAttr, tte]
  have hall : (∀ j, j < vs.length → keepE vs j = true) → A.sub 1000 vs.length 0 vs.length = R ∧ cpE vs = vs := fun h => by
    have := ddE_all vs vs.length (Nat.le_refl _) h
    rw [List.take_length] at this
    rw [this] at hr
    exact ⟨hr, by rw [cpE, this]; simp⟩
  refine bcase_intro (fun h0 => ?_) fun h0 => ?_
  · simp only [decide_eq_true_eq] at h0
    obtain ⟨e1, e2⟩ := hall fun j hj => by
      have : j = 0 := by omega
      subst this; rfl
    rw [e2]
    exact ret_sub trivial e1 (by simp [ends]) (by simp [ends]) (by simp [ends])
  simp only [decide_eq_false_iff_not] at h0
  refine loop_gen mixed ttok (fun k : Nat => (⟨[(3, .d (.lit (.int .i64 k))), (0, .sub 1000 vs.length 0 vs.length)], [(1000, .vec 54 4 (rowsOf rEg vs) 0)]⟩ : SL)) (fun k => vs.length - k)
    (fun k => 1 ≤ k ∧ k ≤ vs.length ∧ ∀ j, j < k → keepE vs j = true) 1 ⟨by omega, by omega, keepE1 vs⟩ ?_ ?_
  · exact Weak.keepL (by simp [ends]) (by simp [ends]) (by simp [ends])
  intro I hI k ⟨hk1, hk, hkj⟩
  have hwk : IntKind.i64.wrap ((k : Int) - 1) = ((k - 1 : Nat) : Int) := by rw [wrap_eq (by omega) (by omega)]; omega
  simp -implicitDefEqProofs only [hwk, ↓steps, push_cast, simprocAttr, tte]
  refine bcase_intro (fun h => ?_) fun h => ?_
  · simp only [decide_eq_true_eq] at h
    have h' : k < vs.length := by omega
    have hwk1 := wrap_succ h' (by omega)
    refine ⟨⟨by omega, h⟩, h', ⟨by omega, by omega⟩, by omega, drawx_intro (by kernel_rfl), ?_⟩
    rw [sameEg_eq]
    refine bcase_intro (fun g => ?_) fun g => ?_
    · have hkk : keepE vs k = false := by
        have h0 : (k == 0) = false := by simp; omega
        rw [keepE, g, h0]; rfl
      refine ⟨⟨⟨by omega, by omega, by omega⟩, .inr h⟩, ?_⟩
      refine loop_gen mixed ttok (fun x : Nat × Nat × List Eg => (⟨[(3, .d (.lit (.int .i64 x.1))), (5, .d (.lit (.int .i64 x.2.1))), (0, .sub 1000 vs.length 0 vs.length), (4, .sub 1000 vs.length k (vs.length - k))], [(1000, .vec 54 4 (rowsOf rEg x.2.2) 0)]⟩ : SL)) (fun x => vs.length - k - x.2.1)
        (fun x => x.2.2.length = vs.length ∧ x.1 < k + x.2.1 ∧ 1 ≤ x.2.1 ∧ x.2.1 ≤ vs.length - k ∧ x.2.2.take x.1 = ddE vs (k + x.2.1) ∧ x.2.2.drop (k + x.2.1 - 1) = vs.drop (k + x.2.1 - 1)) (k, 1, vs) ⟨rfl, by simp, by simp, by show 1 ≤ vs.length - k; omega, ?_, rfl⟩ ?_ ?_
      · show vs.take k = ddE vs (k + 1)
        rw [ddE_succ, if_neg (by rw [hkk]; decide), ddE_all vs k hk hkj]
      · exact Weak.keepL (by simp [ends]) (by simp [ends]) (by simp [ends])
      intro J hJ ⟨q, m, l⟩ ⟨hl1, hqm, hm1, hm, htk, hdr⟩
      simp only at hl1 hqm hm1 hm htk hdr
      have hwm : IntKind.i64.wrap ((m : Int) - 1) = ((m - 1 : Nat) : Int) := by rw [wrap_eq (by omega) (by omega)]; omega
      simp -implicitDefEqProofs only [hwm, ↓steps, push_cast, simprocAttr, tte]
      refine ⟨hl1.symm, ?_⟩
      refine bcase_intro (fun h2 => ?_) fun h2 => ?_
      · simp only [decide_eq_true_eq] at h2
        have h2' : k + m < vs.length := by omega
        have hwm1 := wrap_succ (N := vs.length) (n := m) (by omega) (by omega)
        have e1 : k + m - 1 = k + (m - 1) := by omega
        have hg1 : l.getD (k + (m - 1)) default = vs.getD (k + (m - 1)) default := by
          have h3 := drop_cons l (k + m - 1) (by omega)
          have h4 := drop_cons vs (k + m - 1) (by omega)
          rw [hdr, h4] at h3
          injection h3 with h3 _
          rw [← e1]; exact h3.symm
        have hdr2 : l.drop (k + m) = vs.drop (k + m) := by
          have := congrArg (List.drop 1) hdr
          rw [List.drop_drop, List.drop_drop, show k + m - 1 + 1 = k + m by omega] at this
          exact this
        have hg2 : l.getD (k + m) default = vs.getD (k + m) default := by
          have h3 := drop_cons l (k + m) (by omega)
          have h4 := drop_cons vs (k + m) h2'
          rw [hdr2, h4] at h3
          injection h3 with h3 _
          exact h3.symm
        have hsuc := ddE_succ vs (k + m)
        have hkeep : keepE vs (k + m) = !sameEg (l.getD (k + m) default) (l.getD (k + (m - 1)) default) := by
          have h0 : (k + m == 0) = false := by simp; omega
          rw [keepE, h0, hg1, hg2, e1]; rfl
        rw [← hg2] at hsuc
        refine ⟨⟨⟨by omega, h2⟩, hl1.symm⟩, by omega, hl1.symm, ⟨⟨by omega, by omega⟩, hl1.symm⟩, by omega, hl1.symm, drawx_intro (by kernel_rfl), ?_⟩
        rw [sameEg_eq, ← hkeep]
        refine bcase_intro (fun g2 => ?_) fun g2 => ?_
        · rw [if_pos g2, ← htk] at hsuc
          have hwq := wrap_succ (N := vs.length) (n := q) (by omega) (by omega)
          have hlt : (l.take q ++ [l.getD (k + m) default]) = (l.set q (l.getD (k + m) default)).take (q + 1) := by
            rw [List.take_succ_eq_append_getElem (by simp; omega), List.take_set, List.set_eq_of_length_le (by simp; omega)]
            simp
          rw [hlt] at hsuc
          have hsr := set_rE l q (l.getD (k + m) default) (by omega)
          simp only [List.getD_eq_getElem?_getD] at hsr
          refine ⟨⟨⟨by omega, h2⟩, hl1.symm⟩, by omega, hl1.symm, ⟨⟨by omega, by omega⟩, hl1.symm⟩, ⟨hl1.symm, by omega, by omega⟩, ?_⟩
          exact gen_again hJ (q + 1, m + 1, l.set q (l.getD (k + m) default)) ⟨by simpa using hl1, by show q + 1 < k + (m + 1); omega, by show 1 ≤ m + 1; omega, by show m + 1 ≤ vs.length - k; omega, hsuc.symm, (List.drop_set_of_lt (show q < k + (m + 1) - 1 by omega)).trans (by rw [show k + (m + 1) - 1 = k + m by omega]; exact hdr2)⟩
            (by show vs.length - k - (m + 1) < vs.length - k - m; omega) (Weak.keepL (by simp [hwm1, hwq, ends]) (by simp [hwm1, hsr, ends]) (by simp [ends]))
        · rw [if_neg (by rw [g2]; decide), ← htk] at hsuc
          exact gen_again hJ (q, m + 1, l) ⟨hl1, by show q < k + (m + 1); omega, by show 1 ≤ m + 1; omega, by show m + 1 ≤ vs.length - k; omega, hsuc.symm, by show l.drop (k + (m + 1) - 1) = vs.drop (k + (m + 1) - 1); rw [show k + (m + 1) - 1 = k + m by omega]; exact hdr2⟩
            (by show vs.length - k - (m + 1) < vs.length - k - m; omega) (Weak.keepL (by simp [hwm1, ends]) (by simp [ends]) (by simp [ends]))
      · simp only [decide_eq_false_iff_not] at h2
        have hkm : k + m = vs.length := by omega
        rw [hkm] at htk
        have hgi : (ddE vs vs.length).length = q := by rw [← htk]; simp; omega
        have hfin : putRows l q (List.replicate (vs.length - q) nullE) = cpE vs := by
          rw [cpE, hgi, ← htk]
          simp only [putRows, List.length_replicate]
          rw [List.drop_eq_nil_of_le (by omega), List.append_nil]
        rw [put_rE, hfin, rowsOf_length]
        have hdl : (cpE vs).length = vs.length := by simp only [cpE, List.length_append, List.length_replicate]; have := ddE_len vs vs.length; omega
        refine ⟨⟨hl1.symm, ⟨by omega, by omega, by omega⟩, by omega⟩, ⟨hl1.symm, by omega⟩, ⟨hdl.symm, ⟨by omega, by omega⟩, .inl trivial⟩, ?_⟩
        rw [hgi] at hr
        exact ret_sub trivial hr (by simp [ends]) (by simp [ends]) (by simp [ends])
    · have hkk : keepE vs k = true := by rw [keepE, g]; simp
      exact gen_again hI (k + 1) ⟨by omega, by omega, fun j hj => if h3 : j = k then by rw [h3]; exact hkk else hkj j (by omega)⟩ (by show vs.length - (k + 1) < vs.length - k; omega) (Weak.keepL (by simp [hwk1, ends]) (by simp [ends]) (by simp [ends]))
  · simp only [decide_eq_false_iff_not] at h
    obtain rfl : k = vs.length := by omega
    obtain ⟨e1, e2⟩ := hall hkj
    rw [e2]
    exact ret_sub trivial e1 (by simp [ends]) (by simp [ends]) (by simp [ends])
/-- What is left is the list without repetitions that follow one another. -/
theorem ddE_cons (x y : Eg) (l : List Eg) : ∀ n, ddE (x :: y :: l) (n + 2) = x :: (if x = y then (ddE (y :: l) (n + 1)).drop 1 else ddE (y :: l) (n + 1))
  | 0 => by
    rw [ddE_succ, ddE_succ]
    have h0 : ddE (x :: y :: l) 0 = [] := rfl
    have h1 : ddE (y :: l) 1 = [y] := by rw [ddE_succ]; rfl
    have k0 : keepE (x :: y :: l) 0 = true := rfl
    have k1 : keepE (x :: y :: l) 1 = !sameEg y x := rfl
    rw [h0, h1, k0, k1, if_pos rfl]
    by_cases e : x = y
    · rw [if_pos e, (sameEg_iff y x).2 e.symm]; rfl
    · have : sameEg y x = false := by rw [← Bool.not_eq_true, sameEg_iff]; exact fun q => e q.symm
      rw [if_neg e, this]; rfl
  | n + 1 => by
    have ih := ddE_cons x y l n
    rw [ddE_succ, ih, ddE_succ (y :: l) (n + 1)]
    have hk : keepE (x :: y :: l) (n + 2) = keepE (y :: l) (n + 1) := rfl
    have hg : (x :: y :: l).getD (n + 2) default = (y :: l).getD (n + 1) default := rfl
    have hne : ddE (y :: l) (n + 1) ≠ [] := by
      have : ∀ m, ddE (y :: l) (m + 1) ≠ [] := by
        intro m
        induction m with
        | zero => rw [ddE_succ]; simp [keepE]
        | succ m ih =>
          rw [ddE_succ]
          split
          · simp
          · exact ih
      exact this n
    rw [hk, hg]
    split
    · split
      · rw [List.drop_append_of_le_length (List.length_pos_iff.2 hne)]; rfl
      · rfl
    · rfl
theorem dd_comp : ∀ (l : List Eg), ddE l l.length = compE l
  | [] => rfl
  | [x] => by show ddE [x] 1 = _; rw [ddE_succ]; rfl
  | x :: y :: l => by
    have ih := dd_comp (y :: l)
    have h := ddE_cons x y l l.length
    show ddE (x :: y :: l) (l.length + 2) = _
    rw [h, compE]
    have ih' : ddE (y :: l) (l.length + 1) = compE (y :: l) := ih
    rw [ih']
    by_cases e : x = y
    · rw [if_pos e, if_pos e]
      subst e
      have : ∃ t, compE (x :: l) = x :: t := by
        have : ∀ (l : List Eg) (x : Eg), ∃ t, compE (x :: l) = x :: t := by
          intro l
          induction l with
          | nil => exact fun x => ⟨[], rfl⟩
          | cons z l ih =>
            intro x
            rw [compE]
            split
            · rename_i q
              rw [q]; exact ih z
            · exact ⟨_, rfl⟩
        exact this l x
      obtain ⟨t, ht⟩ := this
      rw [ht]; rfl
    · rw [if_neg e, if_neg e]
end Go.Proofs.Ythknpcpddlaapaa
