/- Conditions over finite domains (part Wm) -/
import Derived.Test.YtiagabnddihchaaGreatDoorWl
import Derived.Test.YtiagabnddihchaaGreatDoorWc
set_option linter.all false
namespace Go.Proofs.YtiagabnddihchaaGreatDoor
open Go.Am
attribute [local simp, local push_cast] num boo str ints aV aTab aRow rRow vE
set_option linter.unusedVariables false
set_option maxRecDepth 100000
set_option maxHeartbeats 4000000
/-! The specification of conditions: validity, points. -/
def V1s (d : List Row) (n : Nat) : SL := ⟨[(14, .d (.lit (.int .i64 n))), (13, .d (.lit (.int .i64 d.length))), (12, aTab d)], []⟩
def V2s (d : List Row) (n : Nat) (l : Row) (i : Nat) : SL := ⟨[(23, .d (.lit (.int .i64 i))), (22, .d (.lit (.int .i64 l.length))), (21, aRow l), (4, aRow l), (14, .d (.lit (.int .i64 n))), (13, .d (.lit (.int .i64 d.length))), (12, aTab d)], []⟩
def V3s (d : List Row) (n : Nat) (l : Row) (i j : Nat) : SL :=
  ⟨[(35, .d (.lit (.int .i64 j))), (34, .d (.lit (.int .i64 i))), (33, aRow (l.take i)), (6, .ptr 6 0), (5, .d (.lit (.int .i64 i))), (23, .d (.lit (.int .i64 i))), (22, .d (.lit (.int .i64 l.length))), (21, aRow l), (4, aRow l), (14, .d (.lit (.int .i64 n))), (13, .d (.lit (.int .i64 d.length))), (12, aTab d)],
   [(6, .var [.d (.lit (.int .i64 (l.getD i default).kind)), .d (.lit (.int .i64 (l.getD i default).num)), .d (.lit (.string (l.getD i default).text))])]⟩
theorem c_valid23 (d : List Row) (hd : smallD d) : ACall Tryz.prog 50 [aTab d] [] (boo (domR d)) [] := by
  refine enterq mixed ttok Tryz.func50 Tryz.ntmps50 Tryz.results50 ?_
  generalize hr : boo (domR d) = R
  unfold domR at hr
  have hd1 := hd.1
  simp -implicitDefEqProofs only [argT, aTab, ↓steps, push_cast, simprocAttr, tte]
  refine bcase_intro (fun h0 => ?_) fun h0 => ?_
  · rw [decide_eq_false (by simp only [decide_eq_true_eq] at h0; omega), Bool.false_and] at hr
    exact ret_d trivial hr (by simp [ends])
  have hl : d.length ≤ 12 := by simp only [decide_eq_false_iff_not] at h0; omega
  rw [decide_eq_true hl, Bool.true_and] at hr
  refine loop_gen mixed ttok (fun n : Nat => V1s d n) (fun n => d.length - n) (fun n => n ≤ d.length ∧ d.all okR = (d.drop n).all okR) 0 ⟨Nat.zero_le _, rfl⟩ ?_ ?_
  · exact Weak.keepL (by simp [V1s, ends]) (by simp [V1s, ends]) (by simp [V1s, ends])
  rintro I hI n ⟨hn, hg⟩
  simp -implicitDefEqProofs only [V1s, rRow, ↓steps, push_cast, simprocAttr, tte]
  refine bcase_intro (fun h => ?_) fun h => ?_
  · have h' : n < d.length := by simpa using h
    have hw := wrap_succ h' (by omega)
    rw [drop_cons d n h', List.all_cons] at hg
    have hlb := hd.2 _ (getD_mem h')
    generalize d.getD n default = l at hg hlb ⊢
    refine ⟨⟨by omega, by omega⟩, ?_⟩
    have hok : okR l = ((l.length != 0) && okGo [] l) := rfl
    refine bcase_intro (fun h1 => ?_) fun h1 => ?_
    · have e0 : l.length = 0 := by simp only [beq_iff_eq] at h1; omega
      rw [hok, e0] at hg
      rw [hg] at hr
      exact ret_d trivial (by rw [← hr]; rfl) (by simp [ends])
    have e0 : l.length ≠ 0 := by simp only [beq_eq_false_iff_ne, ne_eq] at h1; omega
    have e1 : (l.length != 0) = true := by simpa using e0
    rw [e1, Bool.true_and] at hok
    refine loop_gen mixed ttok (fun i : Nat => V2s d n l i) (fun i => l.length - i) (fun i => i ≤ l.length ∧ okR l = okGo (l.take i) (l.drop i)) 0 ⟨Nat.zero_le _, hok⟩ ?_ ?_
    · exact Weak.keepL (by simp [V2s, ends]) (by simp [V2s, ends]) (by simp [V2s, ends])
    rintro J hJ i ⟨hi, hgi⟩
    simp -implicitDefEqProofs only [V2s, ↓steps, push_cast, simprocAttr, tte]
    refine bcase_intro (fun h2 => ?_) fun h2 => ?_
    · have hi' : i < l.length := by simpa using h2
      have hwi := wrap_succ hi' (by omega)
      rw [drop_cons l i hi', okGo, ← take_snoc l i hi'] at hgi
      refine ⟨⟨by omega, by omega⟩, ?_⟩
      refine callq [[0, 0, 0]] [] (c_rvalid (l.getD i default)) ?_
      simp -implicitDefEqProofs only [↓steps, push_cast, simprocAttr, tte]
      refine bcase_intro (fun h3 => ?_) fun h3 => ?_
      · have e3 : validM (l.getD i default) = false := by simpa using h3
        rw [e3, Bool.false_and, Bool.false_and] at hgi
        rw [hgi, Bool.false_and] at hg
        rw [hg] at hr
        exact ret_d trivial hr (by simp [ends])
      have e3 : validM (l.getD i default) = true := by simpa using h3
      rw [e3, Bool.true_and] at hgi
      have htl : (l.take i).length = i := by rw [List.length_take]; omega
      have hmin : ((min i l.length : Nat) : Int) = (i : Int) := by omega
      refine ⟨⟨by omega, by omega⟩, ?_⟩
      refine loop_gen mixed ttok (fun j : Nat => V3s d n l i j) (fun j => i - j) (fun j => j ≤ i ∧ ((l.take i).all fun w => !clash (l.getD i default) w) = (((l.take i).drop j).all fun w => !clash (l.getD i default) w)) 0 ⟨Nat.zero_le _, rfl⟩ ?_ ?_
      · exact Weak.keepL (by simp [V3s, hmin, ends]) (by simp [V3s, ends]) (by simp [V3s, ends])
      rintro L hL j ⟨hj, hgj⟩
      simp -implicitDefEqProofs only [V3s, ↓steps, push_cast, simprocAttr, tte]
      refine bcase_intro (fun h4 => ?_) fun h4 => ?_
      · have hj' : j < i := by simpa using h4
        have hwj := wrap_succ hj' (by omega)
        rw [drop_cons (l.take i) j (by omega), List.all_cons] at hgj
        refine ⟨⟨by omega, by omega⟩, ?_⟩
        generalize (l.take i).getD j default = w at hgj ⊢
        have hc0 : clash (l.getD i default) w = (sameM (l.getD i default) w || (((l.getD i default).kind != w.kind && (l.getD i default).kind != 0) && w.kind != 0)) := rfl
        refine callq [[0, 0, 0], [0, 0, 0]] [] (c_rsame (l.getD i default) w) ?_
        simp -implicitDefEqProofs only [↓steps, push_cast, simprocAttr, tte]
        refine bcase_intro (fun s1 => ?_) fun s1 => ?_
        · have hcl : clash (l.getD i default) w = true := by rw [hc0, s1, Bool.true_or]
          rw [hcl, Bool.not_true, Bool.false_and] at hgj
          rw [hgj, Bool.false_and] at hgi
          rw [hgi, Bool.false_and] at hg
          rw [hg] at hr
          exact ret_d trivial hr (by simp [ends])
        rw [s1, Bool.false_or] at hc0
        refine bcase_intro (fun s2 => ?_) fun s2 => ?_
        · rw [s2, Bool.true_and] at hc0
          refine bcase_intro (fun s3 => ?_) fun s3 => ?_
          · rw [s3, Bool.true_and] at hc0
            refine bcase_intro (fun s4 => ?_) fun s4 => ?_
            · have hcl : clash (l.getD i default) w = true := by rw [hc0, s4]
              rw [hcl, Bool.not_true, Bool.false_and] at hgj
              rw [hgj, Bool.false_and] at hgi
              rw [hgi, Bool.false_and] at hg
              rw [hg] at hr
              exact ret_d trivial hr (by simp [ends])
            · have hcl : clash (l.getD i default) w = false := by rw [hc0, s4]
              rw [hcl, Bool.not_false, Bool.true_and] at hgj
              exact gen_again hL (j + 1) ⟨hj', hgj⟩ (by show i - (j + 1) < i - j; omega) (Weak.keepL (by simp [V3s, hwj, ends]) (by simp [V3s, ends]) (by simp [V3s, ends]))
          · have hcl : clash (l.getD i default) w = false := by rw [hc0, s3, Bool.false_and]
            rw [hcl, Bool.not_false, Bool.true_and] at hgj
            exact gen_again hL (j + 1) ⟨hj', hgj⟩ (by show i - (j + 1) < i - j; omega) (Weak.keepL (by simp [V3s, hwj, ends]) (by simp [V3s, ends]) (by simp [V3s, ends]))
        · have hcl : clash (l.getD i default) w = false := by rw [hc0, s2, Bool.false_and, Bool.false_and]
          rw [hcl, Bool.not_false, Bool.true_and] at hgj
          exact gen_again hL (j + 1) ⟨hj', hgj⟩ (by show i - (j + 1) < i - j; omega) (Weak.keepL (by simp [V3s, hwj, ends]) (by simp [V3s, ends]) (by simp [V3s, ends]))
      have hji : j = i := by have := of_decide_eq_false h4; omega
      subst hji
      rw [List.drop_of_length_le (by omega), List.all_nil] at hgj
      rw [hgj, Bool.true_and] at hgi
      exact gen_again hJ (j + 1) ⟨hi', hgi⟩ (by show l.length - (j + 1) < l.length - j; omega) (Weak.keepL (by simp [V2s, hwi, ends]) (by simp [V2s, ends]) (by simp [V2s, ends]))
    have hii : i = l.length := by have := of_decide_eq_false h2; omega
    subst hii
    rw [List.drop_length, okGo] at hgi
    rw [hgi, Bool.true_and] at hg
    exact gen_again hI (n + 1) ⟨h', hg⟩ (by show d.length - (n + 1) < d.length - n; omega) (Weak.keepL (by simp [V1s, hw, ends]) (by simp [V1s, ends]) (by simp [V1s, ends]))
  have hnn : n = d.length := by have := of_decide_eq_false h; omega
  subst hnn
  rw [List.drop_length, List.all_nil] at hg
  rw [hg] at hr
  exact ret_d trivial hr (by simp [ends])
end Go.Proofs.YtiagabnddihchaaGreatDoor
namespace Go.Proofs.YtiagabnddihchaaGreatDoor
open Go.Am
attribute [local simp, local push_cast] num boo str ints aV aTab aRow rRow vE
set_option linter.unusedVariables false
set_option maxRecDepth 100000
set_option maxHeartbeats 4000000
/-! The specification of conditions: types, points. -/
def typF (t : Int) (v : Val) : Int := if v.kind = 0 then t else v.kind
def W1s (d : List Row) (n : Nat) : SL := ⟨[(14, .d (.lit (.int .i64 n))), (13, .d (.lit (.int .i64 d.length))), (12, aTab d), (3, .vec 500 n)], [(500, .vec 3 1 (rowsOf rI ((d.take n).map typR)) 0)]⟩
def W2s (d : List Row) (n : Nat) (l : Row) (i : Nat) : SL :=
  ⟨[(20, .d (.lit (.int .i64 i))), (19, .d (.lit (.int .i64 l.length))), (18, aRow l), (6, num ((l.take i).foldl typF 1)), (14, .d (.lit (.int .i64 n))), (13, .d (.lit (.int .i64 d.length))), (12, aTab d), (3, .vec 500 n)], [(500, .vec 3 1 (rowsOf rI ((d.take n).map typR)) 0)]⟩
theorem typesM_eq (d : List Row) : typesM d = if domR d = true then d.map typR else [] := by
  rw [domR_eq, typesM]
  split
  · rename_i h
    unfold domOk at h
    simp only [Bool.and_eq_true] at h
    exact List.map_congr_left fun l hl => (typ_kind (List.all_eq_true.1 h.2 l hl)).symm
  · rfl
theorem c_types23 (d : List Row) (hd : smallD d) : ACall Tryz.prog 11 [aTab d] [] (ints (typesM d)) [] := by
  refine enterq mixed ttok Tryz.func11 Tryz.ntmps11 Tryz.results11 ?_
  generalize hr : ints (typesM d) = R
  rw [typesM_eq] at hr
  have hd1 := hd.1
  simp -implicitDefEqProofs only [argT, aTab, ↓steps, push_cast, simprocAttr, tte]
  refine callq [[1]] [] (c_valid23 d hd) ?_
  simp -implicitDefEqProofs only [↓steps, push_cast, simprocAttr, tte]
  refine bcase_intro (fun h0 => ?_) fun h0 => ?_
  · rw [if_neg (by simp only [Bool.not_eq_true'] at h0; rw [h0]; decide)] at hr
    refine retx_of [1] rfl (by simp) (by simp [rowsOf_length] <;> omega) ?_ (by first | rfl | simp [ends] | (subst_vars; simp [ends])) (by simp [ends]) (by simp [ends])
    rw [← hr]; rfl
  rw [if_pos (by simpa using h0)] at hr
  refine loop_gen mixed ttok (fun n : Nat => W1s d n) (fun n => d.length - n) (fun n => n ≤ d.length) 0 (Nat.zero_le _) ?_ ?_
  · exact (Weak.nilL 3 500 3 1 rfl rfl).trans (Weak.keepL (by simp [W1s, ends]) (by simp [W1s, rowsOf, ends]) (by simp [W1s, ends]))
  intro I hI n hn
  have hmn : min n d.length = n := by omega
  have htl : ((d.take n).map typR).length = n := by rw [List.length_map, List.length_take]; omega
  simp -implicitDefEqProofs only [W1s, rRow, ↓steps, push_cast, simprocAttr, tte]
  refine bcase_intro (fun h => ?_) fun h => ?_
  · have h' : n < d.length := by simpa using h
    have hw := wrap_succ h' (by omega)
    have hts : (d.take (n + 1)).map typR = (d.take n).map typR ++ [typR (d.getD n default)] := by rw [take_snoc _ _ h', List.map_append]; rfl
    have hlb := hd.2 _ (getD_mem h')
    generalize d.getD n default = l at hts hlb ⊢
    refine ⟨⟨by omega, by omega⟩, ?_⟩
    refine loop_gen mixed ttok (fun i : Nat => W2s d n l i) (fun i => l.length - i) (fun i => i ≤ l.length) 0 (Nat.zero_le _) ?_ ?_
    · exact Weak.keepL (by simp [W2s, ends]) (by simp [W2s, ends]) (by simp [W2s, ends])
    intro J hJ i hi
    simp -implicitDefEqProofs only [W2s, ↓steps, push_cast, simprocAttr, tte]
    refine bcase_intro (fun h2 => ?_) fun h2 => ?_
    · have hi' : i < l.length := by simpa using h2
      have hwi := wrap_succ hi' (by omega)
      have hfs : (l.take (i + 1)).foldl typF 1 = typF ((l.take i).foldl typF 1) (l.getD i default) := by rw [take_snoc _ _ hi', List.foldl_append]; rfl
      refine ⟨⟨by omega, by omega⟩, ?_⟩
      refine bcase_intro (fun h3 => ?_) fun h3 => ?_
      · have e3 : ¬ (l.getD i default).kind = 0 := by simpa using h3
        rw [typF, if_neg e3] at hfs
        exact gen_again hJ (i + 1) hi' (by show l.length - (i + 1) < l.length - i; omega) (Weak.keepL (by simp only [W2s, hwi, hfs, ends, ite_true, ite_false, reduceIte, Nat.reduceEqDiff, Nat.reduceLeDiff, Nat.reduceLT, Nat.reduceAdd, reduceCtorEq, num, boo, str, ints, aV, aTab, aRow, rRow, vE] <;> simp [hwi, ends]) (by simp [W2s, ends]) (by simp [W2s, ends]))
      · have e3 : (l.getD i default).kind = 0 := by simpa using h3
        rw [typF, if_pos e3] at hfs
        exact gen_again hJ (i + 1) hi' (by show l.length - (i + 1) < l.length - i; omega) (Weak.keepL (by simp only [W2s, hwi, hfs, ends, ite_true, ite_false, reduceIte, Nat.reduceEqDiff, Nat.reduceLeDiff, Nat.reduceLT, Nat.reduceAdd, reduceCtorEq, num, boo, str, ints, aV, aTab, aRow, rRow, vE] <;> simp [hwi, ends]) (by simp [W2s, ends]) (by simp [W2s, ends]))
    have hii : i = l.length := by have := of_decide_eq_false h2; omega
    subst hii
    rw [List.take_length]
    have hty : l.foldl typF 1 = typR l := rfl
    rw [hty]
    refine ⟨⟨htl.symm, by omega⟩, ?_⟩
    exact gen_again hI (n + 1) h' (by show d.length - (n + 1) < d.length - n; omega) (Weak.keepL (by simp [W1s, hw, htl, hmn, ends]) (by simp only [W1s, hts, htl, ends, ite_true, ite_false, reduceIte, Nat.reduceEqDiff, Nat.reduceLeDiff, Nat.reduceLT, Nat.reduceAdd, reduceCtorEq, num, boo, str, ints, aV, aTab, aRow, rRow, vE] <;> simp [hmn, ends]) (by simp [W1s, ends]))
  have hnn : n = d.length := by have := of_decide_eq_false h; omega
  subst hnn
  rw [List.take_length] at htl ⊢
  refine retx_of [1] rfl (by simp) (by simp [rowsOf_length] <;> omega) ?_ (by first | rfl | simp [ends] | (subst_vars; simp [ends])) (by simp [ends]) (by simp [ends])
  rw [← hr]; rfl
def ptF (n : Nat) (l : Row) : Nat := min (n * l.length) 1048576
def pts23 (d : List Row) : Nat := d.foldl ptF 1
theorem pts_full : ∀ (d : List Row) (n : Nat), Full d → n ≤ 1048576 → d.foldl ptF n = min (n * prodL d) 1048576
  | [], n, _, h => by rw [List.foldl_nil, prodL, Nat.mul_one]; omega
  | l :: d, n, hf, h => by
    rw [List.foldl_cons, show ptF n l = min (n * l.length) 1048576 from rfl, pts_full d _ hf.tail (Nat.min_le_right _ _), prodL, ← Nat.mul_assoc]
    have hp := prod_pos hf.tail
    rcases Nat.le_total (n * l.length) 1048576 with q | q
    · rw [Nat.min_eq_left q]
    · rw [Nat.min_eq_right q]
      have : 1048576 * 1 ≤ 1048576 * prodL d := Nat.mul_le_mul_left _ hp
      have h2 : n * l.length * 1 ≤ n * l.length * prodL d := Nat.mul_le_mul_left _ hp
      omega
theorem pts_good {d : List Row} (G : GoodD d) : pts23 d = prodL d := by
  unfold pts23
  rw [pts_full d 1 G.full (by decide), Nat.one_mul]
  have := G.pr
  omega
/-- A point, as far as it is made: from k on. -/
def pK (d : List Row) (n k : Nat) : Row := (List.range d.length).map fun j => if j < k then default else (d.getD j default).getD (dig d j n) default
theorem pK_length (d : List Row) (n k : Nat) : (pK d n k).length = d.length := by simp [pK]
theorem pK_zero (d : List Row) (n : Nat) : pK d n 0 = ptM d n := by
  unfold pK ptM
  exact List.map_congr_left fun j hj => by rw [if_neg (by omega)]
theorem pK_full (d : List Row) (n : Nat) : rowsOf rV (pK d n d.length) = List.replicate d.length [.lit (.int .i64 0), .lit (.int .i64 0), .lit (.string ByteArray.empty)] := by
  have e : pK d n d.length = x0 d 0 := by
    unfold pK x0
    exact List.map_congr_left fun j hj => by rw [if_pos (List.mem_range.1 hj), if_neg (by omega)]
  rw [e, x0_zero]
theorem pK_set {d : List Row} {n k : Nat} (hk : k < d.length) : (pK d n (k + 1)).set k ((d.getD k default).getD (dig d k n) default) = pK d n k := by
  refine map_range_set _ _ _ _ _ hk ?_ fun j hj hne => ?_
  · rw [if_neg (by omega)]
  · by_cases h : j < k
    · rw [if_pos (by omega), if_pos h]
    · rw [if_neg (by omega), if_neg h]
def quoP (d : List Row) (n k : Nat) : Nat := n / prodL (d.drop k)
def N1s (d : List Row) (n k : Nat) : SL := ⟨[(6, .d (.lit (.int .i64 ((k : Int) - 1)))), (5, .vec 9 d.length), (0, aTab d), (1, .d (.lit (.int .i64 (quoP d n k : Nat))))], [(9, xOb (pK d n k) 0)]⟩
theorem c_point (d : List Row) (G : GoodD d) (n : Nat) (hn : n ≤ 5000) : ACall Tryz.prog 15 [aTab d, num n] [] (.vec 1000 d.length) [(1000, xOb (ptM d n) 0)] := by
  refine enterq mixed ttok Tryz.func15 Tryz.ntmps15 Tryz.results15 ?_
  have hf := G.full
  have hl12 := G.l12
  have wl : IntKind.i64.wrap ((d.length : Int) - 1) = (d.length : Int) - 1 := wrap_eq (by omega) (by omega)
  simp -implicitDefEqProofs only [argT, aTab, xOb, ↓steps, push_cast, simprocAttr, tte]
  refine ⟨⟨by omega, by omega, by omega⟩, ?_⟩
  refine loop_gen mixed ttok (fun k : Nat => N1s d n k) (fun k => k) (fun k => k ≤ d.length) d.length (Nat.le_refl _) ?_ ?_
  · exact Weak.keepL (by simp [N1s, wl, quoP, prodL, ends]) (by simp [N1s, xOb, pK_full, ends]) (by simp [N1s, ends])
  intro I hI k hk
  have hpl := pK_length d n k
  simp -implicitDefEqProofs only [N1s, xOb, rRow, ↓steps, push_cast, simprocAttr, tte]
  refine bcase_intro (fun g => ?_) fun g => ?_
  · have hk0 : 0 < k := by simp only [decide_eq_true_eq] at g; omega
    obtain ⟨i, rfl⟩ : ∃ i, k = i + 1 := ⟨k - 1, by omega⟩
    have hi : i < d.length := by omega
    have ei : (((i + 1 : Nat) : Int) - 1) = (i : Int) := by omega
    have hfl := hf.at hi
    have hlb := G.ll _ (getD_mem hi)
    have hdl := dig_lt hf hi n
    have hnS : quoP d n (i + 1) ≤ n := Nat.div_le_self _ _
    have hq : quoP d n i = quoP d n (i + 1) / (d.getD i default).length := by
      unfold quoP
      rw [prod_drop hi, Nat.div_div_eq_div_mul, Nat.mul_comm]; rfl
    have hz0 : quoP d n (i + 1) % (d.getD i default).length = dig d i n := rfl
    generalize quoP d n (i + 1) = z at hnS hq hz0 ⊢
    have hzm : (z : Int).tmod (((d.getD i default).length : Nat) : Int) = ((dig d i n : Nat) : Int) := by rw [← Int.ofNat_tmod, hz0]
    have hzL : z / (d.getD i default).length ≤ z := Nat.div_le_self _ _
    have hzd : IntKind.i64.wrap ((z : Int).tdiv (((d.getD i default).length : Nat) : Int)) = ((quoP d n i : Nat) : Int) := by
      rw [← Int.ofNat_tdiv, ← hq]
      rw [← hq] at hzL
      rw [wrap_eq (by omega) (by omega)]
    have wi : IntKind.i64.wrap ((i : Int) - 1) = (i : Int) - 1 := wrap_eq (by omega) (by omega)
    have hvs := rowV_set (l := pK d n (i + 1)) (n := i) (v := (d.getD i default).getD (dig d i n) default) (by omega)
    rw [pK_set hi] at hvs
    simp only [ei, hzm, hzd, wi, Int.toNat_natCast]
    refine ⟨⟨by omega, by omega⟩, ⟨by omega, by omega⟩, by omega, ⟨by omega, by omega⟩, ⟨⟨by omega, by omega⟩, hpl.symm⟩, ⟨hpl.symm, by omega, by omega⟩, drawx_intro (by kernel_rfl), ⟨by omega, by omega⟩, by omega, ?_⟩
    exact gen_again hI i (by omega) (by show i < i + 1; omega) (Weak.keepL (by simp [N1s, ends]) (by simp only [N1s, xOb, hvs, ends, ite_true, ite_false, reduceIte, Nat.reduceEqDiff, Nat.reduceLeDiff, Nat.reduceLT, Nat.reduceAdd, reduceCtorEq, num, boo, str, ints, aV, aTab, aRow, rRow, vE] <;> simp [ends]) (by simp [N1s, ends]))
  have hk0 : k = 0 := by simp only [decide_eq_false_iff_not] at g; omega
  subst hk0
  rw [pK_zero]
  refine ret_ren 9 1000 trivial (by decide) (by decide) rfl (by simp [A.ren, renL, ren1to]) (by simp [A.closed, closedL, inO, lookO]) ?_ ?_
  · simp [renO, Ob.ren, A.ren, renL, ren1to, ends]
  · simp [renO, ren1to, ends]
end Go.Proofs.YtiagabnddihchaaGreatDoor
namespace Go.Proofs.YtiagabnddihchaaGreatDoor
open Go.Am
attribute [local simp, local push_cast] num boo str ints aV aTab aRow rRow vE
set_option linter.unusedVariables false
set_option maxRecDepth 100000
set_option maxHeartbeats 4000000
/-! The specification of conditions: what is looked for. -/
end Go.Proofs.YtiagabnddihchaaGreatDoor
namespace Go.Proofs.YtiagabnddihchaaGreatDoor
open Go.Am
attribute [local simp, local push_cast] num boo str ints aV aTab aRow rRow vE
set_option linter.unusedVariables false
set_option maxRecDepth 100000
set_option maxHeartbeats 4000000
/-! The specification of conditions: what matters. -/
theorem same_iff (a b : Val) : sameM a b = true ↔ a = b := by
  have h := cmpM_zero a b
  rw [← h, beq_iff_eq, cmpM_eq]
end Go.Proofs.YtiagabnddihchaaGreatDoor
