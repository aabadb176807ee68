/- Conditions over finite domains (part Wj) -/
import Derived.Test.YtiagabnddihchaaGreatDoorWf
import Derived.Test.YtiagabnddihchaaGreatDoorWg
import Derived.Test.YtiagabnddihchaaGreatDoorWh
import Derived.Test.YtiagabnddihchaaGreatDoorLe
set_option linter.all false
namespace Go.Proofs.YtiagabnddihchaaGreatDoor
open Go.Am
attribute [local simp, local push_cast] num boo str ints aV aTab aRow rRow vE
set_option linter.unusedVariables false
set_option maxRecDepth 100000
set_option maxHeartbeats 4000000
/-! Handing out all points. -/
theorem c_holds (e : Ex) (x : List Val) (ho : Ok12 e) : ACall Tryz.prog 17 [aE e, aRow x] [] (boo (truthM (evalM x e) == 1)) [] := by
  refine enterq mixed ttok Tryz.func17 Tryz.ntmps17 Tryz.results17 ?_
  simp -implicitDefEqProofs only [argT, ↓steps, push_cast, simprocAttr, tte]
  refine callq [[0, 0, 0, 0, 0, 6], [3]] [] (c_eval x e ho) ?_
  simp -implicitDefEqProofs only [↓steps, push_cast, simprocAttr, tte]
  refine callq [[0, 0, 0]] [] (c_Truth (evalM x e)) ?_
  simp -implicitDefEqProofs only [↓steps, push_cast, simprocAttr, tte]
  exact ret_d trivial rfl (by simp [ends])
/-- The first point, as far as it is made. -/
def x0 (d : List Row) (n : Nat) : Row := (List.range d.length).map fun j => if j < n then (d.getD j default).getD 0 default else default
theorem x0_length (d : List Row) (n : Nat) : (x0 d n).length = d.length := by simp [x0]
theorem x0_zero (d : List Row) : rowsOf rV (x0 d 0) = List.replicate d.length [.lit (.int .i64 0), .lit (.int .i64 0), .lit (.string ByteArray.empty)] := by
  have e : x0 d 0 = List.replicate d.length default := by
    apply List.ext_getElem?
    intro j
    simp only [x0, List.getElem?_map, List.getElem?_replicate]
    by_cases hj : j < d.length
    · simp [hj]
    · simp [hj]
  rw [e]
  generalize d.length = n
  induction n with
  | zero => rfl
  | succ n ih => rw [List.replicate_succ, List.replicate_succ, rowsOf_cons, ih]; rfl
theorem x0_set {d : List Row} {n : Nat} (hn : n < d.length) : (x0 d n).set n ((d.getD n default).getD 0 default) = x0 d (n + 1) := by
  refine map_range_set _ _ _ _ _ hn ?_ fun j hj hne => ?_
  · rw [if_pos (by omega)]
  · by_cases h : j < n
    · rw [if_pos h, if_pos (by omega)]
    · rw [if_neg h, if_neg (by omega)]
theorem dig_zero (d : List Row) (i : Nat) : dig d i 0 = 0 := by unfold dig; rw [Nat.zero_div, Nat.zero_mod]
theorem x0_full (d : List Row) : x0 d d.length = xM d 0 d.length := by
  unfold x0 xM
  exact List.map_congr_left fun j hj => by rw [if_pos (List.mem_range.1 hj), if_pos (List.mem_range.1 hj), dig_zero]
theorem at_zero (d : List Row) : rowsOf rI (atM d 0 d.length) = List.replicate d.length [.lit (.int .i64 0)] := by
  have e : atM d 0 d.length = List.replicate d.length 0 := by
    apply List.ext_getElem?
    intro j
    simp only [atM, List.getElem?_map, List.getElem?_replicate]
    by_cases hj : j < d.length
    · simp [hj, dig_zero]
    · simp [hj]
  rw [e]
  generalize d.length = n
  induction n with
  | zero => rfl
  | succ n ih => rw [List.replicate_succ, List.replicate_succ, rowsOf_cons, ih]; rfl
def xOb (l : Row) (fz : Nat) : Ob := .vec 53 3 (rowsOf rV l) fz
def atOb (l : List Int) : Ob := .vec 3 1 (rowsOf rI l) 0
def E1s (d : List Row) (c : A) (os : List (Nat × Ob)) (n : Nat) : SL :=
  ⟨[(18, .d (.lit (.int .i64 n))), (17, .d (.lit (.int .i64 d.length))), (16, aTab d), (5, .vec 15 d.length), (4, .vec 12 d.length), (0, aTab d), (1, c)], [(15, xOb (x0 d n) 0), (12, atOb (atM d 0 d.length))] ++ os⟩
def E2s (d : List Row) (c : A) (os : Nat → List (Nat × Ob)) (n : Nat) : SL :=
  ⟨[(8, .d (.lit (.int .i64 n))), (5, .vec 15 d.length), (4, .vec 12 d.length), (0, aTab d), (1, c)], [(15, xOb (xM d n d.length) 0), (12, atOb (atM d n d.length))] ++ os n⟩
def E3s (d : List Row) (c : A) (os : List (Nat × Ob)) (n k : Nat) : SL :=
  ⟨[(9, .d (.lit (.int .i64 ((k : Int) - 1)))), (8, .d (.lit (.int .i64 n))), (5, .vec 15 d.length), (4, .vec 12 d.length), (0, aTab d), (1, c)], [(15, xOb (xM d n k) 0), (12, atOb (atM d n k))] ++ os⟩
def cntT (v : Nat → Int) (t : Int) (k : Nat) : Int := ((List.range k).countP fun i => v i == t : Nat)
def oCnt (e : Ex) (v : Nat → Int) (k : Nat) : List (Nat × Ob) := [(1000, .var [num (cntT v 0 k), num (cntT v 1 k), num (cntT v 2 k)]), (1001, .var (vE e))]
theorem rows_setV : ∀ (l : Row) (n : Nat) (v : Val), (rowsOf rV l).set n [.lit (.int .i64 v.kind), .lit (.int .i64 v.num), .lit (.string v.text)] = rowsOf rV (l.set n v)
  | [], _, _ => rfl
  | x :: l, 0, v => rfl
  | x :: l, n + 1, v => by rw [rowsOf_cons, List.set_cons_succ, rows_setV l n v, List.set_cons_succ, rowsOf_cons]
theorem rows_setI : ∀ (l : List Int) (n : Nat) (v : Int), (rowsOf rI l).set n [.lit (.int .i64 v)] = rowsOf rI (l.set n v)
  | [], _, _ => rfl
  | x :: l, 0, v => rfl
  | x :: l, n + 1, v => by rw [rowsOf_cons, List.set_cons_succ, rows_setI l n v, List.set_cons_succ, rowsOf_cons]
theorem drop3 {l : Row} {n : Nat} (h : n < l.length) : List.drop 3 ((rowsOf rV l)[n]?.getD []) = [] := by
  rw [List.getElem?_eq_getElem (by rw [rowsOf_length]; exact h), Option.getD_some]
  simp [rowsOf, rV]
theorem rowI_set {l : List Int} {n : Nat} {v : Int} (h : n < l.length) : (rowsOf rI l).set n (.lit (.int .i64 v) :: List.drop 1 ((rowsOf rI l).getD n [])) = rowsOf rI (l.set n v) := by
  rw [List.getD_eq_getElem?_getD, List.getElem?_eq_getElem (by rw [rowsOf_length]; exact h), Option.getD_some, ← rows_setI]
  simp [rowsOf, rI]
theorem rowV_set {l : Row} {n : Nat} {v : Val} (h : n < l.length) : (rowsOf rV l).set n (.lit (.int .i64 v.kind) :: .lit (.int .i64 v.num) :: .lit (.string v.text) :: List.drop 3 ((rowsOf rV l).getD n [])) = rowsOf rV (l.set n v) := by
  rw [List.getD_eq_getElem?_getD, drop3 h, rows_setV]
theorem next_lt {d : List Row} (hf : Full d) {i n : Nat} (hi : i < d.length) (h : prodL (d.drop (i + 1)) ∣ n + 1) (h2 : dig d i n + 1 < (d.getD i default).length) (hn : n < prodL d) : n + 1 < prodL d := by
  rcases Nat.lt_or_ge (n + 1) (prodL d) with h3 | h3
  · exact h3
  · exfalso
    have e : n + 1 = prodL d := by omega
    have h4 := dig_up h h2
    have hd : prodL (d.drop i) ∣ prodL d := by have := prod_drop_dvd (d := d) (Nat.zero_le i); simpa using this
    obtain ⟨q, hq⟩ := hd
    rw [prod_drop hi] at hq
    have hS := strd_pos hf i
    have e2 : (n + 1) / strd d i = (d.getD i default).length * q := by rw [e, hq, Nat.mul_right_comm, Nat.mul_div_cancel _ hS]
    unfold dig at h4
    rw [e2, Nat.mul_mod_right] at h4
    omega
theorem ret_as {p : Prop} {t : List (Nat × A)} {o os' : List (Nat × Ob)} {R : A} (hp : p) (hr : A.tup [] = R) (ho : keepO (lookO o) (inO os') os') (hin : keepIn (inO os') o) : retx (some (p, A.tup [])) ⟨t, o⟩ R os' := by
  subst hr
  exact retx_tup [] rfl hp trivial rfl rfl ho hin
theorem ret_ren {p : Prop} {a : A} {t : List (Nat × A)} {o os' : List (Nat × Ob)} {R : A} (x y : Nat) (hp : p) (hxy : x ≠ y) (hx : x < 1000) (hy : lookO o y = none) (hr : a.ren (ren1to x y) = R)
    (hc : R.closed (inO os') = true) (ho : keepO (lookO (renO x y o)) (inO os') os') (hin : keepIn (inO os') (renO x y o)) : retx (some (p, a)) ⟨t, o⟩ R os' := by
  refine ⟨hp, ?_⟩
  have h1 := Weak.ren (t := [(0, a)]) (o := o) x y hxy hx hy
  have h2 : Weak (SL.mk (renT x y [(0, a)]) (renO x y o)).st (SL.mk [(0, R)] os').st := Weak.keepL ⟨⟨by simp only [renT, lookT, if_true]; exact hr, hc⟩, trivial⟩ ho hin
  exact h1.trans h2
theorem c_eachC {d : List Row} (hf : Full d) (hl : d.length ≤ 12) (hp : prodL d ≤ 5000) (hll : ∀ l ∈ d, l.length ≤ 5000) (e : Ex) (v : Nat → Int) {N : Nat} (hN : N + 1 = prodL d)
    (hc : ∀ k, k < prodL d → ACall Tryz.prog 54 [num k, .vec 1009 d.length, .ptr 1000 0, .ptr 1001 0] (oCnt e v k ++ [(1009, xOb (ptM d k) 0)]) (boo true) (oCnt e v (k + 1) ++ [(1009, xOb (ptM d k) 0)])) :
    ACall Tryz.prog 52 [aTab d, .clo 54 [.ptr 1000 0, .ptr 1001 0]] (oCnt e v 0) (.tup []) (oCnt e v (prodL d)) := by
  refine enterq mixed ttok Tryz.func52 Tryz.ntmps52 Tryz.results52 ?_
  simp -implicitDefEqProofs only [oCnt, xOb, argT, aTab, ↓steps, push_cast, simprocAttr, tte]
  refine ⟨⟨by omega, by omega, by omega⟩, ⟨by omega, by omega, by omega⟩, ?_⟩
  refine loop_gen mixed ttok (fun n : Nat => E1s d (.clo 54 [.ptr 1000 0, .ptr 1001 0]) (oCnt e v 0) n) (fun n => d.length - n) (fun n => n ≤ d.length) 0 (Nat.zero_le _) ?_ ?_
  · exact Weak.keepL (by simp [E1s, oCnt, xOb, ends]) (by simp [E1s, oCnt, xOb, xOb, atOb, x0_zero, at_zero, ends]) (by simp [E1s, oCnt, xOb, ends])
  intro I hI n hn
  have hxl := x0_length d n
  simp -implicitDefEqProofs only [E1s, xOb, atOb, oCnt, xOb, aTab, rRow, List.cons_append, List.nil_append, ↓steps, push_cast, simprocAttr, tte]
  refine bcase_intro (fun h => ?_) fun h => ?_
  · have h' : n < d.length := by simpa using h
    have hw := wrap_succ h' (by omega)
    have hs := congrArg (rowsOf rV) (x0_set h')
    rw [← rows_setV] at hs
    simp only [List.getD_eq_getElem?_getD] at hs
    have hd3 := drop3 (l := x0 d n) (n := n) (by omega)
    have hfl := hf.at h'
    refine ⟨⟨by omega, by omega⟩, by omega, ⟨⟨by omega, by omega⟩, hxl.symm⟩, ⟨hxl.symm, by omega, by omega⟩, ?_⟩
    exact gen_again hI (n + 1) h' (by show d.length - (n + 1) < d.length - n; omega) (Weak.keepL (by simp [E1s, oCnt, xOb, hw, ends]) (by simp [E1s, oCnt, xOb, xOb, atOb, hd3, hs, ends]) (by simp [E1s, oCnt, xOb, ends]))
  have hnn : n = d.length := by have := of_decide_eq_false h; omega
  subst hnn
  rw [x0_full]
  clear hI I h hxl
  refine loop_gen mixed ttok (fun n : Nat => E2s d (.clo 54 [.ptr 1000 0, .ptr 1001 0]) (fun k => oCnt e v k) n) (fun n => N - n) (fun n => n ≤ N) 0 (Nat.zero_le _) ?_ ?_
  · exact Weak.keepL (by simp [E2s, oCnt, xOb, ends]) (by simp [E2s, oCnt, xOb, xOb, atOb, ends]) (by simp [E2s, oCnt, xOb, ends])
  intro I hI n hn
  have hxl := xM_length d n d.length
  have hal := atM_length d n d.length
  have hpt := xM_full d n
  simp -implicitDefEqProofs only [E2s, xOb, atOb, oCnt, xOb, aTab, rRow, List.cons_append, List.nil_append, ↓steps, push_cast, simprocAttr, tte]
  have hcn := hc n (by omega)
  rw [hpt]
  simp only [oCnt, xOb, List.cons_append, List.nil_append] at hcn
  refine callx_ofV [(1000, 1000), (1001, 1001), (1009, 15)] (view_raw _ _) (hcn) (by simp [vE, ends, bs]) (by simp [ends, bs]) (by simp [vE, ends]) (by simp [idsOk, lookO, updO, ren1]) ?_
  simp -implicitDefEqProofs only [↓steps, push_cast, simprocAttr, tte]
  -- the next point
  have wl : IntKind.i64.wrap ((d.length : Int) - 1) = (d.length : Int) - 1 := wrap_eq (by omega) (by omega)
  have hnp : n < prodL d := by omega
  rw [← hpt]
  refine loop_gen mixed ttok (fun k : Nat => E3s d (.clo 54 [.ptr 1000 0, .ptr 1001 0]) (oCnt e v (n + 1)) n k) (fun k => k) (fun k => k ≤ d.length ∧ prodL (d.drop k) ∣ n + 1) d.length ⟨Nat.le_refl _, by rw [List.drop_length]; exact Nat.one_dvd _⟩ ?_ ?_
  · exact Weak.keepL (by simp [E3s, oCnt, xOb, wl, ends]) (by simp [E3s, oCnt, xOb, xOb, atOb, hpt, ends]) (by simp [E3s, oCnt, xOb, ends])
  intro J hJ k hk
  obtain ⟨hk1, hk2⟩ := hk
  have hxl := xM_length d n k
  have hal := atM_length d n k
  simp -implicitDefEqProofs only [E3s, xOb, atOb, oCnt, xOb, aTab, rRow, List.cons_append, List.nil_append, ↓steps, push_cast, simprocAttr, tte]
  refine bcase_intro (fun g => ?_) fun g => ?_
  · have hk0 : 0 < k := by simp only [decide_eq_true_eq] at g; omega
    obtain ⟨i, rfl⟩ : ∃ i, k = i + 1 := ⟨k - 1, by omega⟩
    have hi : i < d.length := by omega
    have ei : (((i + 1 : Nat) : Int) - 1) = (i : Int) := by omega
    have hfl := hf.at hi
    have hdl := dig_lt hf hi n
    have hlb := hll _ (getD_mem hi)
    have hag : (atM d n (i + 1)).getD i default = (dig d i n : Int) := by rw [atM_get hi, if_pos (by omega)]
    have wd : IntKind.i64.wrap ((dig d i n : Int) + 1) = ((dig d i n + 1 : Nat) : Int) := by rw [wrap_eq (by omega) (by omega)]; rfl
    have hset := rowI_set (l := atM d n (i + 1)) (n := i) (v := ((dig d i n + 1 : Nat) : Int)) (by omega)
    have hag2 : ((atM d n (i + 1)).set i ((dig d i n + 1 : Nat) : Int)).getD i default = ((dig d i n + 1 : Nat) : Int) := by simp [List.getD_eq_getElem?_getD, hal, hi]
    have hal2 : ((atM d n (i + 1)).set i ((dig d i n + 1 : Nat) : Int)).length = d.length := by rw [List.length_set]; exact hal
    simp only [ei, hag, wd, Int.toNat_natCast, hset]
    have hss : (atM d n (i + 1)).set i 0 = ((atM d n (i + 1)).set i ((dig d i n + 1 : Nat) : Int)).set i 0 := by rw [List.set_set]
    have hup := atM_up hf hi hk2
    have hov := atM_over hf hi hk2
    rw [hss] at hov
    clear hss
    have hxu := xM_up hf hi hk2
    have hxo := xM_over hf hi hk2
    obtain ⟨m, hm⟩ : ∃ m, dig d i n + 1 = m := ⟨_, rfl⟩
    rw [hm] at hag2 hup hov hal2 hxu hxo ⊢
    generalize (atM d n (i + 1)).set i (m : Int) = av at hag2 hal2 hup hov ⊢
    simp -implicitDefEqProofs only [hag2, Int.toNat_natCast, ↓steps, push_cast, simprocAttr, tte]
    refine ⟨⟨⟨by omega, by omega⟩, hal.symm⟩, by omega, hal.symm, ⟨⟨by omega, by omega⟩, hal.symm⟩, ⟨hal.symm, by omega, by omega⟩, ⟨⟨by omega, by omega⟩, hal2.symm⟩, by omega, hal2.symm, ⟨by omega, by omega⟩, drawx_intro (by kernel_rfl), ?_⟩
    refine bcase_intro (fun q => ?_) fun q => ?_
    · have hq : m < (d.getD i default).length := by simpa using q
      refine ⟨⟨by omega, by omega⟩, ⟨⟨by omega, by omega⟩, hal2.symm⟩, by omega, hal2.symm, ⟨by omega, by omega⟩, ⟨⟨by omega, by omega⟩, hxl.symm⟩, ⟨hxl.symm, by omega, by omega⟩, drawx_intro (by kernel_rfl), ?_⟩
      refine bcase_intro (fun h => absurd h (by simp)) fun _ => ?_
      have hlt : n + 1 < prodL d := next_lt hf hi hk2 (by omega) hnp
      have hw := wrap_succ (show n < 5000 by omega) (by omega)
      have hxs := rowV_set (l := xM d n (i + 1)) (n := i) (v := (d.getD i default).getD m default) (by omega)
      rw [hxu hq] at hxs
      have hup := hup hq
      exact gen_again hI (n + 1) (by omega) (by show N - (n + 1) < N - n; omega) (Weak.keepL (by simp [E2s, hw, oCnt, xOb, ends]) (by simp only [E2s, oCnt, xOb, xOb, atOb, hxs, hup, ends, ite_true, ite_false, reduceIte, Nat.reduceEqDiff, Nat.reduceLeDiff, Nat.reduceLT, Nat.reduceAdd, reduceCtorEq, num, boo, str, ints, aV, aTab, aRow, rRow, vE] <;> simp [vE, ends]) (by simp [E2s, oCnt, xOb, ends]))
    · have hq : ¬ m < (d.getD i default).length := by simpa using q
      have hov := hov hq
      have hxo := hxo hq
      have hvs := rowV_set (l := xM d n (i + 1)) (n := i) (v := (d.getD i default).getD 0 default) (by omega)
      rw [hxo] at hvs
      have his := rowI_set (l := av) (n := i) (v := 0) (by omega)
      rw [hov] at his
      have wi : IntKind.i64.wrap ((i : Int) - 1) = (i : Int) - 1 := wrap_eq (by omega) (by omega)
      refine ⟨⟨by omega, by omega⟩, by omega, ⟨⟨by omega, by omega⟩, hal2.symm⟩, ⟨hal2.symm, by omega, by omega⟩, ⟨⟨by omega, by omega⟩, hxl.symm⟩, ⟨hxl.symm, by omega, by omega⟩, ?_⟩
      refine gen_again hJ i ⟨by omega, (dig_over hf hi hk2 (by rw [hm]; exact hq)).2⟩ (by show i < i + 1; omega) (Weak.keepL (by simp [E3s, wi, oCnt, xOb, ends]) ?_ (by simp [E3s, oCnt, xOb, ends]))
      simp only [E3s, oCnt, xOb, xOb, atOb, hvs, his, ends, ite_true, ite_false, reduceIte, Nat.reduceEqDiff, Nat.reduceLeDiff, Nat.reduceLT, Nat.reduceAdd, reduceCtorEq, num, boo, str, ints, aV, aTab, aRow, rRow, vE] <;> simp [vE, ends]
  · have hk0 : k = 0 := by simp only [decide_eq_false_iff_not] at g; omega
    subst hk0
    rw [List.drop_zero] at hk2
    have hlast := last_point hnp hk2
    have hnN : n = N := by omega
    have d0 : decide (((0 : Nat) : Int) - 1 < 0) = true := by decide
    simp -implicitDefEqProofs only [d0, ↓steps, push_cast, simprocAttr, tte]
    try rw [← hlast]
    exact ret_as trivial rfl (by simp [vE, ends]) (by simp [vE, ends])
theorem c_eachR {d : List Row} (hf : Full d) (hl : d.length ≤ 12) (hp : prodL d ≤ 5000) (hll : ∀ l ∈ d, l.length ≤ 5000) (e : Ex) (v : Nat → Val) {N : Nat} (hN : N + 1 = prodL d)
    (hc : ∀ k, k < prodL d → ACall Tryz.prog 60 [num k, .vec 1009 d.length, .ptr 1000 0, .ptr 1001 0] ([(1000, .var [.vec 1003 k]), (1001, .var (vE e)), (1003, .vec 53 3 (rowsOf rV ((List.range k).map v)) 0)] ++ [(1009, xOb (ptM d k) 0)]) (boo true) ([(1000, .var [.vec 1003 (k + 1)]), (1001, .var (vE e)), (1003, .vec 53 3 (rowsOf rV ((List.range (k + 1)).map v)) 0)] ++ [(1009, xOb (ptM d k) 0)])) :
    ACall Tryz.prog 52 [aTab d, .clo 60 [.ptr 1000 0, .ptr 1001 0]] ([(1000, .var [.snil]), (1001, .var (vE e))]) (.tup []) ([(1000, .var [.vec 1003 (prodL d)]), (1001, .var (vE e)), (1003, .vec 53 3 (rowsOf rV ((List.range (prodL d)).map v)) 0)]) := by
  refine enterq mixed ttok Tryz.func52 Tryz.ntmps52 Tryz.results52 ?_
  simp -implicitDefEqProofs only [xOb, argT, aTab, ↓steps, push_cast, simprocAttr, tte]
  refine ⟨⟨by omega, by omega, by omega⟩, ⟨by omega, by omega, by omega⟩, ?_⟩
  refine loop_gen mixed ttok (fun n : Nat => E1s d (.clo 60 [.ptr 1000 0, .ptr 1001 0]) ([(1000, .var [.snil]), (1001, .var (vE e))]) n) (fun n => d.length - n) (fun n => n ≤ d.length) 0 (Nat.zero_le _) ?_ ?_
  · exact Weak.keepL (by simp [E1s, xOb, ends]) (by simp [E1s, xOb, xOb, atOb, x0_zero, at_zero, ends]) (by simp [E1s, xOb, ends])
  intro I hI n hn
  have hxl := x0_length d n
  simp -implicitDefEqProofs only [E1s, xOb, atOb, xOb, aTab, rRow, List.cons_append, List.nil_append, ↓steps, push_cast, simprocAttr, tte]
  refine bcase_intro (fun h => ?_) fun h => ?_
  · have h' : n < d.length := by simpa using h
    have hw := wrap_succ h' (by omega)
    have hs := congrArg (rowsOf rV) (x0_set h')
    rw [← rows_setV] at hs
    simp only [List.getD_eq_getElem?_getD] at hs
    have hd3 := drop3 (l := x0 d n) (n := n) (by omega)
    have hfl := hf.at h'
    refine ⟨⟨by omega, by omega⟩, by omega, ⟨⟨by omega, by omega⟩, hxl.symm⟩, ⟨hxl.symm, by omega, by omega⟩, ?_⟩
    exact gen_again hI (n + 1) h' (by show d.length - (n + 1) < d.length - n; omega) (Weak.keepL (by simp [E1s, xOb, hw, ends]) (by simp [E1s, xOb, xOb, atOb, hd3, hs, ends]) (by simp [E1s, xOb, ends]))
  have hnn : n = d.length := by have := of_decide_eq_false h; omega
  subst hnn
  rw [x0_full]
  clear hI I h hxl
  refine loop_gen mixed ttok (fun n : Nat => E2s d (.clo 60 [.ptr 1000 0, .ptr 1001 0]) (fun k => [(1000, .var [.vec 500 k]), (1001, .var (vE e)), (500, .vec 53 3 (rowsOf rV ((List.range k).map v)) 0)]) n) (fun n => N - n) (fun n => n ≤ N) 0 (Nat.zero_le _) ?_ ?_
  · exact (Weak.nilCellL 1000 0 500 53 3 rfl rfl rfl).trans (Weak.keepL (by simp [E2s, xOb, ends]) (by simp [E2s, xOb, xOb, atOb, ends]) (by simp [E2s, xOb, ends]))
  intro I hI n hn
  have hxl := xM_length d n d.length
  have hal := atM_length d n d.length
  have hpt := xM_full d n
  simp -implicitDefEqProofs only [E2s, xOb, atOb, xOb, aTab, rRow, List.cons_append, List.nil_append, ↓steps, push_cast, simprocAttr, tte]
  have hcn := hc n (by omega)
  rw [hpt]
  simp only [xOb, List.cons_append, List.nil_append] at hcn
  refine callx_ofV [(1000, 1000), (1001, 1001), (1003, 500), (1009, 15)] (view_raw _ _) (hcn) (by simp [vE, ends, bs]) (by simp [ends, bs]) (by simp [vE, ends]) (by simp [idsOk, lookO, updO, ren1]) ?_
  simp -implicitDefEqProofs only [↓steps, push_cast, simprocAttr, tte]
  -- the next point
  have wl : IntKind.i64.wrap ((d.length : Int) - 1) = (d.length : Int) - 1 := wrap_eq (by omega) (by omega)
  have hnp : n < prodL d := by omega
  rw [← hpt]
  refine loop_gen mixed ttok (fun k : Nat => E3s d (.clo 60 [.ptr 1000 0, .ptr 1001 0]) ([(1000, .var [.vec 500 (n + 1)]), (1001, .var (vE e)), (500, .vec 53 3 (rowsOf rV ((List.range (n + 1)).map v)) 0)]) n k) (fun k => k) (fun k => k ≤ d.length ∧ prodL (d.drop k) ∣ n + 1) d.length ⟨Nat.le_refl _, by rw [List.drop_length]; exact Nat.one_dvd _⟩ ?_ ?_
  · exact Weak.keepL (by simp [E3s, xOb, wl, ends]) (by simp [E3s, xOb, xOb, atOb, hpt, ends]) (by simp [E3s, xOb, ends])
  intro J hJ k hk
  obtain ⟨hk1, hk2⟩ := hk
  have hxl := xM_length d n k
  have hal := atM_length d n k
  simp -implicitDefEqProofs only [E3s, xOb, atOb, xOb, aTab, rRow, List.cons_append, List.nil_append, ↓steps, push_cast, simprocAttr, tte]
  refine bcase_intro (fun g => ?_) fun g => ?_
  · have hk0 : 0 < k := by simp only [decide_eq_true_eq] at g; omega
    obtain ⟨i, rfl⟩ : ∃ i, k = i + 1 := ⟨k - 1, by omega⟩
    have hi : i < d.length := by omega
    have ei : (((i + 1 : Nat) : Int) - 1) = (i : Int) := by omega
    have hfl := hf.at hi
    have hdl := dig_lt hf hi n
    have hlb := hll _ (getD_mem hi)
    have hag : (atM d n (i + 1)).getD i default = (dig d i n : Int) := by rw [atM_get hi, if_pos (by omega)]
    have wd : IntKind.i64.wrap ((dig d i n : Int) + 1) = ((dig d i n + 1 : Nat) : Int) := by rw [wrap_eq (by omega) (by omega)]; rfl
    have hset := rowI_set (l := atM d n (i + 1)) (n := i) (v := ((dig d i n + 1 : Nat) : Int)) (by omega)
    have hag2 : ((atM d n (i + 1)).set i ((dig d i n + 1 : Nat) : Int)).getD i default = ((dig d i n + 1 : Nat) : Int) := by simp [List.getD_eq_getElem?_getD, hal, hi]
    have hal2 : ((atM d n (i + 1)).set i ((dig d i n + 1 : Nat) : Int)).length = d.length := by rw [List.length_set]; exact hal
    simp only [ei, hag, wd, Int.toNat_natCast, hset]
    have hss : (atM d n (i + 1)).set i 0 = ((atM d n (i + 1)).set i ((dig d i n + 1 : Nat) : Int)).set i 0 := by rw [List.set_set]
    have hup := atM_up hf hi hk2
    have hov := atM_over hf hi hk2
    rw [hss] at hov
    clear hss
    have hxu := xM_up hf hi hk2
    have hxo := xM_over hf hi hk2
    obtain ⟨m, hm⟩ : ∃ m, dig d i n + 1 = m := ⟨_, rfl⟩
    rw [hm] at hag2 hup hov hal2 hxu hxo ⊢
    generalize (atM d n (i + 1)).set i (m : Int) = av at hag2 hal2 hup hov ⊢
    simp -implicitDefEqProofs only [hag2, Int.toNat_natCast, ↓steps, push_cast, simprocAttr, tte]
    refine ⟨⟨⟨by omega, by omega⟩, hal.symm⟩, by omega, hal.symm, ⟨⟨by omega, by omega⟩, hal.symm⟩, ⟨hal.symm, by omega, by omega⟩, ⟨⟨by omega, by omega⟩, hal2.symm⟩, by omega, hal2.symm, ⟨by omega, by omega⟩, drawx_intro (by kernel_rfl), ?_⟩
    refine bcase_intro (fun q => ?_) fun q => ?_
    · have hq : m < (d.getD i default).length := by simpa using q
      refine ⟨⟨by omega, by omega⟩, ⟨⟨by omega, by omega⟩, hal2.symm⟩, by omega, hal2.symm, ⟨by omega, by omega⟩, ⟨⟨by omega, by omega⟩, hxl.symm⟩, ⟨hxl.symm, by omega, by omega⟩, drawx_intro (by kernel_rfl), ?_⟩
      refine bcase_intro (fun h => absurd h (by simp)) fun _ => ?_
      have hlt : n + 1 < prodL d := next_lt hf hi hk2 (by omega) hnp
      have hw := wrap_succ (show n < 5000 by omega) (by omega)
      have hxs := rowV_set (l := xM d n (i + 1)) (n := i) (v := (d.getD i default).getD m default) (by omega)
      rw [hxu hq] at hxs
      have hup := hup hq
      exact gen_again hI (n + 1) (by omega) (by show N - (n + 1) < N - n; omega) (Weak.keepL (by simp [E2s, hw, xOb, ends]) (by simp only [E2s, xOb, xOb, atOb, hxs, hup, ends, ite_true, ite_false, reduceIte, Nat.reduceEqDiff, Nat.reduceLeDiff, Nat.reduceLT, Nat.reduceAdd, reduceCtorEq, num, boo, str, ints, aV, aTab, aRow, rRow, vE] <;> simp [vE, ends]) (by simp [E2s, xOb, ends]))
    · have hq : ¬ m < (d.getD i default).length := by simpa using q
      have hov := hov hq
      have hxo := hxo hq
      have hvs := rowV_set (l := xM d n (i + 1)) (n := i) (v := (d.getD i default).getD 0 default) (by omega)
      rw [hxo] at hvs
      have his := rowI_set (l := av) (n := i) (v := 0) (by omega)
      rw [hov] at his
      have wi : IntKind.i64.wrap ((i : Int) - 1) = (i : Int) - 1 := wrap_eq (by omega) (by omega)
      refine ⟨⟨by omega, by omega⟩, by omega, ⟨⟨by omega, by omega⟩, hal2.symm⟩, ⟨hal2.symm, by omega, by omega⟩, ⟨⟨by omega, by omega⟩, hxl.symm⟩, ⟨hxl.symm, by omega, by omega⟩, ?_⟩
      refine gen_again hJ i ⟨by omega, (dig_over hf hi hk2 (by rw [hm]; exact hq)).2⟩ (by show i < i + 1; omega) (Weak.keepL (by simp [E3s, wi, xOb, ends]) ?_ (by simp [E3s, xOb, ends]))
      simp only [E3s, xOb, xOb, atOb, hvs, his, ends, ite_true, ite_false, reduceIte, Nat.reduceEqDiff, Nat.reduceLeDiff, Nat.reduceLT, Nat.reduceAdd, reduceCtorEq, num, boo, str, ints, aV, aTab, aRow, rRow, vE] <;> simp [vE, ends]
  · have hk0 : k = 0 := by simp only [decide_eq_false_iff_not] at g; omega
    subst hk0
    rw [List.drop_zero] at hk2
    have hlast := last_point hnp hk2
    have hnN : n = N := by omega
    have d0 : decide (((0 : Nat) : Int) - 1 < 0) = true := by decide
    simp -implicitDefEqProofs only [d0, ↓steps, push_cast, simprocAttr, tte]
    try rw [← hlast]
    refine ret_ren 500 1003 trivial (by decide) (by decide) rfl rfl rfl ?_ ?_
    · simp [renO, Ob.ren, A.ren, renL, ren1to, vE, ends]
    · simp [renO, ren1to, vE, ends]
theorem c_eachI {d : List Row} (hf : Full d) (hl : d.length ≤ 12) (hp : prodL d ≤ 5000) (hll : ∀ l ∈ d, l.length ≤ 5000) (a b : Ex) {N : Nat} (hN : N + 1 = prodL d)
    (hc : ∀ k, k < prodL d → ACall Tryz.prog 58 [num k, .vec 1009 d.length, .ptr 1000 0, .ptr 1001 0, .ptr 1002 0, .ptr 1003 0] ([(1000, .var (vE a)), (1001, .var (vE b)), (1002, .var [boo true]), (1003, .var [.snil])] ++ [(1009, xOb (ptM d k) 0)]) (boo true) ([(1000, .var (vE a)), (1001, .var (vE b)), (1002, .var [boo true]), (1003, .var [.snil])] ++ [(1009, xOb (ptM d k) 0)])) :
    ACall Tryz.prog 52 [aTab d, .clo 58 [.ptr 1000 0, .ptr 1001 0, .ptr 1002 0, .ptr 1003 0]] ([(1000, .var (vE a)), (1001, .var (vE b)), (1002, .var [boo true]), (1003, .var [.snil])]) (.tup []) ([(1000, .var (vE a)), (1001, .var (vE b)), (1002, .var [boo true]), (1003, .var [.snil])]) := by
  refine enterq mixed ttok Tryz.func52 Tryz.ntmps52 Tryz.results52 ?_
  simp -implicitDefEqProofs only [xOb, argT, aTab, ↓steps, push_cast, simprocAttr, tte]
  refine ⟨⟨by omega, by omega, by omega⟩, ⟨by omega, by omega, by omega⟩, ?_⟩
  refine loop_gen mixed ttok (fun n : Nat => E1s d (.clo 58 [.ptr 1000 0, .ptr 1001 0, .ptr 1002 0, .ptr 1003 0]) ([(1000, .var (vE a)), (1001, .var (vE b)), (1002, .var [boo true]), (1003, .var [.snil])]) n) (fun n => d.length - n) (fun n => n ≤ d.length) 0 (Nat.zero_le _) ?_ ?_
  · exact Weak.keepL (by simp [E1s, xOb, ends]) (by simp [E1s, xOb, xOb, atOb, x0_zero, at_zero, ends]) (by simp [E1s, xOb, ends])
  intro I hI n hn
  have hxl := x0_length d n
  simp -implicitDefEqProofs only [E1s, xOb, atOb, xOb, aTab, rRow, List.cons_append, List.nil_append, ↓steps, push_cast, simprocAttr, tte]
  refine bcase_intro (fun h => ?_) fun h => ?_
  · have h' : n < d.length := by simpa using h
    have hw := wrap_succ h' (by omega)
    have hs := congrArg (rowsOf rV) (x0_set h')
    rw [← rows_setV] at hs
    simp only [List.getD_eq_getElem?_getD] at hs
    have hd3 := drop3 (l := x0 d n) (n := n) (by omega)
    have hfl := hf.at h'
    refine ⟨⟨by omega, by omega⟩, by omega, ⟨⟨by omega, by omega⟩, hxl.symm⟩, ⟨hxl.symm, by omega, by omega⟩, ?_⟩
    exact gen_again hI (n + 1) h' (by show d.length - (n + 1) < d.length - n; omega) (Weak.keepL (by simp [E1s, xOb, hw, ends]) (by simp [E1s, xOb, xOb, atOb, hd3, hs, ends]) (by simp [E1s, xOb, ends]))
  have hnn : n = d.length := by have := of_decide_eq_false h; omega
  subst hnn
  rw [x0_full]
  clear hI I h hxl
  refine loop_gen mixed ttok (fun n : Nat => E2s d (.clo 58 [.ptr 1000 0, .ptr 1001 0, .ptr 1002 0, .ptr 1003 0]) (fun k => [(1000, .var (vE a)), (1001, .var (vE b)), (1002, .var [boo true]), (1003, .var [.snil])]) n) (fun n => N - n) (fun n => n ≤ N) 0 (Nat.zero_le _) ?_ ?_
  · exact Weak.keepL (by simp [E2s, xOb, ends]) (by simp [E2s, xOb, xOb, atOb, ends]) (by simp [E2s, xOb, ends])
  intro I hI n hn
  have hxl := xM_length d n d.length
  have hal := atM_length d n d.length
  have hpt := xM_full d n
  simp -implicitDefEqProofs only [E2s, xOb, atOb, xOb, aTab, rRow, List.cons_append, List.nil_append, ↓steps, push_cast, simprocAttr, tte]
  have hcn := hc n (by omega)
  rw [hpt]
  simp only [xOb, List.cons_append, List.nil_append] at hcn
  refine callx_ofV [(1000, 1000), (1001, 1001), (1002, 1002), (1003, 1003), (1009, 15)] (view_raw _ _) (hcn) (by simp [vE, ends, bs]) (by simp [ends, bs]) (by simp [vE, ends]) (by simp [idsOk, lookO, updO, ren1]) ?_
  simp -implicitDefEqProofs only [↓steps, push_cast, simprocAttr, tte]
  -- the next point
  have wl : IntKind.i64.wrap ((d.length : Int) - 1) = (d.length : Int) - 1 := wrap_eq (by omega) (by omega)
  have hnp : n < prodL d := by omega
  rw [← hpt]
  refine loop_gen mixed ttok (fun k : Nat => E3s d (.clo 58 [.ptr 1000 0, .ptr 1001 0, .ptr 1002 0, .ptr 1003 0]) ([(1000, .var (vE a)), (1001, .var (vE b)), (1002, .var [boo true]), (1003, .var [.snil])]) n k) (fun k => k) (fun k => k ≤ d.length ∧ prodL (d.drop k) ∣ n + 1) d.length ⟨Nat.le_refl _, by rw [List.drop_length]; exact Nat.one_dvd _⟩ ?_ ?_
  · exact Weak.keepL (by simp [E3s, xOb, wl, ends]) (by simp [E3s, xOb, xOb, atOb, hpt, ends]) (by simp [E3s, xOb, ends])
  intro J hJ k hk
  obtain ⟨hk1, hk2⟩ := hk
  have hxl := xM_length d n k
  have hal := atM_length d n k
  simp -implicitDefEqProofs only [E3s, xOb, atOb, xOb, aTab, rRow, List.cons_append, List.nil_append, ↓steps, push_cast, simprocAttr, tte]
  refine bcase_intro (fun g => ?_) fun g => ?_
  · have hk0 : 0 < k := by simp only [decide_eq_true_eq] at g; omega
    obtain ⟨i, rfl⟩ : ∃ i, k = i + 1 := ⟨k - 1, by omega⟩
    have hi : i < d.length := by omega
    have ei : (((i + 1 : Nat) : Int) - 1) = (i : Int) := by omega
    have hfl := hf.at hi
    have hdl := dig_lt hf hi n
    have hlb := hll _ (getD_mem hi)
    have hag : (atM d n (i + 1)).getD i default = (dig d i n : Int) := by rw [atM_get hi, if_pos (by omega)]
    have wd : IntKind.i64.wrap ((dig d i n : Int) + 1) = ((dig d i n + 1 : Nat) : Int) := by rw [wrap_eq (by omega) (by omega)]; rfl
    have hset := rowI_set (l := atM d n (i + 1)) (n := i) (v := ((dig d i n + 1 : Nat) : Int)) (by omega)
    have hag2 : ((atM d n (i + 1)).set i ((dig d i n + 1 : Nat) : Int)).getD i default = ((dig d i n + 1 : Nat) : Int) := by simp [List.getD_eq_getElem?_getD, hal, hi]
    have hal2 : ((atM d n (i + 1)).set i ((dig d i n + 1 : Nat) : Int)).length = d.length := by rw [List.length_set]; exact hal
    simp only [ei, hag, wd, Int.toNat_natCast, hset]
    have hss : (atM d n (i + 1)).set i 0 = ((atM d n (i + 1)).set i ((dig d i n + 1 : Nat) : Int)).set i 0 := by rw [List.set_set]
    have hup := atM_up hf hi hk2
    have hov := atM_over hf hi hk2
    rw [hss] at hov
    clear hss
    have hxu := xM_up hf hi hk2
    have hxo := xM_over hf hi hk2
    obtain ⟨m, hm⟩ : ∃ m, dig d i n + 1 = m := ⟨_, rfl⟩
    rw [hm] at hag2 hup hov hal2 hxu hxo ⊢
    generalize (atM d n (i + 1)).set i (m : Int) = av at hag2 hal2 hup hov ⊢
    simp -implicitDefEqProofs only [hag2, Int.toNat_natCast, ↓steps, push_cast, simprocAttr, tte]
    refine ⟨⟨⟨by omega, by omega⟩, hal.symm⟩, by omega, hal.symm, ⟨⟨by omega, by omega⟩, hal.symm⟩, ⟨hal.symm, by omega, by omega⟩, ⟨⟨by omega, by omega⟩, hal2.symm⟩, by omega, hal2.symm, ⟨by omega, by omega⟩, drawx_intro (by kernel_rfl), ?_⟩
    refine bcase_intro (fun q => ?_) fun q => ?_
    · have hq : m < (d.getD i default).length := by simpa using q
      refine ⟨⟨by omega, by omega⟩, ⟨⟨by omega, by omega⟩, hal2.symm⟩, by omega, hal2.symm, ⟨by omega, by omega⟩, ⟨⟨by omega, by omega⟩, hxl.symm⟩, ⟨hxl.symm, by omega, by omega⟩, drawx_intro (by kernel_rfl), ?_⟩
      refine bcase_intro (fun h => absurd h (by simp)) fun _ => ?_
      have hlt : n + 1 < prodL d := next_lt hf hi hk2 (by omega) hnp
      have hw := wrap_succ (show n < 5000 by omega) (by omega)
      have hxs := rowV_set (l := xM d n (i + 1)) (n := i) (v := (d.getD i default).getD m default) (by omega)
      rw [hxu hq] at hxs
      have hup := hup hq
      exact gen_again hI (n + 1) (by omega) (by show N - (n + 1) < N - n; omega) (Weak.keepL (by simp [E2s, hw, xOb, ends]) (by simp only [E2s, xOb, xOb, atOb, hxs, hup, ends, ite_true, ite_false, reduceIte, Nat.reduceEqDiff, Nat.reduceLeDiff, Nat.reduceLT, Nat.reduceAdd, reduceCtorEq, num, boo, str, ints, aV, aTab, aRow, rRow, vE] <;> simp [vE, ends]) (by simp [E2s, xOb, ends]))
    · have hq : ¬ m < (d.getD i default).length := by simpa using q
      have hov := hov hq
      have hxo := hxo hq
      have hvs := rowV_set (l := xM d n (i + 1)) (n := i) (v := (d.getD i default).getD 0 default) (by omega)
      rw [hxo] at hvs
      have his := rowI_set (l := av) (n := i) (v := 0) (by omega)
      rw [hov] at his
      have wi : IntKind.i64.wrap ((i : Int) - 1) = (i : Int) - 1 := wrap_eq (by omega) (by omega)
      refine ⟨⟨by omega, by omega⟩, by omega, ⟨⟨by omega, by omega⟩, hal2.symm⟩, ⟨hal2.symm, by omega, by omega⟩, ⟨⟨by omega, by omega⟩, hxl.symm⟩, ⟨hxl.symm, by omega, by omega⟩, ?_⟩
      refine gen_again hJ i ⟨by omega, (dig_over hf hi hk2 (by rw [hm]; exact hq)).2⟩ (by show i < i + 1; omega) (Weak.keepL (by simp [E3s, wi, xOb, ends]) ?_ (by simp [E3s, xOb, ends]))
      simp only [E3s, xOb, xOb, atOb, hvs, his, ends, ite_true, ite_false, reduceIte, Nat.reduceEqDiff, Nat.reduceLeDiff, Nat.reduceLT, Nat.reduceAdd, reduceCtorEq, num, boo, str, ints, aV, aTab, aRow, rRow, vE] <;> simp [vE, ends]
  · have hk0 : k = 0 := by simp only [decide_eq_false_iff_not] at g; omega
    subst hk0
    rw [List.drop_zero] at hk2
    have hlast := last_point hnp hk2
    have hnN : n = N := by omega
    have d0 : decide (((0 : Nat) : Int) - 1 < 0) = true := by decide
    simp -implicitDefEqProofs only [d0, ↓steps, push_cast, simprocAttr, tte]
    try rw [← hlast]
    exact ret_as trivial rfl (by simp [vE, ends]) (by simp [vE, ends])
theorem c_eachIs {d : List Row} (hf : Full d) (hl : d.length ≤ 12) (hp : prodL d ≤ 5000) (hll : ∀ l ∈ d, l.length ≤ 5000) (a b : Ex) {N : Nat} (hN : N < prodL d)
    (hc : ∀ k, k < N → ACall Tryz.prog 58 [num k, .vec 1009 d.length, .ptr 1000 0, .ptr 1001 0, .ptr 1002 0, .ptr 1003 0] ([(1000, .var (vE a)), (1001, .var (vE b)), (1002, .var [boo true]), (1003, .var [.snil])] ++ [(1009, xOb (ptM d k) 0)]) (boo true) ([(1000, .var (vE a)), (1001, .var (vE b)), (1002, .var [boo true]), (1003, .var [.snil])] ++ [(1009, xOb (ptM d k) 0)])) (hs : ACall Tryz.prog 58 [num N, .vec 1009 d.length, .ptr 1000 0, .ptr 1001 0, .ptr 1002 0, .ptr 1003 0] ([(1000, .var (vE a)), (1001, .var (vE b)), (1002, .var [boo true]), (1003, .var [.snil])] ++ [(1009, xOb (ptM d N) 0)]) (boo false) ([(1000, .var (vE a)), (1001, .var (vE b)), (1002, .var [boo false]), (1003, .var [.d (.sl 3 (rowsOf rV (ptM d N)))])] ++ [(1009, xOb (ptM d N) d.length)])) :
    ACall Tryz.prog 52 [aTab d, .clo 58 [.ptr 1000 0, .ptr 1001 0, .ptr 1002 0, .ptr 1003 0]] ([(1000, .var (vE a)), (1001, .var (vE b)), (1002, .var [boo true]), (1003, .var [.snil])]) (.tup []) ([(1000, .var (vE a)), (1001, .var (vE b)), (1002, .var [boo false]), (1003, .var [.d (.sl 3 (rowsOf rV (ptM d N)))])]) := by
  refine enterq mixed ttok Tryz.func52 Tryz.ntmps52 Tryz.results52 ?_
  simp -implicitDefEqProofs only [xOb, argT, aTab, ↓steps, push_cast, simprocAttr, tte]
  refine ⟨⟨by omega, by omega, by omega⟩, ⟨by omega, by omega, by omega⟩, ?_⟩
  refine loop_gen mixed ttok (fun n : Nat => E1s d (.clo 58 [.ptr 1000 0, .ptr 1001 0, .ptr 1002 0, .ptr 1003 0]) ([(1000, .var (vE a)), (1001, .var (vE b)), (1002, .var [boo true]), (1003, .var [.snil])]) n) (fun n => d.length - n) (fun n => n ≤ d.length) 0 (Nat.zero_le _) ?_ ?_
  · exact Weak.keepL (by simp [E1s, xOb, ends]) (by simp [E1s, xOb, xOb, atOb, x0_zero, at_zero, ends]) (by simp [E1s, xOb, ends])
  intro I hI n hn
  have hxl := x0_length d n
  simp -implicitDefEqProofs only [E1s, xOb, atOb, xOb, aTab, rRow, List.cons_append, List.nil_append, ↓steps, push_cast, simprocAttr, tte]
  refine bcase_intro (fun h => ?_) fun h => ?_
  · have h' : n < d.length := by simpa using h
    have hw := wrap_succ h' (by omega)
    have hs := congrArg (rowsOf rV) (x0_set h')
    rw [← rows_setV] at hs
    simp only [List.getD_eq_getElem?_getD] at hs
    have hd3 := drop3 (l := x0 d n) (n := n) (by omega)
    have hfl := hf.at h'
    refine ⟨⟨by omega, by omega⟩, by omega, ⟨⟨by omega, by omega⟩, hxl.symm⟩, ⟨hxl.symm, by omega, by omega⟩, ?_⟩
    exact gen_again hI (n + 1) h' (by show d.length - (n + 1) < d.length - n; omega) (Weak.keepL (by simp [E1s, xOb, hw, ends]) (by simp [E1s, xOb, xOb, atOb, hd3, hs, ends]) (by simp [E1s, xOb, ends]))
  have hnn : n = d.length := by have := of_decide_eq_false h; omega
  subst hnn
  rw [x0_full]
  clear hI I h hxl
  refine loop_gen mixed ttok (fun n : Nat => E2s d (.clo 58 [.ptr 1000 0, .ptr 1001 0, .ptr 1002 0, .ptr 1003 0]) (fun k => [(1000, .var (vE a)), (1001, .var (vE b)), (1002, .var [boo true]), (1003, .var [.snil])]) n) (fun n => N - n) (fun n => n ≤ N) 0 (Nat.zero_le _) ?_ ?_
  · exact Weak.keepL (by simp [E2s, xOb, ends]) (by simp [E2s, xOb, xOb, atOb, ends]) (by simp [E2s, xOb, ends])
  intro I hI n hn
  have hxl := xM_length d n d.length
  have hal := atM_length d n d.length
  have hpt := xM_full d n
  simp -implicitDefEqProofs only [E2s, xOb, atOb, xOb, aTab, rRow, List.cons_append, List.nil_append, ↓steps, push_cast, simprocAttr, tte]
  by_cases hnN : n = N
  · subst hnN
    have hcn := hs
    rw [hpt]
    simp only [xOb, List.cons_append, List.nil_append] at hcn
    refine callx_ofV [(1000, 1000), (1001, 1001), (1002, 1002), (1003, 1003), (1009, 15)] (view_raw _ _) (hcn) (by simp [vE, ends, bs]) (by simp [ends, bs]) (by simp [vE, ends]) (by simp [idsOk, lookO, updO, ren1]) ?_
    simp -implicitDefEqProofs only [↓steps, push_cast, simprocAttr, tte]
    exact ret_as trivial rfl (by simp [vE, ends]) (by simp [vE, ends])
  have hlt0 : n < N := by omega
  have hcn := hc n hlt0
  rw [hpt]
  simp only [xOb, List.cons_append, List.nil_append] at hcn
  refine callx_ofV [(1000, 1000), (1001, 1001), (1002, 1002), (1003, 1003), (1009, 15)] (view_raw _ _) (hcn) (by simp [vE, ends, bs]) (by simp [ends, bs]) (by simp [vE, ends]) (by simp [idsOk, lookO, updO, ren1]) ?_
  simp -implicitDefEqProofs only [↓steps, push_cast, simprocAttr, tte]
  -- the next point
  have wl : IntKind.i64.wrap ((d.length : Int) - 1) = (d.length : Int) - 1 := wrap_eq (by omega) (by omega)
  have hnp : n < prodL d := by omega
  rw [← hpt]
  refine loop_gen mixed ttok (fun k : Nat => E3s d (.clo 58 [.ptr 1000 0, .ptr 1001 0, .ptr 1002 0, .ptr 1003 0]) ([(1000, .var (vE a)), (1001, .var (vE b)), (1002, .var [boo true]), (1003, .var [.snil])]) n k) (fun k => k) (fun k => k ≤ d.length ∧ prodL (d.drop k) ∣ n + 1) d.length ⟨Nat.le_refl _, by rw [List.drop_length]; exact Nat.one_dvd _⟩ ?_ ?_
  · exact Weak.keepL (by simp [E3s, xOb, wl, ends]) (by simp [E3s, xOb, xOb, atOb, hpt, ends]) (by simp [E3s, xOb, ends])
  intro J hJ k hk
  obtain ⟨hk1, hk2⟩ := hk
  have hxl := xM_length d n k
  have hal := atM_length d n k
  simp -implicitDefEqProofs only [E3s, xOb, atOb, xOb, aTab, rRow, List.cons_append, List.nil_append, ↓steps, push_cast, simprocAttr, tte]
  refine bcase_intro (fun g => ?_) fun g => ?_
  · have hk0 : 0 < k := by simp only [decide_eq_true_eq] at g; omega
    obtain ⟨i, rfl⟩ : ∃ i, k = i + 1 := ⟨k - 1, by omega⟩
    have hi : i < d.length := by omega
    have ei : (((i + 1 : Nat) : Int) - 1) = (i : Int) := by omega
    have hfl := hf.at hi
    have hdl := dig_lt hf hi n
    have hlb := hll _ (getD_mem hi)
    have hag : (atM d n (i + 1)).getD i default = (dig d i n : Int) := by rw [atM_get hi, if_pos (by omega)]
    have wd : IntKind.i64.wrap ((dig d i n : Int) + 1) = ((dig d i n + 1 : Nat) : Int) := by rw [wrap_eq (by omega) (by omega)]; rfl
    have hset := rowI_set (l := atM d n (i + 1)) (n := i) (v := ((dig d i n + 1 : Nat) : Int)) (by omega)
    have hag2 : ((atM d n (i + 1)).set i ((dig d i n + 1 : Nat) : Int)).getD i default = ((dig d i n + 1 : Nat) : Int) := by simp [List.getD_eq_getElem?_getD, hal, hi]
    have hal2 : ((atM d n (i + 1)).set i ((dig d i n + 1 : Nat) : Int)).length = d.length := by rw [List.length_set]; exact hal
    simp only [ei, hag, wd, Int.toNat_natCast, hset]
    have hss : (atM d n (i + 1)).set i 0 = ((atM d n (i + 1)).set i ((dig d i n + 1 : Nat) : Int)).set i 0 := by rw [List.set_set]
    have hup := atM_up hf hi hk2
    have hov := atM_over hf hi hk2
    rw [hss] at hov
    clear hss
    have hxu := xM_up hf hi hk2
    have hxo := xM_over hf hi hk2
    obtain ⟨m, hm⟩ : ∃ m, dig d i n + 1 = m := ⟨_, rfl⟩
    rw [hm] at hag2 hup hov hal2 hxu hxo ⊢
    generalize (atM d n (i + 1)).set i (m : Int) = av at hag2 hal2 hup hov ⊢
    simp -implicitDefEqProofs only [hag2, Int.toNat_natCast, ↓steps, push_cast, simprocAttr, tte]
    refine ⟨⟨⟨by omega, by omega⟩, hal.symm⟩, by omega, hal.symm, ⟨⟨by omega, by omega⟩, hal.symm⟩, ⟨hal.symm, by omega, by omega⟩, ⟨⟨by omega, by omega⟩, hal2.symm⟩, by omega, hal2.symm, ⟨by omega, by omega⟩, drawx_intro (by kernel_rfl), ?_⟩
    refine bcase_intro (fun q => ?_) fun q => ?_
    · have hq : m < (d.getD i default).length := by simpa using q
      refine ⟨⟨by omega, by omega⟩, ⟨⟨by omega, by omega⟩, hal2.symm⟩, by omega, hal2.symm, ⟨by omega, by omega⟩, ⟨⟨by omega, by omega⟩, hxl.symm⟩, ⟨hxl.symm, by omega, by omega⟩, drawx_intro (by kernel_rfl), ?_⟩
      refine bcase_intro (fun h => absurd h (by simp)) fun _ => ?_
      have hlt : n + 1 < prodL d := next_lt hf hi hk2 (by omega) hnp
      have hw := wrap_succ (show n < 5000 by omega) (by omega)
      have hxs := rowV_set (l := xM d n (i + 1)) (n := i) (v := (d.getD i default).getD m default) (by omega)
      rw [hxu hq] at hxs
      have hup := hup hq
      exact gen_again hI (n + 1) (by omega) (by show N - (n + 1) < N - n; omega) (Weak.keepL (by simp [E2s, hw, xOb, ends]) (by simp only [E2s, xOb, xOb, atOb, hxs, hup, ends, ite_true, ite_false, reduceIte, Nat.reduceEqDiff, Nat.reduceLeDiff, Nat.reduceLT, Nat.reduceAdd, reduceCtorEq, num, boo, str, ints, aV, aTab, aRow, rRow, vE] <;> simp [vE, ends]) (by simp [E2s, xOb, ends]))
    · have hq : ¬ m < (d.getD i default).length := by simpa using q
      have hov := hov hq
      have hxo := hxo hq
      have hvs := rowV_set (l := xM d n (i + 1)) (n := i) (v := (d.getD i default).getD 0 default) (by omega)
      rw [hxo] at hvs
      have his := rowI_set (l := av) (n := i) (v := 0) (by omega)
      rw [hov] at his
      have wi : IntKind.i64.wrap ((i : Int) - 1) = (i : Int) - 1 := wrap_eq (by omega) (by omega)
      refine ⟨⟨by omega, by omega⟩, by omega, ⟨⟨by omega, by omega⟩, hal2.symm⟩, ⟨hal2.symm, by omega, by omega⟩, ⟨⟨by omega, by omega⟩, hxl.symm⟩, ⟨hxl.symm, by omega, by omega⟩, ?_⟩
      refine gen_again hJ i ⟨by omega, (dig_over hf hi hk2 (by rw [hm]; exact hq)).2⟩ (by show i < i + 1; omega) (Weak.keepL (by simp [E3s, wi, xOb, ends]) ?_ (by simp [E3s, xOb, ends]))
      simp only [E3s, xOb, xOb, atOb, hvs, his, ends, ite_true, ite_false, reduceIte, Nat.reduceEqDiff, Nat.reduceLeDiff, Nat.reduceLT, Nat.reduceAdd, reduceCtorEq, num, boo, str, ints, aV, aTab, aRow, rRow, vE] <;> simp [vE, ends]
  · have hk0 : k = 0 := by simp only [decide_eq_false_iff_not] at g; omega
    subst hk0
    rw [List.drop_zero] at hk2
    have hlast := last_point hnp hk2
    exfalso
    omega
theorem c_eachY {d : List Row} (hf : Full d) (hl : d.length ≤ 12) (hp : prodL d ≤ 5000) (hll : ∀ l ∈ d, l.length ≤ 5000) (e : Ex) {ks ps : List Nat} {asg bd : Code} {N : Nat} (hN : N + 1 = prodL d)
    (hc : ∀ k, k < prodL d → AYield Tryz.prog 1000 [num k, .vec 1009 d.length] ([(1000, .x (.lp ks ps asg bd .ready) [.ptr 1001 0, .ptr 1002 0, .ptr 1003 0]), (1001, .var (vE e)), (1002, .var [.snil]), (1003, .var [num 0])] ++ [(1009, xOb (ptM d k) 0)]) (boo true) ([(1000, .x (.lp ks ps asg bd .ready) [.ptr 1001 0, .ptr 1002 0, .ptr 1003 0]), (1001, .var (vE e)), (1002, .var [.snil]), (1003, .var [num 0])] ++ [(1009, xOb (ptM d k) 0)])) :
    ACall Tryz.prog 52 [aTab d, .xo true 1000] ([(1000, .x (.lp ks ps asg bd .ready) [.ptr 1001 0, .ptr 1002 0, .ptr 1003 0]), (1001, .var (vE e)), (1002, .var [.snil]), (1003, .var [num 0])]) (.tup []) ([(1000, .x (.lp ks ps asg bd .ready) [.ptr 1001 0, .ptr 1002 0, .ptr 1003 0]), (1001, .var (vE e)), (1002, .var [.snil]), (1003, .var [num 0])]) := by
  refine enterq mixed ttok Tryz.func52 Tryz.ntmps52 Tryz.results52 ?_
  simp -implicitDefEqProofs only [xOb, argT, aTab, ↓steps, push_cast, simprocAttr, tte]
  refine ⟨⟨by omega, by omega, by omega⟩, ⟨by omega, by omega, by omega⟩, ?_⟩
  refine loop_gen mixed ttok (fun n : Nat => E1s d (.xo true 1000) ([(1000, .x (.lp ks ps asg bd .ready) [.ptr 1001 0, .ptr 1002 0, .ptr 1003 0]), (1001, .var (vE e)), (1002, .var [.snil]), (1003, .var [num 0])]) n) (fun n => d.length - n) (fun n => n ≤ d.length) 0 (Nat.zero_le _) ?_ ?_
  · exact Weak.keepL (by simp [E1s, xOb, ends]) (by simp [E1s, xOb, xOb, atOb, x0_zero, at_zero, ends]) (by simp [E1s, xOb, ends])
  intro I hI n hn
  have hxl := x0_length d n
  simp -implicitDefEqProofs only [E1s, xOb, atOb, xOb, aTab, rRow, List.cons_append, List.nil_append, ↓steps, push_cast, simprocAttr, tte]
  refine bcase_intro (fun h => ?_) fun h => ?_
  · have h' : n < d.length := by simpa using h
    have hw := wrap_succ h' (by omega)
    have hs := congrArg (rowsOf rV) (x0_set h')
    rw [← rows_setV] at hs
    simp only [List.getD_eq_getElem?_getD] at hs
    have hd3 := drop3 (l := x0 d n) (n := n) (by omega)
    have hfl := hf.at h'
    refine ⟨⟨by omega, by omega⟩, by omega, ⟨⟨by omega, by omega⟩, hxl.symm⟩, ⟨hxl.symm, by omega, by omega⟩, ?_⟩
    exact gen_again hI (n + 1) h' (by show d.length - (n + 1) < d.length - n; omega) (Weak.keepL (by simp [E1s, xOb, hw, ends]) (by simp [E1s, xOb, xOb, atOb, hd3, hs, ends]) (by simp [E1s, xOb, ends]))
  have hnn : n = d.length := by have := of_decide_eq_false h; omega
  subst hnn
  rw [x0_full]
  clear hI I h hxl
  refine loop_gen mixed ttok (fun n : Nat => E2s d (.xo true 1000) (fun k => [(1000, .x (.lp ks ps asg bd .ready) [.ptr 1001 0, .ptr 1002 0, .ptr 1003 0]), (1001, .var (vE e)), (1002, .var [.snil]), (1003, .var [num 0])]) n) (fun n => N - n) (fun n => n ≤ N) 0 (Nat.zero_le _) ?_ ?_
  · exact Weak.keepL (by simp [E2s, xOb, ends]) (by simp [E2s, xOb, xOb, atOb, ends]) (by simp [E2s, xOb, ends])
  intro I hI n hn
  have hxl := xM_length d n d.length
  have hal := atM_length d n d.length
  have hpt := xM_full d n
  simp -implicitDefEqProofs only [E2s, xOb, atOb, xOb, aTab, rRow, List.cons_append, List.nil_append, ↓steps, push_cast, simprocAttr, tte]
  have hcn := hc n (by omega)
  rw [hpt]
  simp only [xOb, List.cons_append, List.nil_append] at hcn
  refine callx_ofVy [(1000, 1000), (1001, 1001), (1002, 1002), (1003, 1003), (1009, 15)] (view_raw _ _) hcn rfl rfl (by simp [ends, bs]) (by simp [ends, bs]) (by simp [vE, ends]) (by simp [idsOk, lookO, updO, ren1]) ?_
  simp -implicitDefEqProofs only [↓steps, push_cast, simprocAttr, tte]
  -- the next point
  have wl : IntKind.i64.wrap ((d.length : Int) - 1) = (d.length : Int) - 1 := wrap_eq (by omega) (by omega)
  have hnp : n < prodL d := by omega
  rw [← hpt]
  refine loop_gen mixed ttok (fun k : Nat => E3s d (.xo true 1000) ([(1000, .x (.lp ks ps asg bd .ready) [.ptr 1001 0, .ptr 1002 0, .ptr 1003 0]), (1001, .var (vE e)), (1002, .var [.snil]), (1003, .var [num 0])]) n k) (fun k => k) (fun k => k ≤ d.length ∧ prodL (d.drop k) ∣ n + 1) d.length ⟨Nat.le_refl _, by rw [List.drop_length]; exact Nat.one_dvd _⟩ ?_ ?_
  · exact Weak.keepL (by simp [E3s, xOb, wl, ends]) (by simp [E3s, xOb, xOb, atOb, hpt, ends]) (by simp [E3s, xOb, ends])
  intro J hJ k hk
  obtain ⟨hk1, hk2⟩ := hk
  have hxl := xM_length d n k
  have hal := atM_length d n k
  simp -implicitDefEqProofs only [E3s, xOb, atOb, xOb, aTab, rRow, List.cons_append, List.nil_append, ↓steps, push_cast, simprocAttr, tte]
  refine bcase_intro (fun g => ?_) fun g => ?_
  · have hk0 : 0 < k := by simp only [decide_eq_true_eq] at g; omega
    obtain ⟨i, rfl⟩ : ∃ i, k = i + 1 := ⟨k - 1, by omega⟩
    have hi : i < d.length := by omega
    have ei : (((i + 1 : Nat) : Int) - 1) = (i : Int) := by omega
    have hfl := hf.at hi
    have hdl := dig_lt hf hi n
    have hlb := hll _ (getD_mem hi)
    have hag : (atM d n (i + 1)).getD i default = (dig d i n : Int) := by rw [atM_get hi, if_pos (by omega)]
    have wd : IntKind.i64.wrap ((dig d i n : Int) + 1) = ((dig d i n + 1 : Nat) : Int) := by rw [wrap_eq (by omega) (by omega)]; rfl
    have hset := rowI_set (l := atM d n (i + 1)) (n := i) (v := ((dig d i n + 1 : Nat) : Int)) (by omega)
    have hag2 : ((atM d n (i + 1)).set i ((dig d i n + 1 : Nat) : Int)).getD i default = ((dig d i n + 1 : Nat) : Int) := by simp [List.getD_eq_getElem?_getD, hal, hi]
    have hal2 : ((atM d n (i + 1)).set i ((dig d i n + 1 : Nat) : Int)).length = d.length := by rw [List.length_set]; exact hal
    simp only [ei, hag, wd, Int.toNat_natCast, hset]
    have hss : (atM d n (i + 1)).set i 0 = ((atM d n (i + 1)).set i ((dig d i n + 1 : Nat) : Int)).set i 0 := by rw [List.set_set]
    have hup := atM_up hf hi hk2
    have hov := atM_over hf hi hk2
    rw [hss] at hov
    clear hss
    have hxu := xM_up hf hi hk2
    have hxo := xM_over hf hi hk2
    obtain ⟨m, hm⟩ : ∃ m, dig d i n + 1 = m := ⟨_, rfl⟩
    rw [hm] at hag2 hup hov hal2 hxu hxo ⊢
    generalize (atM d n (i + 1)).set i (m : Int) = av at hag2 hal2 hup hov ⊢
    simp -implicitDefEqProofs only [hag2, Int.toNat_natCast, ↓steps, push_cast, simprocAttr, tte]
    refine ⟨⟨⟨by omega, by omega⟩, hal.symm⟩, by omega, hal.symm, ⟨⟨by omega, by omega⟩, hal.symm⟩, ⟨hal.symm, by omega, by omega⟩, ⟨⟨by omega, by omega⟩, hal2.symm⟩, by omega, hal2.symm, ⟨by omega, by omega⟩, drawx_intro (by kernel_rfl), ?_⟩
    refine bcase_intro (fun q => ?_) fun q => ?_
    · have hq : m < (d.getD i default).length := by simpa using q
      refine ⟨⟨by omega, by omega⟩, ⟨⟨by omega, by omega⟩, hal2.symm⟩, by omega, hal2.symm, ⟨by omega, by omega⟩, ⟨⟨by omega, by omega⟩, hxl.symm⟩, ⟨hxl.symm, by omega, by omega⟩, drawx_intro (by kernel_rfl), ?_⟩
      refine bcase_intro (fun h => absurd h (by simp)) fun _ => ?_
      have hlt : n + 1 < prodL d := next_lt hf hi hk2 (by omega) hnp
      have hw := wrap_succ (show n < 5000 by omega) (by omega)
      have hxs := rowV_set (l := xM d n (i + 1)) (n := i) (v := (d.getD i default).getD m default) (by omega)
      rw [hxu hq] at hxs
      have hup := hup hq
      exact gen_again hI (n + 1) (by omega) (by show N - (n + 1) < N - n; omega) (Weak.keepL (by simp [E2s, hw, xOb, ends]) (by simp only [E2s, xOb, xOb, atOb, hxs, hup, ends, ite_true, ite_false, reduceIte, Nat.reduceEqDiff, Nat.reduceLeDiff, Nat.reduceLT, Nat.reduceAdd, reduceCtorEq, num, boo, str, ints, aV, aTab, aRow, rRow, vE] <;> simp [vE, ends]) (by simp [E2s, xOb, ends]))
    · have hq : ¬ m < (d.getD i default).length := by simpa using q
      have hov := hov hq
      have hxo := hxo hq
      have hvs := rowV_set (l := xM d n (i + 1)) (n := i) (v := (d.getD i default).getD 0 default) (by omega)
      rw [hxo] at hvs
      have his := rowI_set (l := av) (n := i) (v := 0) (by omega)
      rw [hov] at his
      have wi : IntKind.i64.wrap ((i : Int) - 1) = (i : Int) - 1 := wrap_eq (by omega) (by omega)
      refine ⟨⟨by omega, by omega⟩, by omega, ⟨⟨by omega, by omega⟩, hal2.symm⟩, ⟨hal2.symm, by omega, by omega⟩, ⟨⟨by omega, by omega⟩, hxl.symm⟩, ⟨hxl.symm, by omega, by omega⟩, ?_⟩
      refine gen_again hJ i ⟨by omega, (dig_over hf hi hk2 (by rw [hm]; exact hq)).2⟩ (by show i < i + 1; omega) (Weak.keepL (by simp [E3s, wi, xOb, ends]) ?_ (by simp [E3s, xOb, ends]))
      simp only [E3s, xOb, xOb, atOb, hvs, his, ends, ite_true, ite_false, reduceIte, Nat.reduceEqDiff, Nat.reduceLeDiff, Nat.reduceLT, Nat.reduceAdd, reduceCtorEq, num, boo, str, ints, aV, aTab, aRow, rRow, vE] <;> simp [vE, ends]
  · have hk0 : k = 0 := by simp only [decide_eq_false_iff_not] at g; omega
    subst hk0
    rw [List.drop_zero] at hk2
    have hlast := last_point hnp hk2
    have hnN : n = N := by omega
    have d0 : decide (((0 : Nat) : Int) - 1 < 0) = true := by decide
    simp -implicitDefEqProofs only [d0, ↓steps, push_cast, simprocAttr, tte]
    try rw [← hlast]
    exact ret_as trivial rfl (by simp [vE, ends]) (by simp [vE, ends])
theorem c_eachYs {d : List Row} (hf : Full d) (hl : d.length ≤ 12) (hp : prodL d ≤ 5000) (hll : ∀ l ∈ d, l.length ≤ 5000) (e : Ex) {ks ps : List Nat} {asg bd : Code} {N : Nat} (hN : N < prodL d)
    (hc : ∀ k, k < N → AYield Tryz.prog 1000 [num k, .vec 1009 d.length] ([(1000, .x (.lp ks ps asg bd .ready) [.ptr 1001 0, .ptr 1002 0, .ptr 1003 0]), (1001, .var (vE e)), (1002, .var [.snil]), (1003, .var [num 0])] ++ [(1009, xOb (ptM d k) 0)]) (boo true) ([(1000, .x (.lp ks ps asg bd .ready) [.ptr 1001 0, .ptr 1002 0, .ptr 1003 0]), (1001, .var (vE e)), (1002, .var [.snil]), (1003, .var [num 0])] ++ [(1009, xOb (ptM d k) 0)])) (hs : AYield Tryz.prog 1000 [num N, .vec 1009 d.length] ([(1000, .x (.lp ks ps asg bd .ready) [.ptr 1001 0, .ptr 1002 0, .ptr 1003 0]), (1001, .var (vE e)), (1002, .var [.snil]), (1003, .var [num 0])] ++ [(1009, xOb (ptM d N) 0)]) (boo false) ([(1000, .x (.lp ks ps asg bd (.done .ret)) [.ptr 1001 0, .ptr 1002 0, .ptr 1003 0]), (1001, .var (vE e)), (1002, .var [.d (.sl 3 (rowsOf rV (ptM d N)))]), (1003, .var [num 0])] ++ [(1009, xOb (ptM d N) d.length)])) :
    ACall Tryz.prog 52 [aTab d, .xo true 1000] ([(1000, .x (.lp ks ps asg bd .ready) [.ptr 1001 0, .ptr 1002 0, .ptr 1003 0]), (1001, .var (vE e)), (1002, .var [.snil]), (1003, .var [num 0])]) (.tup []) ([(1000, .x (.lp ks ps asg bd (.done .ret)) [.ptr 1001 0, .ptr 1002 0, .ptr 1003 0]), (1001, .var (vE e)), (1002, .var [.d (.sl 3 (rowsOf rV (ptM d N)))]), (1003, .var [num 0])]) := by
  refine enterq mixed ttok Tryz.func52 Tryz.ntmps52 Tryz.results52 ?_
  simp -implicitDefEqProofs only [xOb, argT, aTab, ↓steps, push_cast, simprocAttr, tte]
  refine ⟨⟨by omega, by omega, by omega⟩, ⟨by omega, by omega, by omega⟩, ?_⟩
  refine loop_gen mixed ttok (fun n : Nat => E1s d (.xo true 1000) ([(1000, .x (.lp ks ps asg bd .ready) [.ptr 1001 0, .ptr 1002 0, .ptr 1003 0]), (1001, .var (vE e)), (1002, .var [.snil]), (1003, .var [num 0])]) n) (fun n => d.length - n) (fun n => n ≤ d.length) 0 (Nat.zero_le _) ?_ ?_
  · exact Weak.keepL (by simp [E1s, xOb, ends]) (by simp [E1s, xOb, xOb, atOb, x0_zero, at_zero, ends]) (by simp [E1s, xOb, ends])
  intro I hI n hn
  have hxl := x0_length d n
  simp -implicitDefEqProofs only [E1s, xOb, atOb, xOb, aTab, rRow, List.cons_append, List.nil_append, ↓steps, push_cast, simprocAttr, tte]
  refine bcase_intro (fun h => ?_) fun h => ?_
  · have h' : n < d.length := by simpa using h
    have hw := wrap_succ h' (by omega)
    have hs := congrArg (rowsOf rV) (x0_set h')
    rw [← rows_setV] at hs
    simp only [List.getD_eq_getElem?_getD] at hs
    have hd3 := drop3 (l := x0 d n) (n := n) (by omega)
    have hfl := hf.at h'
    refine ⟨⟨by omega, by omega⟩, by omega, ⟨⟨by omega, by omega⟩, hxl.symm⟩, ⟨hxl.symm, by omega, by omega⟩, ?_⟩
    exact gen_again hI (n + 1) h' (by show d.length - (n + 1) < d.length - n; omega) (Weak.keepL (by simp [E1s, xOb, hw, ends]) (by simp [E1s, xOb, xOb, atOb, hd3, hs, ends]) (by simp [E1s, xOb, ends]))
  have hnn : n = d.length := by have := of_decide_eq_false h; omega
  subst hnn
  rw [x0_full]
  clear hI I h hxl
  refine loop_gen mixed ttok (fun n : Nat => E2s d (.xo true 1000) (fun k => [(1000, .x (.lp ks ps asg bd .ready) [.ptr 1001 0, .ptr 1002 0, .ptr 1003 0]), (1001, .var (vE e)), (1002, .var [.snil]), (1003, .var [num 0])]) n) (fun n => N - n) (fun n => n ≤ N) 0 (Nat.zero_le _) ?_ ?_
  · exact Weak.keepL (by simp [E2s, xOb, ends]) (by simp [E2s, xOb, xOb, atOb, ends]) (by simp [E2s, xOb, ends])
  intro I hI n hn
  have hxl := xM_length d n d.length
  have hal := atM_length d n d.length
  have hpt := xM_full d n
  simp -implicitDefEqProofs only [E2s, xOb, atOb, xOb, aTab, rRow, List.cons_append, List.nil_append, ↓steps, push_cast, simprocAttr, tte]
  by_cases hnN : n = N
  · subst hnN
    have hcn := hs
    rw [hpt]
    simp only [xOb, List.cons_append, List.nil_append] at hcn
    refine callx_ofVy [(1000, 1000), (1001, 1001), (1002, 1002), (1003, 1003), (1009, 15)] (view_raw _ _) hcn rfl rfl (by simp [ends, bs]) (by simp [ends, bs]) (by simp [vE, ends]) (by simp [idsOk, lookO, updO, ren1]) ?_
    simp -implicitDefEqProofs only [↓steps, push_cast, simprocAttr, tte]
    exact ret_as trivial rfl (by simp [vE, ends]) (by simp [vE, ends])
  have hlt0 : n < N := by omega
  have hcn := hc n hlt0
  rw [hpt]
  simp only [xOb, List.cons_append, List.nil_append] at hcn
  refine callx_ofVy [(1000, 1000), (1001, 1001), (1002, 1002), (1003, 1003), (1009, 15)] (view_raw _ _) hcn rfl rfl (by simp [ends, bs]) (by simp [ends, bs]) (by simp [vE, ends]) (by simp [idsOk, lookO, updO, ren1]) ?_
  simp -implicitDefEqProofs only [↓steps, push_cast, simprocAttr, tte]
  -- the next point
  have wl : IntKind.i64.wrap ((d.length : Int) - 1) = (d.length : Int) - 1 := wrap_eq (by omega) (by omega)
  have hnp : n < prodL d := by omega
  rw [← hpt]
  refine loop_gen mixed ttok (fun k : Nat => E3s d (.xo true 1000) ([(1000, .x (.lp ks ps asg bd .ready) [.ptr 1001 0, .ptr 1002 0, .ptr 1003 0]), (1001, .var (vE e)), (1002, .var [.snil]), (1003, .var [num 0])]) n k) (fun k => k) (fun k => k ≤ d.length ∧ prodL (d.drop k) ∣ n + 1) d.length ⟨Nat.le_refl _, by rw [List.drop_length]; exact Nat.one_dvd _⟩ ?_ ?_
  · exact Weak.keepL (by simp [E3s, xOb, wl, ends]) (by simp [E3s, xOb, xOb, atOb, hpt, ends]) (by simp [E3s, xOb, ends])
  intro J hJ k hk
  obtain ⟨hk1, hk2⟩ := hk
  have hxl := xM_length d n k
  have hal := atM_length d n k
  simp -implicitDefEqProofs only [E3s, xOb, atOb, xOb, aTab, rRow, List.cons_append, List.nil_append, ↓steps, push_cast, simprocAttr, tte]
  refine bcase_intro (fun g => ?_) fun g => ?_
  · have hk0 : 0 < k := by simp only [decide_eq_true_eq] at g; omega
    obtain ⟨i, rfl⟩ : ∃ i, k = i + 1 := ⟨k - 1, by omega⟩
    have hi : i < d.length := by omega
    have ei : (((i + 1 : Nat) : Int) - 1) = (i : Int) := by omega
    have hfl := hf.at hi
    have hdl := dig_lt hf hi n
    have hlb := hll _ (getD_mem hi)
    have hag : (atM d n (i + 1)).getD i default = (dig d i n : Int) := by rw [atM_get hi, if_pos (by omega)]
    have wd : IntKind.i64.wrap ((dig d i n : Int) + 1) = ((dig d i n + 1 : Nat) : Int) := by rw [wrap_eq (by omega) (by omega)]; rfl
    have hset := rowI_set (l := atM d n (i + 1)) (n := i) (v := ((dig d i n + 1 : Nat) : Int)) (by omega)
    have hag2 : ((atM d n (i + 1)).set i ((dig d i n + 1 : Nat) : Int)).getD i default = ((dig d i n + 1 : Nat) : Int) := by simp [List.getD_eq_getElem?_getD, hal, hi]
    have hal2 : ((atM d n (i + 1)).set i ((dig d i n + 1 : Nat) : Int)).length = d.length := by rw [List.length_set]; exact hal
    simp only [ei, hag, wd, Int.toNat_natCast, hset]
    have hss : (atM d n (i + 1)).set i 0 = ((atM d n (i + 1)).set i ((dig d i n + 1 : Nat) : Int)).set i 0 := by rw [List.set_set]
    have hup := atM_up hf hi hk2
    have hov := atM_over hf hi hk2
    rw [hss] at hov
    clear hss
    have hxu := xM_up hf hi hk2
    have hxo := xM_over hf hi hk2
    obtain ⟨m, hm⟩ : ∃ m, dig d i n + 1 = m := ⟨_, rfl⟩
    rw [hm] at hag2 hup hov hal2 hxu hxo ⊢
    generalize (atM d n (i + 1)).set i (m : Int) = av at hag2 hal2 hup hov ⊢
    simp -implicitDefEqProofs only [hag2, Int.toNat_natCast, ↓steps, push_cast, simprocAttr, tte]
    refine ⟨⟨⟨by omega, by omega⟩, hal.symm⟩, by omega, hal.symm, ⟨⟨by omega, by omega⟩, hal.symm⟩, ⟨hal.symm, by omega, by omega⟩, ⟨⟨by omega, by omega⟩, hal2.symm⟩, by omega, hal2.symm, ⟨by omega, by omega⟩, drawx_intro (by kernel_rfl), ?_⟩
    refine bcase_intro (fun q => ?_) fun q => ?_
    · have hq : m < (d.getD i default).length := by simpa using q
      refine ⟨⟨by omega, by omega⟩, ⟨⟨by omega, by omega⟩, hal2.symm⟩, by omega, hal2.symm, ⟨by omega, by omega⟩, ⟨⟨by omega, by omega⟩, hxl.symm⟩, ⟨hxl.symm, by omega, by omega⟩, drawx_intro (by kernel_rfl), ?_⟩
      refine bcase_intro (fun h => absurd h (by simp)) fun _ => ?_
      have hlt : n + 1 < prodL d := next_lt hf hi hk2 (by omega) hnp
      have hw := wrap_succ (show n < 5000 by omega) (by omega)
      have hxs := rowV_set (l := xM d n (i + 1)) (n := i) (v := (d.getD i default).getD m default) (by omega)
      rw [hxu hq] at hxs
      have hup := hup hq
      exact gen_again hI (n + 1) (by omega) (by show N - (n + 1) < N - n; omega) (Weak.keepL (by simp [E2s, hw, xOb, ends]) (by simp only [E2s, xOb, xOb, atOb, hxs, hup, ends, ite_true, ite_false, reduceIte, Nat.reduceEqDiff, Nat.reduceLeDiff, Nat.reduceLT, Nat.reduceAdd, reduceCtorEq, num, boo, str, ints, aV, aTab, aRow, rRow, vE] <;> simp [vE, ends]) (by simp [E2s, xOb, ends]))
    · have hq : ¬ m < (d.getD i default).length := by simpa using q
      have hov := hov hq
      have hxo := hxo hq
      have hvs := rowV_set (l := xM d n (i + 1)) (n := i) (v := (d.getD i default).getD 0 default) (by omega)
      rw [hxo] at hvs
      have his := rowI_set (l := av) (n := i) (v := 0) (by omega)
      rw [hov] at his
      have wi : IntKind.i64.wrap ((i : Int) - 1) = (i : Int) - 1 := wrap_eq (by omega) (by omega)
      refine ⟨⟨by omega, by omega⟩, by omega, ⟨⟨by omega, by omega⟩, hal2.symm⟩, ⟨hal2.symm, by omega, by omega⟩, ⟨⟨by omega, by omega⟩, hxl.symm⟩, ⟨hxl.symm, by omega, by omega⟩, ?_⟩
      refine gen_again hJ i ⟨by omega, (dig_over hf hi hk2 (by rw [hm]; exact hq)).2⟩ (by show i < i + 1; omega) (Weak.keepL (by simp [E3s, wi, xOb, ends]) ?_ (by simp [E3s, xOb, ends]))
      simp only [E3s, xOb, xOb, atOb, hvs, his, ends, ite_true, ite_false, reduceIte, Nat.reduceEqDiff, Nat.reduceLeDiff, Nat.reduceLT, Nat.reduceAdd, reduceCtorEq, num, boo, str, ints, aV, aTab, aRow, rRow, vE] <;> simp [vE, ends]
  · have hk0 : k = 0 := by simp only [decide_eq_false_iff_not] at g; omega
    subst hk0
    rw [List.drop_zero] at hk2
    have hlast := last_point hnp hk2
    exfalso
    omega
end Go.Proofs.YtiagabnddihchaaGreatDoor
namespace Go.Proofs.YtiagabnddihchaaGreatDoor
open Go.Am
attribute [local simp, local push_cast] num boo str ints aV aTab aRow rRow vE
set_option linter.unusedVariables false
set_option maxRecDepth 100000
set_option maxHeartbeats 4000000
/-! The rounds of each's callers. -/
theorem seen_ev {h : Nat → Option Ob} (e : Ex) {x : Row} {o n fz : Nat} (ho : h o = some (.vec 53 3 (rowsOf rV x) fz)) (hn : n = x.length) : SeenL h ([.agg (vE e), .vec o n] ++ []) [aE e, aRow x] := by
  rw [aE_eq]
  exact seenL_agg (seenL_d (seen_d _ _) (seenL_d (seen_d _ _) (seenL_d (seen_d _ _) (seenL_d (seen_d _ _) (seenL_d (seen_d _ _) (seenL_d (seen_d _ _) (seenL_nil _))))))) (seenL_d (seen_vec ho (by rw [rowsOf_length]; exact hn)) (seenL_nil _))
def valL (v : Val) : List Value := [.int .i64 v.kind, .int .i64 v.num, .string v.text]
theorem truth_cases (v : Val) : truthM v = 0 ∨ truthM v = 1 ∨ truthM v = 2 := by
  unfold truthM
  split
  · exact .inr (.inr rfl)
  · split
    · exact .inr (.inl rfl)
    · exact .inl rfl
theorem cntT_le (v : Nat → Int) (t : Int) (k : Nat) : 0 ≤ cntT v t k ∧ cntT v t k ≤ k := by
  unfold cntT
  have : ((List.range k).countP fun i => v i == t) ≤ (List.range k).length := List.countP_le_length
  rw [List.length_range] at this
  omega
theorem cntT_succ (v : Nat → Int) (t : Int) (k : Nat) : cntT v t (k + 1) = cntT v t k + if v k = t then 1 else 0 := by
  unfold cntT
  rw [List.range_succ, List.countP_append]
  by_cases h : v k = t
  · simp [h]
  · simp [h]
theorem c_count1 {d : List Row} (hl : d.length ≤ 12) (e : Ex) (ho : Ok12 e) (v : Nat → Int) {k : Nat} (hk : k ≤ 5000) (hv : v k = truthM (evalM (ptM d k) e)) :
    ACall Tryz.prog 54 [num k, .vec 1009 d.length, .ptr 1000 0, .ptr 1001 0] (oCnt e v k ++ [(1009, xOb (ptM d k) 0)]) (boo true) (oCnt e v (k + 1) ++ [(1009, xOb (ptM d k) 0)]) := by
  refine enterq mixed ttok Tryz.func54 Tryz.ntmps54 Tryz.results54 ?_
  have hxl := ptM_length d k
  simp -implicitDefEqProofs only [oCnt, xOb, List.cons_append, List.nil_append, argT, ↓steps, push_cast, simprocAttr, tte]
  refine callx_seenV (xs := [aE e, aRow (ptM d k)]) (rs := valL (evalM (ptM d k) e)) [1009] (c_eval (ptM d k) e ho) (fun h2 hr => seen_ev e (hr 1009 (by simp)) hxl.symm) ?_
  simp -implicitDefEqProofs only [lits, valL, ↓steps, push_cast, simprocAttr, tte]
  refine callq [[0, 0, 0]] [] (c_Truth (evalM (ptM d k) e)) ?_
  rw [← hv]
  have b0 := cntT_le v 0 k
  have b1 := cntT_le v 1 k
  have b2 := cntT_le v 2 k
  have s0 := cntT_succ v 0 k
  have s1 := cntT_succ v 1 k
  have s2 := cntT_succ v 2 k
  have ht := truth_cases (evalM (ptM d k) e)
  rw [← hv] at ht
  generalize v k = t at ht s0 s1 s2 ⊢
  rw [s0, s1, s2]
  have w0 : IntKind.i64.wrap (cntT v 0 k + 1) = cntT v 0 k + 1 := wrap_eq (by omega) (by omega)
  have w1 : IntKind.i64.wrap (cntT v 1 k + 1) = cntT v 1 k + 1 := wrap_eq (by omega) (by omega)
  have w2 : IntKind.i64.wrap (cntT v 2 k + 1) = cntT v 2 k + 1 := wrap_eq (by omega) (by omega)
  rcases ht with rfl | rfl | rfl
  all_goals
    simp -implicitDefEqProofs only [w0, w1, w2, ↓steps, push_cast, simprocAttr, tte]
    exact retx_of [0] rfl trivial trivial rfl rfl (by simp [ends]) (by simp [ends])
theorem c_rel1 {d : List Row} (hl : d.length ≤ 12) (e : Ex) (ho : Ok12 e) (v : Nat → Val) {k : Nat} (hk : k ≤ 5000) (hv : v k = evalM (ptM d k) e) :
    ACall Tryz.prog 60 [num k, .vec 1009 d.length, .ptr 1000 0, .ptr 1001 0] ([(1000, .var [.vec 1003 k]), (1001, .var (vE e)), (1003, .vec 53 3 (rowsOf rV ((List.range k).map v)) 0)] ++ [(1009, xOb (ptM d k) 0)]) (boo true)
      ([(1000, .var [.vec 1003 (k + 1)]), (1001, .var (vE e)), (1003, .vec 53 3 (rowsOf rV ((List.range (k + 1)).map v)) 0)] ++ [(1009, xOb (ptM d k) 0)]) := by
  refine enterq mixed ttok Tryz.func60 Tryz.ntmps60 Tryz.results60 ?_
  have hxl := ptM_length d k
  have hrl : ((List.range k).map v).length = k := by simp
  have hrs : (List.range (k + 1)).map v = (List.range k).map v ++ [evalM (ptM d k) e] := by rw [List.range_succ, List.map_append, ← hv]; rfl
  simp -implicitDefEqProofs only [xOb, List.cons_append, List.nil_append, argT, ↓steps, push_cast, simprocAttr, tte]
  refine callx_seenV (xs := [aE e, aRow (ptM d k)]) (rs := valL (evalM (ptM d k) e)) [1009] (c_eval (ptM d k) e ho) (fun h2 hr => seen_ev e (hr 1009 (by simp)) hxl.symm) ?_
  simp -implicitDefEqProofs only [lits, valL, ↓steps, push_cast, simprocAttr, tte]
  refine ⟨⟨hrl.symm, by rw [hrl]; omega⟩, drawx_intro (by kernel_rfl), ?_⟩
  exact retx_of [0] rfl trivial trivial rfl rfl (by simp only [hrs, hrl] <;> simp [ends]) (by simp [ends])
theorem c_cloneV (l : Row) (hl : l.length ≤ 1000000) : ACall Tryz.prog 53 [aRow l] [] (aRow l) [] := by
  refine enterq mixed ttok Tryz.func53 Tryz.ntmps53 Tryz.results53 ?_
  cases l with
  | nil =>
    simp -implicitDefEqProofs only [argT, aRow, rowsOf_nil, List.isEmpty_nil, if_true, ↓steps, push_cast, simprocAttr, tte]
    refine ⟨?_, ?_⟩
    · refine retx_of [3] rfl (by simp) (by simp [rowsOf_length] <;> omega) ?_ (by first | rfl | simp [ends] | (subst_vars; simp [ends])) (by simp [ends]) (by simp [ends])
      rfl
    · refine retx_of [3] rfl (by simp) (by simp [rowsOf_length] <;> omega) ?_ (by first | rfl | simp [ends] | (subst_vars; simp [ends])) (by simp [ends]) (by simp [ends])
      rfl
  | cons x l =>
    simp only [List.length_cons] at hl
    simp -implicitDefEqProofs only [argT, aRow, rowsOf_cons, List.isEmpty_cons, ↓steps, push_cast, simprocAttr, tte]
    refine ⟨by omega, ?_⟩
    refine retx_of [3] rfl (by simp) (by simp [rowsOf_length] <;> omega) ?_ (by first | rfl | simp [ends] | (subst_vars; simp [ends])) (by simp [ends]) (by simp [ends])
    rfl
theorem c_imp1 {d : List Row} (hl : d.length ≤ 12) (a b : Ex) (ha : Ok12 a) (hb : Ok12 b) {k : Nat} (h : truthM (evalM (ptM d k) a) = 1 → truthM (evalM (ptM d k) b) = 1) :
    ACall Tryz.prog 58 [num k, .vec 1009 d.length, .ptr 1000 0, .ptr 1001 0, .ptr 1002 0, .ptr 1003 0]
      ([(1000, .var (vE a)), (1001, .var (vE b)), (1002, .var [boo true]), (1003, .var [.snil])] ++ [(1009, xOb (ptM d k) 0)]) (boo true)
      ([(1000, .var (vE a)), (1001, .var (vE b)), (1002, .var [boo true]), (1003, .var [.snil])] ++ [(1009, xOb (ptM d k) 0)]) := by
  refine enterq mixed ttok Tryz.func58 Tryz.ntmps58 Tryz.results58 ?_
  have hxl := ptM_length d k
  simp -implicitDefEqProofs only [xOb, List.cons_append, List.nil_append, argT, ↓steps, push_cast, simprocAttr, tte]
  refine callx_seen (xs := [aE a, aRow (ptM d k)]) [1009] (c_holds a (ptM d k) ha) (fun h2 hr => seen_ev a (hr 1009 (by simp)) hxl.symm) ?_
  by_cases h1 : truthM (evalM (ptM d k) a) = 1
  · have h2 := h h1
    simp -implicitDefEqProofs only [h1, Int.reduceBEq, ↓steps, push_cast, simprocAttr, tte]
    refine callx_seen (xs := [aE b, aRow (ptM d k)]) [1009] (c_holds b (ptM d k) hb) (fun h2 hr => seen_ev b (hr 1009 (by simp)) hxl.symm) ?_
    simp -implicitDefEqProofs only [h2, Int.reduceBEq, ↓steps, push_cast, simprocAttr, tte]
    exact retx_of [0] rfl trivial trivial rfl rfl (by simp [ends]) (by simp [ends])
  · have h1' : (truthM (evalM (ptM d k) a) == 1) = false := beq_false_of_ne h1
    simp -implicitDefEqProofs only [h1', ↓steps, push_cast, simprocAttr, tte]
    exact retx_of [0] rfl trivial trivial rfl rfl (by simp [ends]) (by simp [ends])
theorem c_imp1s {d : List Row} (hl : d.length ≤ 12) (a b : Ex) (ha : Ok12 a) (hb : Ok12 b) {k : Nat} (h1 : truthM (evalM (ptM d k) a) = 1) (h2 : truthM (evalM (ptM d k) b) ≠ 1) :
    ACall Tryz.prog 58 [num k, .vec 1009 d.length, .ptr 1000 0, .ptr 1001 0, .ptr 1002 0, .ptr 1003 0]
      ([(1000, .var (vE a)), (1001, .var (vE b)), (1002, .var [boo true]), (1003, .var [.snil])] ++ [(1009, xOb (ptM d k) 0)]) (boo false)
      ([(1000, .var (vE a)), (1001, .var (vE b)), (1002, .var [boo false]), (1003, .var [.d (.sl 3 (rowsOf rV (ptM d k)))])] ++ [(1009, xOb (ptM d k) d.length)]) := by
  refine enterq mixed ttok Tryz.func58 Tryz.ntmps58 Tryz.results58 ?_
  have hxl := ptM_length d k
  have h2' : (truthM (evalM (ptM d k) b) == 1) = false := beq_false_of_ne h2
  simp -implicitDefEqProofs only [xOb, List.cons_append, List.nil_append, argT, ↓steps, push_cast, simprocAttr, tte]
  refine callx_seen (xs := [aE a, aRow (ptM d k)]) [1009] (c_holds a (ptM d k) ha) (fun h2 hr => seen_ev a (hr 1009 (by simp)) hxl.symm) ?_
  simp -implicitDefEqProofs only [h1, Int.reduceBEq, ↓steps, push_cast, simprocAttr, tte]
  refine callx_seen (xs := [aE b, aRow (ptM d k)]) [1009] (c_holds b (ptM d k) hb) (fun h2 hr => seen_ev b (hr 1009 (by simp)) hxl.symm) ?_
  simp -implicitDefEqProofs only [h2', ↓steps, push_cast, simprocAttr, tte]
  rw [← hxl]
  refine callq [[3]] [] (c_cloneV (ptM d k) (by omega)) ?_
  simp -implicitDefEqProofs only [↓steps, push_cast, simprocAttr, tte]
  exact retx_of [0] rfl trivial trivial rfl rfl (by simp [ends]) (by simp [ends])
end Go.Proofs.YtiagabnddihchaaGreatDoor
