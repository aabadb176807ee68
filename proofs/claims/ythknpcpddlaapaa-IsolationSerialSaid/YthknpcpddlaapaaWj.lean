/- Histories and their anomalies (part Wj) -/
import Derived.Test.YthknpcpddlaapaaW0
import Derived.Test.YthknpcpddlaapaaWh
set_option linter.all false
namespace Go.Proofs.Ythknpcpddlaapaa
open Go.Am
attribute [local simp, local push_cast] num boo str ints
set_option linter.unusedVariables false
set_option linter.unusedSimpArgs false
set_option maxRecDepth 100000
set_option maxHeartbeats 4000000
/-! The tape of querylabfield. -/
def TapeF (xs : List Int) : Prop := xs.length ≤ 2000 ∧ ∀ x ∈ xs, i64 x
/-- A tape from which p numbers were drawn, also such as are behind its end. -/
def tapeO (xs : List Int) (p : Nat) : Ob := .var [.d (.sl 1 (rowsOf rI xs)), .d (.lit (.int .i64 (min p xs.length : Nat)))]
attribute [local simp, local push_cast] tapeO
/-- The number that is drawn. -/
def drawn (xs : List Int) (p : Nat) (n : Int) : Int := xs.getD p 0 % n
theorem drawn_range (xs : List Int) (p : Nat) {n : Int} (hn : 0 < n) : 0 ≤ drawn xs p n ∧ drawn xs p n < n :=
  ⟨Int.emod_nonneg _ (by omega), Int.emod_lt_of_pos _ hn⟩
theorem tmod_fix (a n : Int) (hn : 0 < n) : (if a.tmod n < 0 then a.tmod n + n else a.tmod n) = a % n := by
  have h1 := Int.emod_nonneg a (show n ≠ 0 by omega)
  have h2 := Int.emod_lt_of_pos a hn
  have h3 := Int.tmod_eq_emod (a := a) (b := n)
  by_cases h : 0 ≤ a ∨ n ∣ a
  · rw [if_pos h] at h3
    rw [if_neg (by omega)]; omega
  · rw [if_neg h] at h3
    have h4 : a % n ≠ 0 := fun h5 => h (.inr (Int.dvd_of_emod_eq_zero h5))
    rw [if_pos (by omega)]; omega
theorem c_mod {x n : Int} (hx : i64 x) (hn : 1 ≤ n) (hn2 : n ≤ 1000000) : ACall Try.prog 49 [num x, num n] [] (num (x % n)) [] := by
  refine enterq mixed ttok Try.func49 Try.ntmps49 Try.results49 ?_
  generalize hr : num (x % n) = R
  simp -implicitDefEqProofs only [argT, ↓steps, push_cast, simprocAttr, tte]
  obtain ⟨hx1, hx2⟩ := hx
  have h0 : decide (n < 1) = false := decide_eq_false (by omega)
  simp -implicitDefEqProofs only [h0, ↓steps, push_cast, simprocAttr, tte]
  have hz : (n == 0) = false := beq_eq_false_iff_ne.2 (by omega)
  have hfix := tmod_fix x n (by omega)
  have hb := Int.emod_lt_of_pos x (show 0 < n by omega)
  have hnn := Int.emod_nonneg x (show n ≠ 0 by omega)
  refine ⟨by omega, ?_⟩
  refine bcase_intro (fun h => ?_) fun h => ?_
  · rw [if_pos (of_decide_eq_true h)] at hfix
    have hw : IntKind.i64.wrap (x.tmod n + n) = x % n := by rw [hfix]; exact wrap_eq (by omega) (by omega)
    rw [hw]
    exact ret_d trivial hr (by simp [ends])
  · rw [if_neg (of_decide_eq_false h)] at hfix
    rw [hfix]
    exact ret_d trivial hr (by simp [ends])
theorem c_raw {xs : List Int} {p : Nat} (hx : TapeF xs) : ACall Try.prog 50 [.ptr 1000 0] [(1000, tapeO xs p)] (num (xs.getD p 0)) [(1000, tapeO xs (p + 1))] := by
  refine enterq mixed ttok Try.func50 Try.ntmps50 Try.results50 ?_
  simp -implicitDefEqProofs only [tapeO, argT, rI, ↓steps, push_cast, simprocAttr, tte]
  obtain ⟨hx1, hx2⟩ := hx
  have hd : (default : Int) = 0 := rfl
  by_cases hp : p < xs.length
  · have hm : min p xs.length = p := by omega
    have hm2 : min (p + 1) xs.length = p + 1 := by omega
    have hw2 : IntKind.i64.wrap ((p : Int) + 1 - 1) = (p : Int) := by rw [wrap_eq (by omega) (by omega)]; omega
    rw [hm, hm2, hd, wrap_eq (n := (p : Int) + 1) (by omega) (by omega)]
    simp only [hw2]
    refine ⟨drawx_intro (by kernel_rfl), bcase_intro (fun h => ?_) (fun h => ⟨⟨by omega, by omega⟩, drawx_intro (by kernel_rfl), ?_⟩)⟩
    · simp at h; omega
    · refine retx_of [0] rfl trivial trivial ?_ rfl ?_ ?_
      · rfl
      · simp only [ends, ite_true, ite_false, reduceIte, Nat.reduceEqDiff, Nat.reduceLeDiff, Nat.reduceLT, Nat.reduceAdd, reduceCtorEq, num, boo, str, ints, tapeO] <;> rfl
      · simp only [ends, ite_true, ite_false, reduceIte, Nat.reduceEqDiff, Nat.reduceLeDiff, Nat.reduceLT, Nat.reduceAdd, reduceCtorEq, num, boo, str, ints, tapeO]
  · have hm : min p xs.length = xs.length := by omega
    have hm2 : min (p + 1) xs.length = xs.length := by omega
    rw [hm, hm2]
    refine ⟨drawx_intro (by kernel_rfl), bcase_intro (fun h => ?_) (fun h => ?_)⟩
    · refine retx_of [0] rfl trivial trivial ?_ rfl ?_ ?_
      · simp [num, List.getD_eq_getElem?_getD, List.getElem?_eq_none (show xs.length ≤ p by omega)]
      · simp only [ends, ite_true, ite_false, reduceIte, Nat.reduceEqDiff, Nat.reduceLeDiff, Nat.reduceLT, Nat.reduceAdd, reduceCtorEq, num, boo, str, ints, tapeO]
      · simp only [ends, ite_true, ite_false, reduceIte, Nat.reduceEqDiff, Nat.reduceLeDiff, Nat.reduceLT, Nat.reduceAdd, reduceCtorEq, num, boo, str, ints, tapeO]
    · simp at h
theorem tape_i64 {xs : List Int} (hx : TapeF xs) (p : Nat) : i64 (xs.getD p 0) := by
  by_cases hp : p < xs.length
  · rw [List.getD_eq_getElem?_getD, List.getElem?_eq_getElem hp]; exact hx.2 _ (List.getElem_mem hp)
  · rw [List.getD_eq_getElem?_getD, List.getElem?_eq_none (by omega)]; exact ⟨by decide, by decide⟩
theorem c_N {xs : List Int} {n : Int} {p : Nat} (hx : TapeF xs) (hn : 1 ≤ n) (hn2 : n ≤ 1000000) : ACall Try.prog 32 [.ptr 1000 0, num n] [(1000, tapeO xs p)] (num (drawn xs p n)) [(1000, tapeO xs (p + 1))] := by
  refine enterq mixed ttok Try.func32 Try.ntmps32 Try.results32 ?_
  simp -implicitDefEqProofs only [argT, ↓steps, push_cast, simprocAttr, tte]
  refine callq [[]] [(1000, 1000)] (c_raw (p := p) hx) ?_
  simp -implicitDefEqProofs only [↓steps, push_cast, simprocAttr, tte]
  refine callq [[], []] [] (c_mod (x := xs.getD p 0) (n := n) (tape_i64 hx p) hn hn2) ?_
  simp -implicitDefEqProofs only [↓steps, push_cast, simprocAttr, tte]
  refine retx_of [0] rfl trivial trivial rfl rfl ?_ ?_
  · simp only [ends, ite_true, ite_false, reduceIte, Nat.reduceEqDiff, Nat.reduceLeDiff, Nat.reduceLT, Nat.reduceAdd, reduceCtorEq, num, boo, str, ints, tapeO]
  · simp only [ends, ite_true, ite_false, reduceIte, Nat.reduceEqDiff, Nat.reduceLeDiff, Nat.reduceLT, Nat.reduceAdd, reduceCtorEq, num, boo, str, ints, tapeO]
theorem c_range {xs : List Int} {lo hi : Int} {p : Nat} (hx : TapeF xs) (h0 : -1000 ≤ lo) (h1 : lo ≤ hi) (h2 : hi ≤ 1000) : ACall Try.prog 31 [.ptr 1000 0, num lo, num hi] [(1000, tapeO xs p)] (num (lo + drawn xs p (hi - lo + 1))) [(1000, tapeO xs (p + 1))] := by
  refine enterq mixed ttok Try.func31 Try.ntmps31 Try.results31 ?_
  have hr := drawn_range xs p (n := hi - lo + 1) (by omega)
  have w1 : IntKind.i64.wrap (hi - lo) = hi - lo := wrap_eq (by omega) (by omega)
  have w2 : IntKind.i64.wrap (hi - lo + 1) = hi - lo + 1 := wrap_eq (by omega) (by omega)
  have w3 : IntKind.i64.wrap (lo + drawn xs p (hi - lo + 1)) = lo + drawn xs p (hi - lo + 1) := wrap_eq (by omega) (by omega)
  simp -implicitDefEqProofs only [argT, w1, w2, ↓steps, push_cast, simprocAttr, tte]
  refine callq [[], []] [(1000, 1000)] (c_N (n := hi - lo + 1) (p := p) hx (by omega) (by omega)) ?_
  simp -implicitDefEqProofs only [w3, ↓steps, push_cast, simprocAttr, tte]
  refine retx_of [0] rfl trivial trivial rfl rfl ?_ ?_
  · simp only [ends, ite_true, ite_false, reduceIte, Nat.reduceEqDiff, Nat.reduceLeDiff, Nat.reduceLT, Nat.reduceAdd, reduceCtorEq, num, boo, str, ints, tapeO]
  · simp only [ends, ite_true, ite_false, reduceIte, Nat.reduceEqDiff, Nat.reduceLeDiff, Nat.reduceLT, Nat.reduceAdd, reduceCtorEq, num, boo, str, ints, tapeO]
theorem c_pick {xs : List Int} {p : Nat} (hx : TapeF xs) (l : List Int) (h1 : 1 ≤ l.length) (h2 : l.length ≤ 1000) : ACall Try.prog 33 [.ptr 1000 0, ints l] [(1000, tapeO xs p)] (num (l.getD (drawn xs p l.length).toNat default)) [(1000, tapeO xs (p + 1))] := by
  refine enterq mixed ttok Try.func33 Try.ntmps33 Try.results33 ?_
  have hr := drawn_range xs p (n := (l.length : Int)) (by omega)
  simp -implicitDefEqProofs only [argT, rI, ↓steps, push_cast, simprocAttr, tte]
  refine callq [[], []] [(1000, 1000)] (c_N (n := (l.length : Int)) (p := p) hx (by omega) (by omega)) ?_
  simp -implicitDefEqProofs only [↓steps, push_cast, simprocAttr, tte]
  refine ⟨by omega, ?_⟩
  refine retx_of [0] rfl trivial trivial rfl rfl ?_ ?_
  · simp only [ends, ite_true, ite_false, reduceIte, Nat.reduceEqDiff, Nat.reduceLeDiff, Nat.reduceLT, Nat.reduceAdd, reduceCtorEq, num, boo, str, ints, tapeO]
  · simp only [ends, ite_true, ite_false, reduceIte, Nat.reduceEqDiff, Nat.reduceLeDiff, Nat.reduceLT, Nat.reduceAdd, reduceCtorEq, num, boo, str, ints, tapeO]
theorem ret_ren {p : Prop} {a : A} {t : List (Nat × A)} {o os' : List (Nat × Ob)} {R : A} (x y : Nat) (hp : p) (hxy : x ≠ y) (hx : x < 1000) (hy : lookO o y = none) (hr : a.ren (ren1to x y) = R)
    (hc : R.closed (inO os') = true) (ho : keepO (lookO (renO x y o)) (inO os') os') (hin : keepIn (inO os') (renO x y o)) : retx (some (p, a)) ⟨t, o⟩ R os' := by
  refine ⟨hp, ?_⟩
  have h1 := Weak.ren (t := [(0, a)]) (o := o) x y hxy hx hy
  have h2 : Weak (SL.mk (renT x y [(0, a)]) (renO x y o)).st (SL.mk [(0, R)] os').st := Weak.keepL ⟨⟨by simp only [renT, lookT, if_true]; exact hr, hc⟩, trivial⟩ ho hin
  exact h1.trans h2
theorem c_new (t : List Int) : ACall Try.prog 7 [ints t] [] (.ptr 1000 0) [(1000, tapeO (t.take 2000) 0)] := by
  refine enterq mixed ttok Try.func7 Try.ntmps7 Try.results7 ?_
  simp -implicitDefEqProofs only [argT, ↓steps, push_cast, simprocAttr, tte]
  have e : (if (2000 : Int) < (t.length : Int) then (2000 : Int) else (t.length : Int)) = ((min 2000 t.length : Nat) : Int) := by split <;> omega
  have e2 : t.take (min 2000 t.length) = t.take 2000 := by
    by_cases h : t.length ≤ 2000
    · rw [Nat.min_eq_right h, List.take_of_length_le (Nat.le_refl _), List.take_of_length_le h]
    · rw [Nat.min_eq_left (by omega)]
  rw [e, Int.toNat_natCast, e2]
  refine ⟨⟨by omega, by omega⟩, ?_⟩
  refine ret_ren 9 1000 trivial (by decide) (by decide) rfl (by simp [A.ren, renL, ren1to]) (by simp [A.closed, closedL, inO, lookO]) ?_ ?_
  · simp [renO, Ob.ren, A.ren, renL, ren1to, ends]
  · simp [renO, ren1to, ends]
theorem c_ints (a b : List Int) (hl : a.length ≤ 1000000) (hm : b.length ≤ 1000000) : ACall Try.prog 21 [ints a, ints b] [] (boo (a == b)) [] := by
  refine enterq mixed ttok Try.func21 Try.ntmps21 Try.results21 ?_
  generalize hr : boo (a == b) = R
  simp -implicitDefEqProofs only [argT, ↓steps, push_cast, simprocAttr, tte]
  refine bcase_intro (fun h0 => ?_) fun h0 => ?_
  · have h0' : ¬ a.length = b.length := by simp only [bne_iff_ne, ne_eq] at h0; omega
    have he : (a == b) = false := by
      cases hq : a == b with
      | false => rfl
      | true => exact absurd (congrArg List.length (beq_iff_eq.1 hq)) h0'
    rw [he] at hr
    exact ret_d trivial hr (by simp [ends])
  have h0' : a.length = b.length := by simp only [bne_eq_false_iff_eq] at h0; omega
  refine loop_count mixed ttok 5 [0, 1] [] (by simp only [pickT, ends, push_cast, simprocAttr]; rfl) (by simp only [pickO, consO_some, ends, push_cast, simprocAttr]; rfl) a.length (fun n => ∀ i, i < n → a.getD i default = b.getD i default) (fun _ => []) (fun _ => []) (fun i h => absurd h (Nat.not_lt_zero _)) ?_ ?_
  · exact Weak.keepL (by simp [cst, ends]) (by simp [cst, ends]) (by simp [cst, ends])
  intro I hI n hn hi
  simp -implicitDefEqProofs only [cst, ↓steps, push_cast, simprocAttr, tte]
  refine bcase_intro (fun h => ?_) fun h => ?_
  · have h' : n < a.length := by have := of_decide_eq_true h; omega
    have hw := wrap_succ h' (by omega)
    refine ⟨⟨by omega, by omega⟩, ⟨by omega, by omega⟩, drawx_intro (by kernel_rfl), ?_⟩
    refine bcase_intro (fun g => ?_) fun g => ?_
    · have g' : ¬ a.getD n default = b.getD n default := by simpa using g
      have he : (a == b) = false := by
        cases hq : a == b with
        | false => rfl
        | true => exact absurd (by rw [beq_iff_eq.1 hq]) g'
      rw [he] at hr
      exact ret_d trivial hr (by simp [ends])
    · have g' : a.getD n default = b.getD n default := by simpa using g
      exact cnt_again hI n rfl h' (fun i hi2 => by
        rcases Nat.lt_or_eq_of_le (Nat.lt_succ_iff.1 hi2) with q | q
        · exact hi i q
        · rw [q]; exact g') (by simp [hw, ends]) (by simp [hw, ends]) (by simp [hw, ends]) (by simp [hw, ends])
  have hnn : n = a.length := by have := of_decide_eq_false h; omega
  subst hnn
  have he : a = b := by
    apply List.ext_getElem h0'
    intro i h1 h2
    have := hi i h1
    simpa [List.getD_eq_getElem?_getD, h1, h2] using this
  rw [he, beq_self_eq_true] at hr
  exact ret_d trivial hr (by simp [ends])
theorem c_in (l : List Int) (x : Int) (hl : l.length ≤ 1000000) : ACall Try.prog 25 [ints l, num x] [] (boo (l.contains x)) [] := by
  refine enterq mixed ttok Try.func25 Try.ntmps25 Try.results25 ?_
  generalize hr : boo (l.contains x) = R
  simp -implicitDefEqProofs only [argT, ↓steps, push_cast, simprocAttr, tte]
  refine loop_count mixed ttok 5 [0, 1] [] (by simp only [pickT, ends, push_cast, simprocAttr]; rfl) (by simp only [pickO, consO_some, ends, push_cast, simprocAttr]; rfl) l.length (fun n => l.contains x = (l.drop n).contains x) (fun _ => []) (fun _ => []) rfl ?_ ?_
  · exact Weak.keepL (by simp [cst, ends]) (by simp [cst, ends]) (by simp [cst, ends])
  intro I hI n hn hi
  simp -implicitDefEqProofs only [cst, ↓steps, push_cast, simprocAttr, tte]
  refine bcase_intro (fun h => ?_) fun h => ?_
  · have h' : n < l.length := by have := of_decide_eq_true h; omega
    have hw := wrap_succ h' (by omega)
    rw [drop_cons l n h', List.contains_cons] at hi
    refine ⟨⟨by omega, by omega⟩, ?_⟩
    refine bcase_intro (fun g => ?_) fun g => ?_
    · have g' : l.getD n default = x := by simpa using g
      rw [g', beq_self_eq_true, Bool.true_or] at hi
      rw [hi] at hr
      exact ret_d trivial hr (by simp [ends])
    · have g' : ¬ l.getD n default = x := by simpa using g
      rw [beq_false_of_ne (fun e => g' e.symm), Bool.false_or] at hi
      exact cnt_again hI n rfl h' hi (by simp [hw, ends]) (by simp [hw, ends]) (by simp [hw, ends]) (by simp [hw, ends])
  have hnn : n = l.length := by have := of_decide_eq_false h; omega
  subst hnn
  rw [List.drop_length] at hi
  rw [hi] at hr
  exact ret_d trivial hr (by simp [ends])
end Go.Proofs.Ythknpcpddlaapaa
namespace Go.Proofs.Ythknpcpddlaapaa
open Go.Am
attribute [local simp, local push_cast] num boo str ints rEv aEv rTk aTk rEg aEg aH vEv vecI tapeO
set_option linter.unusedVariables false
set_option maxRecDepth 100000
set_option maxHeartbeats 4000000
/-! The first values; the example of the chapter. -/
def vecH (l : List Hv) : Ob := .vec 58 5 (rowsOf rEv l) 0
theorem rEv_snoc (l : List Hv) (a b c d e : Int) : rowsOf rEv l ++ [[D.lit (.int .i64 a), D.lit (.int .i64 b), D.lit (.int .i64 c), D.lit (.int .i64 d), D.lit (.int .i64 e)]] = rowsOf rEv (l ++ [⟨a, b, c, d, e⟩]) := by simp [rowsOf, rEv]
attribute [local simp, local push_cast] vecH rEv_snoc
def pickS : List Int := [0, 1, 5, -2]
def startL (xs : List Int) (p n : Nat) : List Int := (List.range n).map fun j => pickS.getD (drawn xs (p + j) 4).toNat default
theorem startL_succ (xs : List Int) (p n : Nat) : startL xs p (n + 1) = startL xs p n ++ [pickS.getD (drawn xs (p + n) 4).toNat default] := by unfold startL; rw [List.range_succ, List.map_append]; rfl
theorem startL_len (xs : List Int) (p n : Nat) : (startL xs p n).length = n := by simp [startL]
def keysN (xs : List Int) (p : Nat) : Nat := (1 + drawn xs p 3).toNat
theorem keysN_range (xs : List Int) (p : Nat) : 1 ≤ keysN xs p ∧ keysN xs p ≤ 3 := by
  have := drawn_range xs p (n := 3) (by omega)
  unfold keysN; omega
theorem c_start {xs : List Int} {p : Nat} (hx : TapeF xs) : ACall Try.prog 15 [.ptr 1000 0] [(1000, tapeO xs p)] (ints (startL xs (p + 1) (keysN xs p))) [(1000, tapeO xs (p + 1 + keysN xs p))] := by
  refine enterq mixed ttok Try.func15 Try.ntmps15 Try.results15 ?_
  have hk := keysN_range xs p
  have hkn : 1 + drawn xs p (3 - 1 + 1) = (keysN xs p : Int) := by
    have := drawn_range xs p (n := 3) (by omega)
    show 1 + drawn xs p 3 = _
    unfold keysN; omega
  generalize hr : ints (startL xs (p + 1) (keysN xs p)) = R
  simp -implicitDefEqProofs only [argT, ↓steps, push_cast, simprocAttr, tte]
  have hra := c_range (xs := xs) (lo := 1) (hi := 3) (p := p) hx (by omega) (by omega) (by omega)
  rw [hkn] at hra
  refine callq [[], [], []] [(1000, 1000)] (hra) ?_
  simp -implicitDefEqProofs only [↓steps, push_cast, simprocAttr, tte]
  generalize keysN xs p = K at hk hr ⊢
  refine loop_gen mixed ttok (fun j : Nat => (⟨[(4, .d (.lit (.int .i64 ((K : Int) - (j : Int))))), (3, .vec 500 (startL xs (p + 1) j).length), (0, .ptr 1000 0)], [(1000, tapeO xs (p + 1 + j)), (500, vecI (startL xs (p + 1) j))]⟩ : SL)) (fun j => K - j) (fun j => j ≤ K) 0 (Nat.zero_le _) ?_ ?_
  · refine (Weak.nilL 3 500 3 1 rfl rfl).trans ?_
    exact Weak.keepL (by simp [startL, ends]) (by simp [rowsOf, startL, ends]) (by simp [ends])
  intro I hI j hj
  have hsl := startL_len xs (p + 1) j
  simp -implicitDefEqProofs only [↓steps, push_cast, simprocAttr, tte]
  refine bcase_intro (fun h => ?_) fun h => ?_
  · simp only [decide_eq_true_eq] at h
    have hj' : j < K := by omega
    have hwj : IntKind.i64.wrap ((K : Int) - (j : Int) - 1) = (K : Int) - ((j + 1 : Nat) : Int) := by rw [wrap_eq (by omega) (by omega)]; omega
    have hpi := c_pick (xs := xs) (p := p + 1 + j) hx pickS (by decide) (by decide)
    have e4 : ((pickS.length : Nat) : Int) = 4 := rfl
    rw [e4] at hpi
    have hsucc := startL_succ xs (p + 1) j
    have hps : ints pickS = .d (.sl 1 [[.lit (.int .i64 0)], [.lit (.int .i64 1)], [.lit (.int .i64 5)], [.lit (.int .i64 (-2))]]) := rfl
    rw [hps] at hpi
    refine callq [[], [1]] [(1000, 1000)] (hpi) ?_
    simp -implicitDefEqProofs only [← hsucc, ↓steps, push_cast, simprocAttr, tte]
    refine ⟨by omega, ?_⟩
    have hsl1 := startL_len xs (p + 1) (j + 1)
    have hadd : p + 1 + j + 1 = p + 1 + (j + 1) := by omega
    exact gen_again hI (j + 1) hj' (by show K - (j + 1) < K - j; omega) (Weak.keepL (by simp [hwj, hsl, hsl1, ends]) (by simp [hadd, ends]) (by simp [ends]))
  · simp only [decide_eq_false_iff_not] at h
    obtain rfl : j = K := by omega
    subst hr
    refine retx_of [1] rfl trivial ?_ rfl rfl ?_ ?_
    · rw [rowsOf_length]
    · simp [ends]
    · simp [ends]
end Go.Proofs.Ythknpcpddlaapaa
