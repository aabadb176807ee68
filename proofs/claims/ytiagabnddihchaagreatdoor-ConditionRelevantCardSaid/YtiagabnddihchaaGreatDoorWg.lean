/- Conditions over finite domains (part Wg) -/
import Derived.Test.YtiagabnddihchaaGreatDoorWd
import Derived.Test.YtiagabnddihchaaGreatDoorWf
set_option linter.all false
namespace Go.Proofs.YtiagabnddihchaaGreatDoor
open Go.Am
attribute [local simp, local push_cast] num boo str ints aV
set_option linter.unusedVariables false
set_option linter.unusedSimpArgs false
set_option maxRecDepth 100000
set_option maxHeartbeats 4000000
/-! The tape of querylabfield. -/
def TapeF (xs : List Int) : Prop := xs.length ≤ 2000 ∧ ∀ x ∈ xs, i64 x
/-- A tape from which p numbers were drawn, also such as are behind its end. -/
def tapeO (xs : List Int) (p : Nat) : Ob := .var [.d (.sl 1 (rowsOf rI xs)), .d (.lit (.int .i64 (min p xs.length : Nat)))]
attribute [local simp, local push_cast] tapeO
/-- The number that is drawn. -/
def drawn (xs : List Int) (p : Nat) (n : Int) : Int := xs.getD p 0 % n
theorem drawn_range (xs : List Int) (p : Nat) {n : Int} (hn : 0 < n) : 0 ≤ drawn xs p n ∧ drawn xs p n < n :=
  ⟨Int.emod_nonneg _ (by omega), Int.emod_lt_of_pos _ hn⟩
theorem tmod_fix (a n : Int) (hn : 0 < n) : (if a.tmod n < 0 then a.tmod n + n else a.tmod n) = a % n := by
  have h1 := Int.emod_nonneg a (show n ≠ 0 by omega)
  have h2 := Int.emod_lt_of_pos a hn
  have h3 := Int.tmod_eq_emod (a := a) (b := n)
  by_cases h : 0 ≤ a ∨ n ∣ a
  · rw [if_pos h] at h3
    rw [if_neg (by omega)]; omega
  · rw [if_neg h] at h3
    have h4 : a % n ≠ 0 := fun h5 => h (.inr (Int.dvd_of_emod_eq_zero h5))
    rw [if_pos (by omega)]; omega
theorem c_mod {x n : Int} (hx : i64 x) (hn : 1 ≤ n) (hn2 : n ≤ 1000000) : ACall Tryz.prog 73 [num x, num n] [] (num (x % n)) [] := by
  refine enterq mixed ttok Tryz.func73 Tryz.ntmps73 Tryz.results73 ?_
  generalize hr : num (x % n) = R
  simp -implicitDefEqProofs only [argT, ↓steps, push_cast, simprocAttr, tte]
  obtain ⟨hx1, hx2⟩ := hx
  have h0 : decide (n < 1) = false := decide_eq_false (by omega)
  simp -implicitDefEqProofs only [h0, ↓steps, push_cast, simprocAttr, tte]
  have hz : (n == 0) = false := beq_eq_false_iff_ne.2 (by omega)
  have hfix := tmod_fix x n (by omega)
  have hb := Int.emod_lt_of_pos x (show 0 < n by omega)
  have hnn := Int.emod_nonneg x (show n ≠ 0 by omega)
  refine ⟨by omega, ?_⟩
  refine bcase_intro (fun h => ?_) fun h => ?_
  · rw [if_pos (of_decide_eq_true h)] at hfix
    have hw : IntKind.i64.wrap (x.tmod n + n) = x % n := by rw [hfix]; exact wrap_eq (by omega) (by omega)
    rw [hw]
    exact ret_d trivial hr (by simp [ends])
  · rw [if_neg (of_decide_eq_false h)] at hfix
    rw [hfix]
    exact ret_d trivial hr (by simp [ends])
theorem c_raw {xs : List Int} {p : Nat} (hx : TapeF xs) : ACall Tryz.prog 74 [.ptr 1000 0] [(1000, tapeO xs p)] (num (xs.getD p 0)) [(1000, tapeO xs (p + 1))] := by
  refine enterq mixed ttok Tryz.func74 Tryz.ntmps74 Tryz.results74 ?_
  simp -implicitDefEqProofs only [tapeO, argT, rI, ↓steps, push_cast, simprocAttr, tte]
  obtain ⟨hx1, hx2⟩ := hx
  have hd : (default : Int) = 0 := rfl
  by_cases hp : p < xs.length
  · have hm : min p xs.length = p := by omega
    have hm2 : min (p + 1) xs.length = p + 1 := by omega
    have hw2 : IntKind.i64.wrap ((p : Int) + 1 - 1) = (p : Int) := by rw [wrap_eq (by omega) (by omega)]; omega
    rw [hm, hm2, hd, wrap_eq (n := (p : Int) + 1) (by omega) (by omega)]
    simp only [hw2]
    refine ⟨drawx_intro (by kernel_rfl), bcase_intro (fun h => ?_) (fun h => ⟨⟨by omega, by omega⟩, drawx_intro (by kernel_rfl), ?_⟩)⟩
    · simp at h; omega
    · refine retx_of [0] rfl trivial trivial ?_ rfl ?_ ?_
      · rfl
      · simp only [ends, ite_true, ite_false, reduceIte, Nat.reduceEqDiff, Nat.reduceLeDiff, Nat.reduceLT, Nat.reduceAdd, reduceCtorEq, num, boo, str, ints, aV, tapeO] <;> rfl
      · simp only [ends, ite_true, ite_false, reduceIte, Nat.reduceEqDiff, Nat.reduceLeDiff, Nat.reduceLT, Nat.reduceAdd, reduceCtorEq, num, boo, str, ints, aV, tapeO]
  · have hm : min p xs.length = xs.length := by omega
    have hm2 : min (p + 1) xs.length = xs.length := by omega
    rw [hm, hm2]
    refine ⟨drawx_intro (by kernel_rfl), bcase_intro (fun h => ?_) (fun h => ?_)⟩
    · refine retx_of [0] rfl trivial trivial ?_ rfl ?_ ?_
      · simp [num, List.getD_eq_getElem?_getD, List.getElem?_eq_none (show xs.length ≤ p by omega)]
      · simp only [ends, ite_true, ite_false, reduceIte, Nat.reduceEqDiff, Nat.reduceLeDiff, Nat.reduceLT, Nat.reduceAdd, reduceCtorEq, num, boo, str, ints, aV, tapeO]
      · simp only [ends, ite_true, ite_false, reduceIte, Nat.reduceEqDiff, Nat.reduceLeDiff, Nat.reduceLT, Nat.reduceAdd, reduceCtorEq, num, boo, str, ints, aV, tapeO]
    · simp at h
theorem tape_i64 {xs : List Int} (hx : TapeF xs) (p : Nat) : i64 (xs.getD p 0) := by
  by_cases hp : p < xs.length
  · rw [List.getD_eq_getElem?_getD, List.getElem?_eq_getElem hp]; exact hx.2 _ (List.getElem_mem hp)
  · rw [List.getD_eq_getElem?_getD, List.getElem?_eq_none (by omega)]; exact ⟨by decide, by decide⟩
theorem c_N {xs : List Int} {n : Int} {p : Nat} (hx : TapeF xs) (hn : 1 ≤ n) (hn2 : n ≤ 1000000) : ACall Tryz.prog 26 [.ptr 1000 0, num n] [(1000, tapeO xs p)] (num (drawn xs p n)) [(1000, tapeO xs (p + 1))] := by
  refine enterq mixed ttok Tryz.func26 Tryz.ntmps26 Tryz.results26 ?_
  simp -implicitDefEqProofs only [argT, ↓steps, push_cast, simprocAttr, tte]
  refine callq [[]] [(1000, 1000)] (c_raw (p := p) hx) ?_
  simp -implicitDefEqProofs only [↓steps, push_cast, simprocAttr, tte]
  refine callq [[], []] [] (c_mod (x := xs.getD p 0) (n := n) (tape_i64 hx p) hn hn2) ?_
  simp -implicitDefEqProofs only [↓steps, push_cast, simprocAttr, tte]
  refine retx_of [0] rfl trivial trivial rfl rfl ?_ ?_
  · simp only [ends, ite_true, ite_false, reduceIte, Nat.reduceEqDiff, Nat.reduceLeDiff, Nat.reduceLT, Nat.reduceAdd, reduceCtorEq, num, boo, str, ints, aV, tapeO]
  · simp only [ends, ite_true, ite_false, reduceIte, Nat.reduceEqDiff, Nat.reduceLeDiff, Nat.reduceLT, Nat.reduceAdd, reduceCtorEq, num, boo, str, ints, aV, tapeO]
theorem c_range {xs : List Int} {lo hi : Int} {p : Nat} (hx : TapeF xs) (h0 : -1000 ≤ lo) (h1 : lo ≤ hi) (h2 : hi ≤ 1000) : ACall Tryz.prog 45 [.ptr 1000 0, num lo, num hi] [(1000, tapeO xs p)] (num (lo + drawn xs p (hi - lo + 1))) [(1000, tapeO xs (p + 1))] := by
  refine enterq mixed ttok Tryz.func45 Tryz.ntmps45 Tryz.results45 ?_
  have hr := drawn_range xs p (n := hi - lo + 1) (by omega)
  have w1 : IntKind.i64.wrap (hi - lo) = hi - lo := wrap_eq (by omega) (by omega)
  have w2 : IntKind.i64.wrap (hi - lo + 1) = hi - lo + 1 := wrap_eq (by omega) (by omega)
  have w3 : IntKind.i64.wrap (lo + drawn xs p (hi - lo + 1)) = lo + drawn xs p (hi - lo + 1) := wrap_eq (by omega) (by omega)
  simp -implicitDefEqProofs only [argT, w1, w2, ↓steps, push_cast, simprocAttr, tte]
  refine callq [[], []] [(1000, 1000)] (c_N (n := hi - lo + 1) (p := p) hx (by omega) (by omega)) ?_
  simp -implicitDefEqProofs only [w3, ↓steps, push_cast, simprocAttr, tte]
  refine retx_of [0] rfl trivial trivial rfl rfl ?_ ?_
  · simp only [ends, ite_true, ite_false, reduceIte, Nat.reduceEqDiff, Nat.reduceLeDiff, Nat.reduceLT, Nat.reduceAdd, reduceCtorEq, num, boo, str, ints, aV, tapeO]
  · simp only [ends, ite_true, ite_false, reduceIte, Nat.reduceEqDiff, Nat.reduceLeDiff, Nat.reduceLT, Nat.reduceAdd, reduceCtorEq, num, boo, str, ints, aV, tapeO]
theorem c_pick {xs : List Int} {p : Nat} (hx : TapeF xs) (l : List Int) (h1 : 1 ≤ l.length) (h2 : l.length ≤ 1000) : ACall Tryz.prog 28 [.ptr 1000 0, ints l] [(1000, tapeO xs p)] (num (l.getD (drawn xs p l.length).toNat default)) [(1000, tapeO xs (p + 1))] := by
  refine enterq mixed ttok Tryz.func28 Tryz.ntmps28 Tryz.results28 ?_
  have hr := drawn_range xs p (n := (l.length : Int)) (by omega)
  simp -implicitDefEqProofs only [argT, rI, ↓steps, push_cast, simprocAttr, tte]
  refine callq [[], []] [(1000, 1000)] (c_N (n := (l.length : Int)) (p := p) hx (by omega) (by omega)) ?_
  simp -implicitDefEqProofs only [↓steps, push_cast, simprocAttr, tte]
  refine ⟨by omega, ?_⟩
  refine retx_of [0] rfl trivial trivial rfl rfl ?_ ?_
  · simp only [ends, ite_true, ite_false, reduceIte, Nat.reduceEqDiff, Nat.reduceLeDiff, Nat.reduceLT, Nat.reduceAdd, reduceCtorEq, num, boo, str, ints, aV, tapeO]
  · simp only [ends, ite_true, ite_false, reduceIte, Nat.reduceEqDiff, Nat.reduceLeDiff, Nat.reduceLT, Nat.reduceAdd, reduceCtorEq, num, boo, str, ints, aV, tapeO]
theorem c_fint (n : Int) : ACall Tryz.prog 59 [num n] [] (aV ⟨1, n, ByteArray.empty⟩) [] := by
  refine enterq mixed ttok Tryz.func59 Tryz.ntmps59 Tryz.results59 ?_
  generalize hr : aV ⟨1, n, ByteArray.empty⟩ = R
  simp -implicitDefEqProofs only [argT, ↓steps, push_cast, simprocAttr, tte]
  exact ret_v trivial hr (by simp [ends])
theorem c_fbool (b : Bool) : ACall Tryz.prog 76 [boo b] [] (aV (ofV b)) [] := by
  refine enterq mixed ttok Tryz.func76 Tryz.ntmps76 Tryz.results76 ?_
  generalize hr : aV (ofV b) = R
  simp -implicitDefEqProofs only [argT, ↓steps, push_cast, simprocAttr, tte]
  refine bcase_intro (fun h => ?_) fun h => ?_
  · exact ret_v trivial (by rw [← hr, ofV, if_pos h]) (by simp [ends])
  · exact ret_v trivial (by rw [← hr, ofV, if_neg (by rw [h]; decide)]) (by simp [ends])
theorem c_ftext (s : ByteArray) : ACall Tryz.prog 77 [str s] [] (aV ⟨3, 0, s⟩) [] := by
  refine enterq mixed ttok Tryz.func77 Tryz.ntmps77 Tryz.results77 ?_
  generalize hr : aV ⟨3, 0, s⟩ = R
  simp -implicitDefEqProofs only [argT, ↓steps, push_cast, simprocAttr, tte]
  exact ret_v trivial hr (by simp [ends])
end Go.Proofs.YtiagabnddihchaaGreatDoor
namespace Go.Proofs.YtiagabnddihchaaGreatDoor
open Go.Am
attribute [local simp, local push_cast] num boo str ints aV tapeO
set_option linter.unusedVariables false
set_option linter.unusedSimpArgs false
set_option maxRecDepth 100000
set_option maxHeartbeats 4000000
/-! Values, columns, leaves of querylabfield. -/
def intsF : List Int := [0, 1, 2, 3, -1, 5]
def textsF : List ByteArray := [⟨#[97]⟩, ⟨#[98]⟩, ⟨#[]⟩, ⟨#[97, 98]⟩]
def valF (xs : List Int) (typ : Int) (p : Nat) : Val :=
  if typ = 1 then ⟨1, intsF.getD (drawn xs p 6).toNat default, ByteArray.empty⟩ else if typ = 2 then ofV (drawn xs p 2 == 1) else ⟨3, 0, textsF.getD (drawn xs p 4).toNat default⟩
def valueF (xs : List Int) (typ : Int) (nl : Bool) (p : Nat) : Val × Nat :=
  if nl = true then (if drawn xs p 4 = 3 then (nullV, p + 1) else (valF xs typ (p + 1), p + 2)) else (valF xs typ p, p + 1)
theorem ret_vO' {p : Prop} {k n : Int} {x : ByteArray} {t : List (Nat × A)} {o os' : List (Nat × Ob)} {R : A} (hp : p) (hr : aV ⟨k, n, x⟩ = R) (hc : R.closed (inO os') = true) (ho : keepO (lookO o) (inO os') os') (hin : keepIn (inO os') o) :
    retx (some (p, .agg [.d (.lit (.int .i64 k)), .d (.lit (.int .i64 n)), .d (.lit (.string x))])) ⟨t, o⟩ R os' := by
  subst hr
  exact retx_of [0, 0, 0] rfl hp (by simp) rfl hc ho hin
theorem c_fvalue {xs : List Int} {typ : Int} {nl : Bool} {p : Nat} (hx : TapeF xs) : ACall Tryz.prog 29 [.ptr 1000 0, num typ, boo nl] [(1000, tapeO xs p)] (aV (valueF xs typ nl p).1) [(1000, tapeO xs (valueF xs typ nl p).2)] := by
  refine enterq mixed ttok Tryz.func29 Tryz.ntmps29 Tryz.results29 ?_
  have h6 := fun p => drawn_range xs p (n := 6) (by omega)
  have h4 := fun p => drawn_range xs p (n := 4) (by omega)
  cases nl
  · simp -implicitDefEqProofs only [argT, ↓steps, push_cast, simprocAttr, tte]
    refine bcase_intro (fun g1 => ?_) fun g1 => ?_
    · have e1 : typ = 1 := by simpa using g1
      refine callq [[], [1]] [(1000, 1000)] (c_pick (p := p) hx intsF (by decide) (by decide)) ?_ (hargs := by simp [ends, bs, intsF, rowsOf_cons, rowsOf_nil, rI])
      simp -implicitDefEqProofs only [↓steps, push_cast, simprocAttr, tte]
      refine callq [[]] [] (c_fint (intsF.getD (drawn xs (p) (intsF.length : Int)).toNat default)) ?_
      simp -implicitDefEqProofs only [↓steps, push_cast, simprocAttr, tte]
      exact ret_vO' trivial (by simp [valueF, valF, e1, intsF]) (by simp [ends]) (by simp [valueF, e1, ends]) (by simp [ends])
    refine bcase_intro (fun g2 => ?_) fun g2 => ?_
    · have e1 : ¬ typ = 1 := by simpa using g1
      have e2 : typ = 2 := by simpa using g2
      refine callq [[], []] [(1000, 1000)] (c_N (n := 2) (p := p) hx (by omega) (by omega)) ?_
      simp -implicitDefEqProofs only [↓steps, push_cast, simprocAttr, tte]
      refine callq [[]] [] (c_fbool (drawn xs (p) 2 == 1)) ?_
      simp -implicitDefEqProofs only [↓steps, push_cast, simprocAttr, tte]
      exact ret_vO' trivial (by simp [valueF, valF, e2, ofV]) (by simp [ends]) (by simp [valueF, e2, ends]) (by simp [ends])
    have e1 : ¬ typ = 1 := by simpa using g1
    have e2 : ¬ typ = 2 := by simpa using g2
    refine callq [[], []] [(1000, 1000)] (c_N (n := 4) (p := p) hx (by omega) (by omega)) ?_
    simp -implicitDefEqProofs only [↓steps, push_cast, simprocAttr, tte]
    have hd := h4 (p)
    have hv : valueF xs typ false p = (⟨3, 0, textsF.getD (drawn xs (p) 4).toNat default⟩, p + 1) := by simp [valueF, valF, e1, e2]
    rw [hv]
    refine ⟨hd, ?_⟩
    clear hv h4 h6
    generalize drawn xs (p) 4 = d at hd ⊢
    have hd4 : d = 0 ∨ d = 1 ∨ d = 2 ∨ d = 3 := by omega
    rcases hd4 with rfl | rfl | rfl | rfl
    · simp -implicitDefEqProofs only [Int.reduceToNat, ↓steps, push_cast, simprocAttr, tte]
      refine callq [[]] [] (c_ftext ⟨#[97]⟩) ?_
      simp -implicitDefEqProofs only [↓steps, push_cast, simprocAttr, tte]
      exact ret_vO' trivial (by simp [textsF]) (by simp [ends]) (by simp [ends]) (by simp [ends])
    · simp -implicitDefEqProofs only [Int.reduceToNat, ↓steps, push_cast, simprocAttr, tte]
      refine callq [[]] [] (c_ftext ⟨#[98]⟩) ?_
      simp -implicitDefEqProofs only [↓steps, push_cast, simprocAttr, tte]
      exact ret_vO' trivial (by simp [textsF]) (by simp [ends]) (by simp [ends]) (by simp [ends])
    · simp -implicitDefEqProofs only [Int.reduceToNat, ↓steps, push_cast, simprocAttr, tte]
      refine callq [[]] [] (c_ftext ⟨#[]⟩) ?_
      simp -implicitDefEqProofs only [↓steps, push_cast, simprocAttr, tte]
      exact ret_vO' trivial (by simp [textsF]) (by simp [ends]) (by simp [ends]) (by simp [ends])
    · simp -implicitDefEqProofs only [Int.reduceToNat, ↓steps, push_cast, simprocAttr, tte]
      refine callq [[]] [] (c_ftext ⟨#[97, 98]⟩) ?_
      simp -implicitDefEqProofs only [↓steps, push_cast, simprocAttr, tte]
      exact ret_vO' trivial (by simp [textsF]) (by simp [ends]) (by simp [ends]) (by simp [ends])
  · simp -implicitDefEqProofs only [argT, ↓steps, push_cast, simprocAttr, tte]
    refine callq [[], []] [(1000, 1000)] (c_N (n := 4) (p := p) hx (by omega) (by omega)) ?_
    simp -implicitDefEqProofs only [↓steps, push_cast, simprocAttr, tte]
    refine bcase_intro (fun g0 => ?_) fun g0 => ?_
    · have e0 : drawn xs p 4 = 3 := by simpa using g0
      exact ret_vO' trivial (by simp [valueF, e0, nullV]) (by simp [ends]) (by simp [valueF, e0, ends]) (by simp [ends])
    have e0 : ¬ drawn xs p 4 = 3 := by simpa using g0
    refine bcase_intro (fun g1 => ?_) fun g1 => ?_
    · have e1 : typ = 1 := by simpa using g1
      refine callq [[], [1]] [(1000, 1000)] (c_pick (p := p + 1) hx intsF (by decide) (by decide)) ?_ (hargs := by simp [ends, bs, intsF, rowsOf_cons, rowsOf_nil, rI])
      simp -implicitDefEqProofs only [↓steps, push_cast, simprocAttr, tte]
      refine callq [[]] [] (c_fint (intsF.getD (drawn xs (p + 1) (intsF.length : Int)).toNat default)) ?_
      simp -implicitDefEqProofs only [↓steps, push_cast, simprocAttr, tte]
      exact ret_vO' trivial (by simp [valueF, valF, e1, e0, intsF]) (by simp [ends]) (by simp [valueF, e0, e1, ends]) (by simp [ends])
    refine bcase_intro (fun g2 => ?_) fun g2 => ?_
    · have e1 : ¬ typ = 1 := by simpa using g1
      have e2 : typ = 2 := by simpa using g2
      refine callq [[], []] [(1000, 1000)] (c_N (n := 2) (p := p + 1) hx (by omega) (by omega)) ?_
      simp -implicitDefEqProofs only [↓steps, push_cast, simprocAttr, tte]
      refine callq [[]] [] (c_fbool (drawn xs (p + 1) 2 == 1)) ?_
      simp -implicitDefEqProofs only [↓steps, push_cast, simprocAttr, tte]
      exact ret_vO' trivial (by simp [valueF, valF, e0, e2, ofV]) (by simp [ends]) (by simp [valueF, e0, e2, ends]) (by simp [ends])
    have e1 : ¬ typ = 1 := by simpa using g1
    have e2 : ¬ typ = 2 := by simpa using g2
    refine callq [[], []] [(1000, 1000)] (c_N (n := 4) (p := p + 1) hx (by omega) (by omega)) ?_
    simp -implicitDefEqProofs only [↓steps, push_cast, simprocAttr, tte]
    have hd := h4 (p + 1)
    have hv : valueF xs typ true p = (⟨3, 0, textsF.getD (drawn xs (p + 1) 4).toNat default⟩, p + 1 + 1) := by simp [valueF, valF, e0, e1, e2]
    rw [hv]
    refine ⟨hd, ?_⟩
    clear hv h4 h6
    generalize drawn xs (p + 1) 4 = d at hd ⊢
    have hd4 : d = 0 ∨ d = 1 ∨ d = 2 ∨ d = 3 := by omega
    rcases hd4 with rfl | rfl | rfl | rfl
    · simp -implicitDefEqProofs only [Int.reduceToNat, ↓steps, push_cast, simprocAttr, tte]
      refine callq [[]] [] (c_ftext ⟨#[97]⟩) ?_
      simp -implicitDefEqProofs only [↓steps, push_cast, simprocAttr, tte]
      exact ret_vO' trivial (by simp [textsF]) (by simp [ends]) (by simp [ends]) (by simp [ends])
    · simp -implicitDefEqProofs only [Int.reduceToNat, ↓steps, push_cast, simprocAttr, tte]
      refine callq [[]] [] (c_ftext ⟨#[98]⟩) ?_
      simp -implicitDefEqProofs only [↓steps, push_cast, simprocAttr, tte]
      exact ret_vO' trivial (by simp [textsF]) (by simp [ends]) (by simp [ends]) (by simp [ends])
    · simp -implicitDefEqProofs only [Int.reduceToNat, ↓steps, push_cast, simprocAttr, tte]
      refine callq [[]] [] (c_ftext ⟨#[]⟩) ?_
      simp -implicitDefEqProofs only [↓steps, push_cast, simprocAttr, tte]
      exact ret_vO' trivial (by simp [textsF]) (by simp [ends]) (by simp [ends]) (by simp [ends])
    · simp -implicitDefEqProofs only [Int.reduceToNat, ↓steps, push_cast, simprocAttr, tte]
      refine callq [[]] [] (c_ftext ⟨#[97, 98]⟩) ?_
      simp -implicitDefEqProofs only [↓steps, push_cast, simprocAttr, tte]
      exact ret_vO' trivial (by simp [textsF]) (by simp [ends]) (by simp [ends]) (by simp [ends])
theorem c_fcol (k : Int) : ACall Tryz.prog 47 [num k] [] (aE (.mk 5 0 0 ByteArray.empty k [])) [] := by
  refine enterq mixed ttok Tryz.func47 Tryz.ntmps47 Tryz.results47 ?_
  generalize hr : aE (.mk 5 0 0 ByteArray.empty k []) = R
  simp -implicitDefEqProofs only [argT, ↓steps, push_cast, simprocAttr, tte]
  refine retx_of [0, 0, 0, 0, 0, 6] rfl (by simp) (by simp [rowsOf_length] <;> omega) ?_ (by first | rfl | simp [ends] | (subst_vars; simp [ends])) (by simp [ends]) (by simp [ends])
  rw [← hr]; simp [aE_eq, Ex.op, Ex.type, Ex.num, Ex.text, Ex.col, Ex.kids, rowsOf]
def bin (op : Int) (l : List Ex) : Ex := .mk op 0 0 ByteArray.empty 0 l
theorem c_do (op : Int) (l : List Ex) (hl : l.length ≤ 1000) : ACall Tryz.prog 19 [num op, .d (.sl 6 (rowsOf rE l))] [] (aE (bin op l)) [] := by
  refine enterq mixed ttok Tryz.func19 Tryz.ntmps19 Tryz.results19 ?_
  generalize hr : aE (bin op l) = R
  simp -implicitDefEqProofs only [argT, ↓steps, push_cast, simprocAttr, tte]
  refine retx_of [0, 0, 0, 0, 0, 6] rfl (by simp) (by simp [rowsOf_length] <;> omega) ?_ (by first | rfl | simp [ends] | (subst_vars; simp [ends])) (by simp [ends]) (by simp [ends])
  rw [← hr]; simp [bin, aE_eq, Ex.op, Ex.type, Ex.num, Ex.text, Ex.col, Ex.kids]
theorem c_rconst (v : Val) (t : Int) : ACall Tryz.prog 48 [aV v, num t] [] (aE (constM v t)) [] := by
  refine enterq mixed ttok Tryz.func48 Tryz.ntmps48 Tryz.results48 ?_
  generalize hr : aE (constM v t) = R
  simp -implicitDefEqProofs only [argT, ↓steps, push_cast, simprocAttr, tte]
  refine bcase_intro (fun h => ?_) (fun h => bcase_intro (fun h2 => ?_) (fun h2 => bcase_intro (fun h3 => ?_) (fun h3 => ?_)))
  all_goals
    refine retx_of [0, 0, 0, 0, 0, 6] rfl (by simp) (by simp [rowsOf_length] <;> omega) ?_ (by first | rfl | simp [ends] | (subst_vars; simp [ends])) (by simp [ends]) (by simp [ends])
    rw [← hr]
    simp only [beq_iff_eq, beq_eq_false_iff_ne] at *
    simp [constM, *, aE_eq, Ex.op, Ex.type, Ex.num, Ex.text, Ex.col, Ex.kids, rowsOf]
theorem c_pconst (v : Val) (t : Int) : ACall Tryz.prog 80 [aV v, num t] [] (aE (constM v t)) [] := by
  refine enterq mixed ttok Tryz.func80 Tryz.ntmps80 Tryz.results80 ?_
  generalize hr : aE (constM v t) = R
  simp -implicitDefEqProofs only [argT, ↓steps, push_cast, simprocAttr, tte]
  refine bcase_intro (fun h => ?_) (fun h => bcase_intro (fun h2 => ?_) (fun h2 => bcase_intro (fun h3 => ?_) (fun h3 => ?_)))
  all_goals
    refine retx_of [0, 0, 0, 0, 0, 6] rfl (by simp) (by simp [rowsOf_length] <;> omega) ?_ (by first | rfl | simp [ends] | (subst_vars; simp [ends])) (by simp [ends]) (by simp [ends])
    rw [← hr]
    simp only [beq_iff_eq, beq_eq_false_iff_ne] at *
    simp [constM, *, aE_eq, Ex.op, Ex.type, Ex.num, Ex.text, Ex.col, Ex.kids, rowsOf]
/-- The columns of a type, among the first n. -/
def colsU (types : List Int) (typ : Int) (n : Nat) : List Int := ((List.range n).filter fun c => types.getD c 0 = typ).map fun (c : Nat) => (c : Int)
def cols (types : List Int) (typ : Int) : List Int := colsU types typ types.length
theorem colsU_succ (types : List Int) (typ : Int) (n : Nat) : colsU types typ (n + 1) = if types.getD n 0 = typ then colsU types typ n ++ [(n : Int)] else colsU types typ n := by
  simp only [colsU, List.range_succ, List.filter_append, List.map_append]
  split <;> rename_i h
  · rw [List.filter_cons_of_pos (by simpa using h)]; simp
  · rw [List.filter_cons_of_neg (by simpa using h)]; simp
theorem colsU_length (types : List Int) (typ : Int) (n : Nat) : (colsU types typ n).length ≤ n := by
  induction n with
  | zero => simp [colsU]
  | succ n ih => rw [colsU_succ]; split <;> (try simp only [List.length_append, List.length_cons, List.length_nil]) <;> omega
theorem c_of2 (types : List Int) (typ : Int) (ht : types.length ≤ 1000) : ACall Tryz.prog 46 [ints types, num typ] [] (ints (cols types typ)) [] := by
  refine enterq mixed ttok Tryz.func46 Tryz.ntmps46 Tryz.results46 ?_
  generalize hr : ints (cols types typ) = R
  simp -implicitDefEqProofs only [argT, rI, ↓steps, push_cast, simprocAttr, tte]
  refine loop_count mixed ttok 10 [1, 8, 9] [] (by simp only [pickT, ends, push_cast, simprocAttr]; rfl) (by simp only [pickO, consO_some, ends, push_cast, simprocAttr]; rfl) types.length (fun _ => True) (fun n => [(5, .vec 500 (colsU types typ n).length)]) (fun n => [(500, .vec 3 1 (rowsOf rI (colsU types typ n)) 0)]) trivial ?_ ?_
  · exact (Weak.nilL 5 500 3 1 rfl rfl).trans (Weak.keepL (by simp [cst, colsU, ends]) (by simp [cst, colsU, rowsOf, ends]) (by simp [cst, ends]))
  intro I hI n hn hi
  have hl := colsU_length types typ n
  have hs := colsU_succ types typ n
  simp -implicitDefEqProofs only [cst, rI, ↓steps, push_cast, simprocAttr, tte]
  refine bcase_intro (fun h => ?_) fun h => ?_
  · have h' : n < types.length := by simpa using h
    have hw := wrap_succ h' (by omega)
    have hd : (default : Int) = 0 := rfl
    refine ⟨(by first | omega | trivial | (refine ⟨?_, ?_⟩ <;> first | omega | trivial | (refine ⟨?_, ?_⟩ <;> first | omega | trivial | (refine ⟨?_, ?_⟩ <;> first | omega | trivial | rfl)))), ?_⟩
    refine bcase_intro (fun h2 => ?_) fun h2 => ?_
    · rw [hd] at h2
      rw [if_pos (by simpa using h2)] at hs
      refine ⟨by omega, ?_⟩
      exact cnt_again hI n rfl h' trivial (by simp [hw, hs, rowsOf_append, rI, ends]) (by simp [hw, hs, rowsOf_append, rI, ends]) (by simp [hw, hs, rowsOf_append, rI, ends]) (by simp [hw, hs, rowsOf_append, rI, ends])
    · rw [hd] at h2
      rw [if_neg (by simpa using h2)] at hs
      exact cnt_again hI n rfl h' trivial (by simp [hw, hs, ends]) (by simp [hw, hs, ends]) (by simp [hw, hs, ends]) (by simp [hw, hs, ends])
  have hn' : n = types.length := by simp at h; omega
  subst hn'
  refine retx_of [1] rfl (by simp) (by simp [rowsOf_length] <;> omega) ?_ (by first | rfl | simp [ends] | (subst_vars; simp [ends])) (by simp [ends]) (by simp [ends])
  rw [← hr]; rfl
end Go.Proofs.YtiagabnddihchaaGreatDoor
namespace Go.Proofs.YtiagabnddihchaaGreatDoor
open Go.Am
attribute [local simp, local push_cast] num boo str ints aV aRow withK_kids
set_option linter.unusedVariables false
set_option maxRecDepth 100000
set_option maxHeartbeats 4000000
theorem wk_op (e : Ex) (ks : List Ex) : (withK e ks).op = e.op := rfl
theorem wk_type (e : Ex) (ks : List Ex) : (withK e ks).type = e.type := rfl
theorem wk_num (e : Ex) (ks : List Ex) : (withK e ks).num = e.num := rfl
theorem wk_text (e : Ex) (ks : List Ex) : (withK e ks).text = e.text := rfl
theorem wk_col (e : Ex) (ks : List Ex) : (withK e ks).col = e.col := rfl
attribute [local simp, local push_cast] wk_op wk_type wk_num wk_text wk_col
def foldTo (e : Ex) (n : Nat) : List Ex := (e.kids.take n).map foldM
theorem foldTo_succ (e : Ex) (n : Nat) (h : n < e.kids.length) : foldTo e (n + 1) = foldTo e n ++ [foldM (e.kids.getD n default)] := by
  rw [foldTo, take_snoc _ _ h, List.map_append]; rfl
theorem foldTo_length (e : Ex) (n : Nat) (h : n ≤ e.kids.length) : (foldTo e n).length = n := by simp [foldTo]; omega
def allTo (e : Ex) (n : Nat) : Bool := decide ((e.kids.length : Int) > 0) && (foldTo e n).all isConst
theorem allTo_succ (e : Ex) (n : Nat) (h : n < e.kids.length) : allTo e (n + 1) = (allTo e n && isConst (foldM (e.kids.getD n default))) := by
  rw [allTo, foldTo_succ e n h, List.all_append, List.all_cons, List.all_nil, Bool.and_true, ← Bool.and_assoc]; rfl
theorem allTo_zero (e : Ex) : allTo e 0 = decide ((e.kids.length : Int) > 0) := by simp [allTo, foldTo]
def foldK (e : Ex) (K : List Ex) : Ex :=
  if K ≠ [] ∧ K.all isConst = true ∧ fitsM (withK e K) = true then constM (evalM [] (withK e K)) (resultM (withK e K))
  else if e.op = 22 ∧ eitherM (withK e K) 0 = true then ebool 0
  else if e.op = 23 ∧ eitherM (withK e K) 1 = true then ebool 1
  else if K = [] then withK e K
  else if e.op = 24 ∧ K.length = 1 ∧ (K.getD 0 default).op = 24 ∧ (K.getD 0 default).kids.length = 1 ∧ logicalM ((K.getD 0 default).kids.getD 0 default) = true then (K.getD 0 default).kids.getD 0 default
  else if e.op = 25 ∧ K.length = 1 ∧ knownM (K.getD 0 default) = true then K.getD 0 default
  else if e.op = 26 ∧ K.length = 3 ∧ (K.getD 0 default).op = 3 ∧ (K.getD 0 default).kids.length = 0 then (if (K.getD 0 default).num = 1 then K.getD 1 default else K.getD 2 default)
  else withK e K
theorem foldO_eq (e : Ex) (K : List Ex) : foldO (withK e K) = foldK e K := rfl
def vE (e : Ex) : List A := [.d (.lit (.int .i64 e.op)), .d (.lit (.int .i64 e.type)), .d (.lit (.int .i64 e.num)), .d (.lit (.string e.text)), .d (.lit (.int .i64 e.col)), .d (.sl 6 (rowsOf rE e.kids))]
def zE0 : List A := [.d (.lit (.int .i64 0)), .d (.lit (.int .i64 0)), .d (.lit (.int .i64 0)), .d (.lit (.string ByteArray.empty)), .d (.lit (.int .i64 0)), .snil]
def SF (e : Ex) (n : Nat) : SL :=
  ⟨[(20, .d (.lit (.int .i64 n))), (19, .d (.lit (.int .i64 e.kids.length))), (18, .d (.sl 6 (rowsOf rE e.kids))), (4, boo (allTo e n)), (1, .ptr 1 0), (2, .ptr 2 0), (3, .ptr 3 0)],
   [(1, .var (vE e)), (2, .var zE0), (3, .var [.d (.lit (.int .i64 e.op)), .d (.lit (.int .i64 e.type)), .d (.lit (.int .i64 e.num)), .d (.lit (.string e.text)), .d (.lit (.int .i64 e.col)), .vec 500 n]),
    (500, .vec 29 6 (rowsOf rE (foldTo e n)) 0)]⟩
theorem c_fold : ∀ e : Ex, Ok12 e → ACall Tryz.prog 30 [aE e] [] (aE (foldM e)) [] :=
  ex_ind (p := fun e => Ok12 e → ACall Tryz.prog 30 [aE e] [] (aE (foldM e)) []) fun e ih ho => by
  refine enterq mixed ttok Tryz.func30 Tryz.ntmps30 Tryz.results30 ?_
  generalize hr : aE (foldM e) = R
  have hl := ho.kids
  simp -implicitDefEqProofs only [argT, ↓steps, push_cast, simprocAttr, tte]
  refine loopx_weak ?_
  refine loop_gen mixed ttok (fun n : Nat => SF e n) (fun n => e.kids.length - n) (fun n => n ≤ e.kids.length) 0 (Nat.zero_le _) ?_ ?_
  · exact (Weak.nilCellL 3 5 500 29 6 rfl rfl rfl).trans (Weak.keepL (by simp [SF, allTo_zero, vE, ends]) (by simp [SF, foldTo, rowsOf, vE, zE0, ends]) (by simp [SF, ends]))
  intro I hI n hn
  have hl2 := foldTo_length e n hn
  simp -implicitDefEqProofs only [SF, vE, zE0, ↓steps, push_cast, simprocAttr, tte]
  refine bcase_intro (fun h => ?_) fun h => ?_
  · have h' : n < e.kids.length := by simpa using h
    have hw := wrap_succ h' (by omega)
    have hs := foldTo_succ e n h'
    have ha := allTo_succ e n h'
    refine ⟨(by first | omega | trivial | (refine ⟨?_, ?_⟩ <;> first | omega | trivial | (refine ⟨?_, ?_⟩ <;> first | omega | trivial | (refine ⟨?_, ?_⟩ <;> first | omega | trivial | rfl)))), ?_⟩
    refine callq [[0, 0, 0, 0, 0, 6]] [] (ih _ (getD_mem h') (ho.kid (getD_mem h'))) ?_
    simp -implicitDefEqProofs only [↓steps, push_cast, simprocAttr, tte]
    generalize foldM (e.kids.getD n default) = x at hs ha ⊢
    refine callq [[0, 0, 0, 0, 0, 6]] [] (c_constant x) ?_
    simp -implicitDefEqProofs only [↓steps, push_cast, simprocAttr, tte]
    refine bcase_intro (fun h2 => ?_) fun h2 => ?_
    · refine ⟨⟨hl2.symm, by rw [hl2]; omega⟩, ?_⟩
      exact gen_again hI (n + 1) h' (by show e.kids.length - (n + 1) < e.kids.length - n; omega) (Weak.keepL (by simp [SF, hw, ha, h2, ends]) (by simp [SF, hs, hl2, vE, zE0, rowsOf_append, ends]) (by simp [SF, ends]))
    · refine ⟨⟨hl2.symm, by rw [hl2]; omega⟩, ?_⟩
      exact gen_again hI (n + 1) h' (by show e.kids.length - (n + 1) < e.kids.length - n; omega) (Weak.keepL (by simp [SF, hw, ha, h2, ends]) (by simp [SF, hs, hl2, vE, zE0, rowsOf_append, ends]) (by simp [SF, ends]))
  have hn2 : n = e.kids.length := by have := of_decide_eq_false h; omega
  subst hn2
  clear hI
  have hT : foldTo e e.kids.length = e.kids.map foldM := by rw [foldTo, List.take_length]
  have hk : ∀ k ∈ foldTo e e.kids.length, Ok12 k := fun k hk => by
    rw [hT] at hk
    obtain ⟨x, hx, rfl⟩ := List.mem_map.1 hk
    exact ok12_fold x (ho.kid hx)
  have hA : allTo e e.kids.length = (decide ((e.kids.length : Int) > 0) && (foldTo e e.kids.length).all isConst) := rfl
  rw [foldM_eq, ← hT] at hr
  generalize allTo e e.kids.length = al at hA ⊢
  generalize hK : foldTo e e.kids.length = K at hk hr hA hl2 ⊢
  have oO : Ok12 (withK e K) := ⟨_, by show K.length ≤ _; omega, hk⟩
  rw [show decide ((e.kids.length : Int) > 0) = decide ((K.length : Int) > 0) from by rw [hl2]] at hA
  refine ⟨⟨[(1, .ptr 1 0), (2, .ptr 2 0), (3, .ptr 3 0), (4, boo al)], [(1, .var (vE e)), (2, .var zE0), (3, .var (vE (withK e K)))]⟩, ?_, ?_⟩
  · rw [← hl2]
    exact (Weak.frzCellL 3 5 6 rfl rfl rfl (by simp [rowsOf_length]) rfl).trans (Weak.keepL (by simp [ends]) (by simp [vE, zE0, withK_kids, wk_op, ends]) (by simp [ends]))
  clear hT ih h hK
  rw [← hl2] at hl
  clear hl2
  rw [foldO_eq] at hr
  unfold foldK at hr
  have hop : e.op = 22 ∨ e.op = 23 ∨ e.op = 24 ∨ e.op = 25 ∨ e.op = 26 ∨ (e.op ≠ 22 ∧ e.op ≠ 23 ∧ e.op ≠ 24 ∧ e.op ≠ 25 ∧ e.op ≠ 26) := by omega
  -- the constant
  have hcst : al = true → fitsM (withK e K) = true → K ≠ [] ∧ K.all isConst = true ∧ fitsM (withK e K) = true := fun h1 h2 => by
    rw [hA, Bool.and_eq_true, decide_eq_true_eq] at h1
    exact ⟨fun e => by rw [e] at h1; simp at h1, h1.2, h2⟩
  have hncst : (al = false ∨ fitsM (withK e K) = false) → ¬ (K ≠ [] ∧ K.all isConst = true ∧ fitsM (withK e K) = true) := fun h1 h2 => by
    rcases h1 with h1 | h1
    · rw [hA, h2.2.1, Bool.and_true, decide_eq_false_iff_not] at h1
      have : K.length ≠ 0 := fun e => h2.1 (List.length_eq_zero_iff.1 e)
      omega
    · rw [h1] at h2; exact absurd h2.2.2 (by decide)
  clear hA
  rcases hop with e22 | e23 | e24 | e25 | e26 | eo
  · skip
    have q22 : (e.op == 22) = true := by rw [e22]; rfl
    have n23 : ¬ e.op = 23 := by omega
    have q23 : (e.op == 23) = false := beq_false_of_ne n23
    have n24 : ¬ e.op = 24 := by omega
    have q24 : (e.op == 24) = false := beq_false_of_ne n24
    have n25 : ¬ e.op = 25 := by omega
    have q25 : (e.op == 25) = false := beq_false_of_ne n25
    have n26 : ¬ e.op = 26 := by omega
    have q26 : (e.op == 26) = false := beq_false_of_ne n26
    simp -implicitDefEqProofs only [vE, zE0, q22, q23, q24, q25, q26, ↓steps, push_cast, simprocAttr, tte]
    refine bcase_intro (fun a0 => ?_) fun a0 => ?_
    · refine callq [[0, 0, 0, 0, 0, 6]] [] (c_fits (withK e K)) ?_
      simp -implicitDefEqProofs only [q22, q23, q24, q25, q26, ↓steps, push_cast, simprocAttr, tte]
      refine bcase_intro (fun a2 => ?_) fun a2 => ?_
      · have a1 := hcst a0 a2
        rw [if_pos a1] at hr
        refine callq [[0, 0, 0, 0, 0, 6], [3]] [] (c_eval [] (withK e K) oO) ?_
        simp -implicitDefEqProofs only [↓steps, push_cast, simprocAttr, tte]
        refine callq [[0, 0, 0, 0, 0, 6]] [] (c_result23 (withK e K) a2 (fun k hk => List.all_eq_true.1 a1.2.1 k hk)) ?_
        simp -implicitDefEqProofs only [↓steps, push_cast, simprocAttr, tte]
        refine callq [[0, 0, 0], []] [] (c_pconst (evalM [] (withK e K)) (resultM (withK e K))) ?_
        simp -implicitDefEqProofs only [↓steps, push_cast, simprocAttr, tte]
        refine ⟨drawx_intro (by kernel_rfl), ?_⟩
        refine retx_of [0, 0, 0, 0, 0, 6] rfl (by simp) (by simp [rowsOf_length] <;> omega) ?_ (by first | rfl | simp [ends] | (subst_vars; simp [ends])) (by simp [ends]) (by simp [ends])
        rw [← hr]; simp [aE_eq]
      have a1 := hncst (.inr a2)
      rw [if_neg a1] at hr
      refine callq [[0, 0, 0, 0, 0, 6], []] [] (c_either (withK e K) 0) ?_
      simp -implicitDefEqProofs only [q22, q23, q24, q25, q26, ↓steps, push_cast, simprocAttr, tte]
      refine bcase_intro (fun g => ?_) fun g => ?_
      · rw [if_pos ⟨e22, g⟩] at hr
        refine retx_of [0, 0, 0, 0, 0, 6] rfl (by simp) (by simp [rowsOf_length] <;> omega) ?_ (by first | rfl | simp [ends] | (subst_vars; simp [ends])) (by simp [ends]) (by simp [ends])
        rw [← hr]; simp [aE_eq, ebool, Ex.op, Ex.type, Ex.num, Ex.text, Ex.col, Ex.kids, rowsOf]
      rw [if_neg (fun h => by rw [g] at h; exact absurd h.2 (by decide))] at hr
      rw [if_neg (fun h => n23 h.1)] at hr
      refine bcase_intro (fun z => ?_) fun z => ?_
      · have hz : K = [] := List.length_eq_zero_iff.1 (by simp only [beq_iff_eq] at z; omega)
        rw [if_pos hz] at hr
        refine retx_of [0, 0, 0, 0, 0, 6] rfl (by simp) (by simp [rowsOf_length] <;> omega) ?_ (by first | rfl | simp [ends] | (subst_vars; simp [ends])) (by simp [ends]) (by simp [ends])
        rw [← hr]; simp [aE_eq, wk_op, wk_type, wk_num, wk_text, wk_col, withK_kids]
      have hz : ¬ K = [] := fun h => by rw [h] at z; exact absurd z (by decide)
      rw [if_neg hz] at hr
      have hz0 : 0 < K.length := Nat.pos_of_ne_zero fun h => hz (List.length_eq_zero_iff.1 h)
      refine ⟨by omega, ?_⟩
      rw [if_neg (fun h => n24 h.1), if_neg (fun h => n25 h.1), if_neg (fun h => n26 h.1)] at hr
      refine retx_of [0, 0, 0, 0, 0, 6] rfl (by simp) (by simp [rowsOf_length] <;> omega) ?_ (by first | rfl | simp [ends] | (subst_vars; simp [ends])) (by simp [ends]) (by simp [ends])
      rw [← hr]; simp [aE_eq, wk_op, wk_type, wk_num, wk_text, wk_col, withK_kids]
    have a1 := hncst (.inl a0)
    rw [if_neg a1] at hr
    refine callq [[0, 0, 0, 0, 0, 6], []] [] (c_either (withK e K) 0) ?_
    simp -implicitDefEqProofs only [q22, q23, q24, q25, q26, ↓steps, push_cast, simprocAttr, tte]
    refine bcase_intro (fun g => ?_) fun g => ?_
    · rw [if_pos ⟨e22, g⟩] at hr
      refine retx_of [0, 0, 0, 0, 0, 6] rfl (by simp) (by simp [rowsOf_length] <;> omega) ?_ (by first | rfl | simp [ends] | (subst_vars; simp [ends])) (by simp [ends]) (by simp [ends])
      rw [← hr]; simp [aE_eq, ebool, Ex.op, Ex.type, Ex.num, Ex.text, Ex.col, Ex.kids, rowsOf]
    rw [if_neg (fun h => by rw [g] at h; exact absurd h.2 (by decide))] at hr
    rw [if_neg (fun h => n23 h.1)] at hr
    refine bcase_intro (fun z => ?_) fun z => ?_
    · have hz : K = [] := List.length_eq_zero_iff.1 (by simp only [beq_iff_eq] at z; omega)
      rw [if_pos hz] at hr
      refine retx_of [0, 0, 0, 0, 0, 6] rfl (by simp) (by simp [rowsOf_length] <;> omega) ?_ (by first | rfl | simp [ends] | (subst_vars; simp [ends])) (by simp [ends]) (by simp [ends])
      rw [← hr]; simp [aE_eq, wk_op, wk_type, wk_num, wk_text, wk_col, withK_kids]
    have hz : ¬ K = [] := fun h => by rw [h] at z; exact absurd z (by decide)
    rw [if_neg hz] at hr
    have hz0 : 0 < K.length := Nat.pos_of_ne_zero fun h => hz (List.length_eq_zero_iff.1 h)
    refine ⟨by omega, ?_⟩
    rw [if_neg (fun h => n24 h.1), if_neg (fun h => n25 h.1), if_neg (fun h => n26 h.1)] at hr
    refine retx_of [0, 0, 0, 0, 0, 6] rfl (by simp) (by simp [rowsOf_length] <;> omega) ?_ (by first | rfl | simp [ends] | (subst_vars; simp [ends])) (by simp [ends]) (by simp [ends])
    rw [← hr]; simp [aE_eq, wk_op, wk_type, wk_num, wk_text, wk_col, withK_kids]
  · skip
    have n22 : ¬ e.op = 22 := by omega
    have q22 : (e.op == 22) = false := beq_false_of_ne n22
    have q23 : (e.op == 23) = true := by rw [e23]; rfl
    have n24 : ¬ e.op = 24 := by omega
    have q24 : (e.op == 24) = false := beq_false_of_ne n24
    have n25 : ¬ e.op = 25 := by omega
    have q25 : (e.op == 25) = false := beq_false_of_ne n25
    have n26 : ¬ e.op = 26 := by omega
    have q26 : (e.op == 26) = false := beq_false_of_ne n26
    simp -implicitDefEqProofs only [vE, zE0, q22, q23, q24, q25, q26, ↓steps, push_cast, simprocAttr, tte]
    refine bcase_intro (fun a0 => ?_) fun a0 => ?_
    · refine callq [[0, 0, 0, 0, 0, 6]] [] (c_fits (withK e K)) ?_
      simp -implicitDefEqProofs only [q22, q23, q24, q25, q26, ↓steps, push_cast, simprocAttr, tte]
      refine bcase_intro (fun a2 => ?_) fun a2 => ?_
      · have a1 := hcst a0 a2
        rw [if_pos a1] at hr
        refine callq [[0, 0, 0, 0, 0, 6], [3]] [] (c_eval [] (withK e K) oO) ?_
        simp -implicitDefEqProofs only [↓steps, push_cast, simprocAttr, tte]
        refine callq [[0, 0, 0, 0, 0, 6]] [] (c_result23 (withK e K) a2 (fun k hk => List.all_eq_true.1 a1.2.1 k hk)) ?_
        simp -implicitDefEqProofs only [↓steps, push_cast, simprocAttr, tte]
        refine callq [[0, 0, 0], []] [] (c_pconst (evalM [] (withK e K)) (resultM (withK e K))) ?_
        simp -implicitDefEqProofs only [↓steps, push_cast, simprocAttr, tte]
        refine ⟨drawx_intro (by kernel_rfl), ?_⟩
        refine retx_of [0, 0, 0, 0, 0, 6] rfl (by simp) (by simp [rowsOf_length] <;> omega) ?_ (by first | rfl | simp [ends] | (subst_vars; simp [ends])) (by simp [ends]) (by simp [ends])
        rw [← hr]; simp [aE_eq]
      have a1 := hncst (.inr a2)
      rw [if_neg a1] at hr
      rw [if_neg (fun h => n22 h.1)] at hr
      refine callq [[0, 0, 0, 0, 0, 6], []] [] (c_either (withK e K) 1) ?_
      simp -implicitDefEqProofs only [q22, q23, q24, q25, q26, ↓steps, push_cast, simprocAttr, tte]
      refine bcase_intro (fun g => ?_) fun g => ?_
      · rw [if_pos ⟨e23, g⟩] at hr
        refine retx_of [0, 0, 0, 0, 0, 6] rfl (by simp) (by simp [rowsOf_length] <;> omega) ?_ (by first | rfl | simp [ends] | (subst_vars; simp [ends])) (by simp [ends]) (by simp [ends])
        rw [← hr]; simp [aE_eq, ebool, Ex.op, Ex.type, Ex.num, Ex.text, Ex.col, Ex.kids, rowsOf]
      rw [if_neg (fun h => by rw [g] at h; exact absurd h.2 (by decide))] at hr
      refine bcase_intro (fun z => ?_) fun z => ?_
      · have hz : K = [] := List.length_eq_zero_iff.1 (by simp only [beq_iff_eq] at z; omega)
        rw [if_pos hz] at hr
        refine retx_of [0, 0, 0, 0, 0, 6] rfl (by simp) (by simp [rowsOf_length] <;> omega) ?_ (by first | rfl | simp [ends] | (subst_vars; simp [ends])) (by simp [ends]) (by simp [ends])
        rw [← hr]; simp [aE_eq, wk_op, wk_type, wk_num, wk_text, wk_col, withK_kids]
      have hz : ¬ K = [] := fun h => by rw [h] at z; exact absurd z (by decide)
      rw [if_neg hz] at hr
      have hz0 : 0 < K.length := Nat.pos_of_ne_zero fun h => hz (List.length_eq_zero_iff.1 h)
      refine ⟨by omega, ?_⟩
      rw [if_neg (fun h => n24 h.1), if_neg (fun h => n25 h.1), if_neg (fun h => n26 h.1)] at hr
      refine retx_of [0, 0, 0, 0, 0, 6] rfl (by simp) (by simp [rowsOf_length] <;> omega) ?_ (by first | rfl | simp [ends] | (subst_vars; simp [ends])) (by simp [ends]) (by simp [ends])
      rw [← hr]; simp [aE_eq, wk_op, wk_type, wk_num, wk_text, wk_col, withK_kids]
    have a1 := hncst (.inl a0)
    rw [if_neg a1] at hr
    rw [if_neg (fun h => n22 h.1)] at hr
    refine callq [[0, 0, 0, 0, 0, 6], []] [] (c_either (withK e K) 1) ?_
    simp -implicitDefEqProofs only [q22, q23, q24, q25, q26, ↓steps, push_cast, simprocAttr, tte]
    refine bcase_intro (fun g => ?_) fun g => ?_
    · rw [if_pos ⟨e23, g⟩] at hr
      refine retx_of [0, 0, 0, 0, 0, 6] rfl (by simp) (by simp [rowsOf_length] <;> omega) ?_ (by first | rfl | simp [ends] | (subst_vars; simp [ends])) (by simp [ends]) (by simp [ends])
      rw [← hr]; simp [aE_eq, ebool, Ex.op, Ex.type, Ex.num, Ex.text, Ex.col, Ex.kids, rowsOf]
    rw [if_neg (fun h => by rw [g] at h; exact absurd h.2 (by decide))] at hr
    refine bcase_intro (fun z => ?_) fun z => ?_
    · have hz : K = [] := List.length_eq_zero_iff.1 (by simp only [beq_iff_eq] at z; omega)
      rw [if_pos hz] at hr
      refine retx_of [0, 0, 0, 0, 0, 6] rfl (by simp) (by simp [rowsOf_length] <;> omega) ?_ (by first | rfl | simp [ends] | (subst_vars; simp [ends])) (by simp [ends]) (by simp [ends])
      rw [← hr]; simp [aE_eq, wk_op, wk_type, wk_num, wk_text, wk_col, withK_kids]
    have hz : ¬ K = [] := fun h => by rw [h] at z; exact absurd z (by decide)
    rw [if_neg hz] at hr
    have hz0 : 0 < K.length := Nat.pos_of_ne_zero fun h => hz (List.length_eq_zero_iff.1 h)
    refine ⟨by omega, ?_⟩
    rw [if_neg (fun h => n24 h.1), if_neg (fun h => n25 h.1), if_neg (fun h => n26 h.1)] at hr
    refine retx_of [0, 0, 0, 0, 0, 6] rfl (by simp) (by simp [rowsOf_length] <;> omega) ?_ (by first | rfl | simp [ends] | (subst_vars; simp [ends])) (by simp [ends]) (by simp [ends])
    rw [← hr]; simp [aE_eq, wk_op, wk_type, wk_num, wk_text, wk_col, withK_kids]
  · skip
    have n22 : ¬ e.op = 22 := by omega
    have q22 : (e.op == 22) = false := beq_false_of_ne n22
    have n23 : ¬ e.op = 23 := by omega
    have q23 : (e.op == 23) = false := beq_false_of_ne n23
    have q24 : (e.op == 24) = true := by rw [e24]; rfl
    have n25 : ¬ e.op = 25 := by omega
    have q25 : (e.op == 25) = false := beq_false_of_ne n25
    have n26 : ¬ e.op = 26 := by omega
    have q26 : (e.op == 26) = false := beq_false_of_ne n26
    simp -implicitDefEqProofs only [vE, zE0, q22, q23, q24, q25, q26, ↓steps, push_cast, simprocAttr, tte]
    refine bcase_intro (fun a0 => ?_) fun a0 => ?_
    · refine callq [[0, 0, 0, 0, 0, 6]] [] (c_fits (withK e K)) ?_
      simp -implicitDefEqProofs only [q22, q23, q24, q25, q26, ↓steps, push_cast, simprocAttr, tte]
      refine bcase_intro (fun a2 => ?_) fun a2 => ?_
      · have a1 := hcst a0 a2
        rw [if_pos a1] at hr
        refine callq [[0, 0, 0, 0, 0, 6], [3]] [] (c_eval [] (withK e K) oO) ?_
        simp -implicitDefEqProofs only [↓steps, push_cast, simprocAttr, tte]
        refine callq [[0, 0, 0, 0, 0, 6]] [] (c_result23 (withK e K) a2 (fun k hk => List.all_eq_true.1 a1.2.1 k hk)) ?_
        simp -implicitDefEqProofs only [↓steps, push_cast, simprocAttr, tte]
        refine callq [[0, 0, 0], []] [] (c_pconst (evalM [] (withK e K)) (resultM (withK e K))) ?_
        simp -implicitDefEqProofs only [↓steps, push_cast, simprocAttr, tte]
        refine ⟨drawx_intro (by kernel_rfl), ?_⟩
        refine retx_of [0, 0, 0, 0, 0, 6] rfl (by simp) (by simp [rowsOf_length] <;> omega) ?_ (by first | rfl | simp [ends] | (subst_vars; simp [ends])) (by simp [ends]) (by simp [ends])
        rw [← hr]; simp [aE_eq]
      have a1 := hncst (.inr a2)
      rw [if_neg a1] at hr
      rw [if_neg (fun h => n22 h.1), if_neg (fun h => n23 h.1)] at hr
      refine bcase_intro (fun z => ?_) fun z => ?_
      · have hz : K = [] := List.length_eq_zero_iff.1 (by simp only [beq_iff_eq] at z; omega)
        rw [if_pos hz] at hr
        refine retx_of [0, 0, 0, 0, 0, 6] rfl (by simp) (by simp [rowsOf_length] <;> omega) ?_ (by first | rfl | simp [ends] | (subst_vars; simp [ends])) (by simp [ends]) (by simp [ends])
        rw [← hr]; simp [aE_eq, wk_op, wk_type, wk_num, wk_text, wk_col, withK_kids]
      have hz : ¬ K = [] := fun h => by rw [h] at z; exact absurd z (by decide)
      rw [if_neg hz] at hr
      have hz0 : 0 < K.length := Nat.pos_of_ne_zero fun h => hz (List.length_eq_zero_iff.1 h)
      refine ⟨by omega, ?_⟩
      refine bcase_intro (fun g0 => ?_) fun g0 => ?_
      · skip
        have hl1 : K.length = 1 := by simp only [beq_iff_eq] at g0; omega
        refine bcase_intro (fun g1 => ?_) fun g1 => ?_
        · skip
          refine bcase_intro (fun g2 => ?_) fun g2 => ?_
          · have gl : (K.getD 0 default).kids.length = 1 := by simp only [beq_iff_eq] at g2; omega
            refine ⟨by omega, ?_⟩
            refine callq [[0, 0, 0, 0, 0, 6]] [] (c_logical ((K.getD 0 default).kids.getD 0 default)) ?_
            simp -implicitDefEqProofs only [q22, q23, q24, q25, q26, ↓steps, push_cast, simprocAttr, tte]
            refine bcase_intro (fun g3 => ?_) fun g3 => ?_
            · rw [if_pos ⟨e24, hl1, by simpa using g1, gl, g3⟩] at hr
              refine ⟨by omega, ?_⟩
              refine retx_of [0, 0, 0, 0, 0, 6] rfl (by simp) (by simp [rowsOf_length] <;> omega) ?_ (by first | rfl | simp [ends] | (subst_vars; simp [ends])) (by simp [ends]) (by simp [ends])
              rw [← hr]; simp [aE_eq]
            rw [if_neg (fun h => by rw [g3] at h; exact absurd h.2.2.2.2 (by decide)), if_neg (fun h => n25 h.1), if_neg (fun h => n26 h.1)] at hr
            refine retx_of [0, 0, 0, 0, 0, 6] rfl (by simp) (by simp [rowsOf_length] <;> omega) ?_ (by first | rfl | simp [ends] | (subst_vars; simp [ends])) (by simp [ends]) (by simp [ends])
            rw [← hr]; simp [aE_eq, wk_op, wk_type, wk_num, wk_text, wk_col, withK_kids]
          rw [if_neg (fun h => by rw [h.2.2.2.1] at g2; exact absurd g2 (by decide)), if_neg (fun h => n25 h.1), if_neg (fun h => n26 h.1)] at hr
          refine retx_of [0, 0, 0, 0, 0, 6] rfl (by simp) (by simp [rowsOf_length] <;> omega) ?_ (by first | rfl | simp [ends] | (subst_vars; simp [ends])) (by simp [ends]) (by simp [ends])
          rw [← hr]; simp [aE_eq, wk_op, wk_type, wk_num, wk_text, wk_col, withK_kids]
        rw [if_neg (fun h => by rw [h.2.2.1] at g1; exact absurd g1 (by decide)), if_neg (fun h => n25 h.1), if_neg (fun h => n26 h.1)] at hr
        refine retx_of [0, 0, 0, 0, 0, 6] rfl (by simp) (by simp [rowsOf_length] <;> omega) ?_ (by first | rfl | simp [ends] | (subst_vars; simp [ends])) (by simp [ends]) (by simp [ends])
        rw [← hr]; simp [aE_eq, wk_op, wk_type, wk_num, wk_text, wk_col, withK_kids]
      have hl1 : ¬ K.length = 1 := by simp only [beq_eq_false_iff_ne, ne_eq] at g0; omega
      rw [if_neg (fun h => hl1 h.2.1), if_neg (fun h => n25 h.1), if_neg (fun h => n26 h.1)] at hr
      refine retx_of [0, 0, 0, 0, 0, 6] rfl (by simp) (by simp [rowsOf_length] <;> omega) ?_ (by first | rfl | simp [ends] | (subst_vars; simp [ends])) (by simp [ends]) (by simp [ends])
      rw [← hr]; simp [aE_eq, wk_op, wk_type, wk_num, wk_text, wk_col, withK_kids]
    have a1 := hncst (.inl a0)
    rw [if_neg a1] at hr
    rw [if_neg (fun h => n22 h.1), if_neg (fun h => n23 h.1)] at hr
    refine bcase_intro (fun z => ?_) fun z => ?_
    · have hz : K = [] := List.length_eq_zero_iff.1 (by simp only [beq_iff_eq] at z; omega)
      rw [if_pos hz] at hr
      refine retx_of [0, 0, 0, 0, 0, 6] rfl (by simp) (by simp [rowsOf_length] <;> omega) ?_ (by first | rfl | simp [ends] | (subst_vars; simp [ends])) (by simp [ends]) (by simp [ends])
      rw [← hr]; simp [aE_eq, wk_op, wk_type, wk_num, wk_text, wk_col, withK_kids]
    have hz : ¬ K = [] := fun h => by rw [h] at z; exact absurd z (by decide)
    rw [if_neg hz] at hr
    have hz0 : 0 < K.length := Nat.pos_of_ne_zero fun h => hz (List.length_eq_zero_iff.1 h)
    refine ⟨by omega, ?_⟩
    refine bcase_intro (fun g0 => ?_) fun g0 => ?_
    · skip
      have hl1 : K.length = 1 := by simp only [beq_iff_eq] at g0; omega
      refine bcase_intro (fun g1 => ?_) fun g1 => ?_
      · skip
        refine bcase_intro (fun g2 => ?_) fun g2 => ?_
        · have gl : (K.getD 0 default).kids.length = 1 := by simp only [beq_iff_eq] at g2; omega
          refine ⟨by omega, ?_⟩
          refine callq [[0, 0, 0, 0, 0, 6]] [] (c_logical ((K.getD 0 default).kids.getD 0 default)) ?_
          simp -implicitDefEqProofs only [q22, q23, q24, q25, q26, ↓steps, push_cast, simprocAttr, tte]
          refine bcase_intro (fun g3 => ?_) fun g3 => ?_
          · rw [if_pos ⟨e24, hl1, by simpa using g1, gl, g3⟩] at hr
            refine ⟨by omega, ?_⟩
            refine retx_of [0, 0, 0, 0, 0, 6] rfl (by simp) (by simp [rowsOf_length] <;> omega) ?_ (by first | rfl | simp [ends] | (subst_vars; simp [ends])) (by simp [ends]) (by simp [ends])
            rw [← hr]; simp [aE_eq]
          rw [if_neg (fun h => by rw [g3] at h; exact absurd h.2.2.2.2 (by decide)), if_neg (fun h => n25 h.1), if_neg (fun h => n26 h.1)] at hr
          refine retx_of [0, 0, 0, 0, 0, 6] rfl (by simp) (by simp [rowsOf_length] <;> omega) ?_ (by first | rfl | simp [ends] | (subst_vars; simp [ends])) (by simp [ends]) (by simp [ends])
          rw [← hr]; simp [aE_eq, wk_op, wk_type, wk_num, wk_text, wk_col, withK_kids]
        rw [if_neg (fun h => by rw [h.2.2.2.1] at g2; exact absurd g2 (by decide)), if_neg (fun h => n25 h.1), if_neg (fun h => n26 h.1)] at hr
        refine retx_of [0, 0, 0, 0, 0, 6] rfl (by simp) (by simp [rowsOf_length] <;> omega) ?_ (by first | rfl | simp [ends] | (subst_vars; simp [ends])) (by simp [ends]) (by simp [ends])
        rw [← hr]; simp [aE_eq, wk_op, wk_type, wk_num, wk_text, wk_col, withK_kids]
      rw [if_neg (fun h => by rw [h.2.2.1] at g1; exact absurd g1 (by decide)), if_neg (fun h => n25 h.1), if_neg (fun h => n26 h.1)] at hr
      refine retx_of [0, 0, 0, 0, 0, 6] rfl (by simp) (by simp [rowsOf_length] <;> omega) ?_ (by first | rfl | simp [ends] | (subst_vars; simp [ends])) (by simp [ends]) (by simp [ends])
      rw [← hr]; simp [aE_eq, wk_op, wk_type, wk_num, wk_text, wk_col, withK_kids]
    have hl1 : ¬ K.length = 1 := by simp only [beq_eq_false_iff_ne, ne_eq] at g0; omega
    rw [if_neg (fun h => hl1 h.2.1), if_neg (fun h => n25 h.1), if_neg (fun h => n26 h.1)] at hr
    refine retx_of [0, 0, 0, 0, 0, 6] rfl (by simp) (by simp [rowsOf_length] <;> omega) ?_ (by first | rfl | simp [ends] | (subst_vars; simp [ends])) (by simp [ends]) (by simp [ends])
    rw [← hr]; simp [aE_eq, wk_op, wk_type, wk_num, wk_text, wk_col, withK_kids]
  · skip
    have n22 : ¬ e.op = 22 := by omega
    have q22 : (e.op == 22) = false := beq_false_of_ne n22
    have n23 : ¬ e.op = 23 := by omega
    have q23 : (e.op == 23) = false := beq_false_of_ne n23
    have n24 : ¬ e.op = 24 := by omega
    have q24 : (e.op == 24) = false := beq_false_of_ne n24
    have q25 : (e.op == 25) = true := by rw [e25]; rfl
    have n26 : ¬ e.op = 26 := by omega
    have q26 : (e.op == 26) = false := beq_false_of_ne n26
    simp -implicitDefEqProofs only [vE, zE0, q22, q23, q24, q25, q26, ↓steps, push_cast, simprocAttr, tte]
    refine bcase_intro (fun a0 => ?_) fun a0 => ?_
    · refine callq [[0, 0, 0, 0, 0, 6]] [] (c_fits (withK e K)) ?_
      simp -implicitDefEqProofs only [q22, q23, q24, q25, q26, ↓steps, push_cast, simprocAttr, tte]
      refine bcase_intro (fun a2 => ?_) fun a2 => ?_
      · have a1 := hcst a0 a2
        rw [if_pos a1] at hr
        refine callq [[0, 0, 0, 0, 0, 6], [3]] [] (c_eval [] (withK e K) oO) ?_
        simp -implicitDefEqProofs only [↓steps, push_cast, simprocAttr, tte]
        refine callq [[0, 0, 0, 0, 0, 6]] [] (c_result23 (withK e K) a2 (fun k hk => List.all_eq_true.1 a1.2.1 k hk)) ?_
        simp -implicitDefEqProofs only [↓steps, push_cast, simprocAttr, tte]
        refine callq [[0, 0, 0], []] [] (c_pconst (evalM [] (withK e K)) (resultM (withK e K))) ?_
        simp -implicitDefEqProofs only [↓steps, push_cast, simprocAttr, tte]
        refine ⟨drawx_intro (by kernel_rfl), ?_⟩
        refine retx_of [0, 0, 0, 0, 0, 6] rfl (by simp) (by simp [rowsOf_length] <;> omega) ?_ (by first | rfl | simp [ends] | (subst_vars; simp [ends])) (by simp [ends]) (by simp [ends])
        rw [← hr]; simp [aE_eq]
      have a1 := hncst (.inr a2)
      rw [if_neg a1] at hr
      rw [if_neg (fun h => n22 h.1), if_neg (fun h => n23 h.1)] at hr
      refine bcase_intro (fun z => ?_) fun z => ?_
      · have hz : K = [] := List.length_eq_zero_iff.1 (by simp only [beq_iff_eq] at z; omega)
        rw [if_pos hz] at hr
        refine retx_of [0, 0, 0, 0, 0, 6] rfl (by simp) (by simp [rowsOf_length] <;> omega) ?_ (by first | rfl | simp [ends] | (subst_vars; simp [ends])) (by simp [ends]) (by simp [ends])
        rw [← hr]; simp [aE_eq, wk_op, wk_type, wk_num, wk_text, wk_col, withK_kids]
      have hz : ¬ K = [] := fun h => by rw [h] at z; exact absurd z (by decide)
      rw [if_neg hz] at hr
      have hz0 : 0 < K.length := Nat.pos_of_ne_zero fun h => hz (List.length_eq_zero_iff.1 h)
      refine ⟨by omega, ?_⟩
      rw [if_neg (fun h => n24 h.1)] at hr
      refine bcase_intro (fun g0 => ?_) fun g0 => ?_
      · skip
        have hl1 : K.length = 1 := by simp only [beq_iff_eq] at g0; omega
        refine callq [[0, 0, 0, 0, 0, 6]] [] (c_fits (K.getD 0 default)) ?_
        simp -implicitDefEqProofs only [q22, q23, q24, q25, q26, ↓steps, push_cast, simprocAttr, tte]
        have hkn : knownM (K.getD 0 default) = (fitsM (K.getD 0 default) && ((((K.getD 0 default).op == 25) || ((K.getD 0 default).op == 21)) || ((K.getD 0 default).op == 20))) := rfl
        refine bcase_intro (fun g1 => ?_) fun g1 => ?_
        · refine bcase_intro (fun g2 => ?_) fun g2 => ?_
          · rw [g1, g2] at hkn
            rw [if_pos ⟨e25, hl1, hkn⟩] at hr
            refine retx_of [0, 0, 0, 0, 0, 6] rfl (by simp) (by simp [rowsOf_length] <;> omega) ?_ (by first | rfl | simp [ends] | (subst_vars; simp [ends])) (by simp [ends]) (by simp [ends])
            rw [← hr]; simp [aE_eq]
          refine bcase_intro (fun g3 => ?_) fun g3 => ?_
          · rw [g1, g2, g3] at hkn
            rw [if_pos ⟨e25, hl1, hkn⟩] at hr
            refine retx_of [0, 0, 0, 0, 0, 6] rfl (by simp) (by simp [rowsOf_length] <;> omega) ?_ (by first | rfl | simp [ends] | (subst_vars; simp [ends])) (by simp [ends]) (by simp [ends])
            rw [← hr]; simp [aE_eq]
          refine bcase_intro (fun g4 => ?_) fun g4 => ?_
          · rw [g1, g2, g3, g4] at hkn
            rw [if_pos ⟨e25, hl1, hkn⟩] at hr
            refine retx_of [0, 0, 0, 0, 0, 6] rfl (by simp) (by simp [rowsOf_length] <;> omega) ?_ (by first | rfl | simp [ends] | (subst_vars; simp [ends])) (by simp [ends]) (by simp [ends])
            rw [← hr]; simp [aE_eq]
          rw [g1, g2, g3, g4] at hkn
          rw [if_neg (fun h => by rw [hkn] at h; exact absurd h.2.2 (by decide)), if_neg (fun h => n26 h.1)] at hr
          refine retx_of [0, 0, 0, 0, 0, 6] rfl (by simp) (by simp [rowsOf_length] <;> omega) ?_ (by first | rfl | simp [ends] | (subst_vars; simp [ends])) (by simp [ends]) (by simp [ends])
          rw [← hr]; simp [aE_eq, wk_op, wk_type, wk_num, wk_text, wk_col, withK_kids]
        rw [g1, Bool.false_and] at hkn
        rw [if_neg (fun h => by rw [hkn] at h; exact absurd h.2.2 (by decide)), if_neg (fun h => n26 h.1)] at hr
        refine retx_of [0, 0, 0, 0, 0, 6] rfl (by simp) (by simp [rowsOf_length] <;> omega) ?_ (by first | rfl | simp [ends] | (subst_vars; simp [ends])) (by simp [ends]) (by simp [ends])
        rw [← hr]; simp [aE_eq, wk_op, wk_type, wk_num, wk_text, wk_col, withK_kids]
      have hl1 : ¬ K.length = 1 := by simp only [beq_eq_false_iff_ne, ne_eq] at g0; omega
      rw [if_neg (fun h => hl1 h.2.1), if_neg (fun h => n26 h.1)] at hr
      refine retx_of [0, 0, 0, 0, 0, 6] rfl (by simp) (by simp [rowsOf_length] <;> omega) ?_ (by first | rfl | simp [ends] | (subst_vars; simp [ends])) (by simp [ends]) (by simp [ends])
      rw [← hr]; simp [aE_eq, wk_op, wk_type, wk_num, wk_text, wk_col, withK_kids]
    have a1 := hncst (.inl a0)
    rw [if_neg a1] at hr
    rw [if_neg (fun h => n22 h.1), if_neg (fun h => n23 h.1)] at hr
    refine bcase_intro (fun z => ?_) fun z => ?_
    · have hz : K = [] := List.length_eq_zero_iff.1 (by simp only [beq_iff_eq] at z; omega)
      rw [if_pos hz] at hr
      refine retx_of [0, 0, 0, 0, 0, 6] rfl (by simp) (by simp [rowsOf_length] <;> omega) ?_ (by first | rfl | simp [ends] | (subst_vars; simp [ends])) (by simp [ends]) (by simp [ends])
      rw [← hr]; simp [aE_eq, wk_op, wk_type, wk_num, wk_text, wk_col, withK_kids]
    have hz : ¬ K = [] := fun h => by rw [h] at z; exact absurd z (by decide)
    rw [if_neg hz] at hr
    have hz0 : 0 < K.length := Nat.pos_of_ne_zero fun h => hz (List.length_eq_zero_iff.1 h)
    refine ⟨by omega, ?_⟩
    rw [if_neg (fun h => n24 h.1)] at hr
    refine bcase_intro (fun g0 => ?_) fun g0 => ?_
    · skip
      have hl1 : K.length = 1 := by simp only [beq_iff_eq] at g0; omega
      refine callq [[0, 0, 0, 0, 0, 6]] [] (c_fits (K.getD 0 default)) ?_
      simp -implicitDefEqProofs only [q22, q23, q24, q25, q26, ↓steps, push_cast, simprocAttr, tte]
      have hkn : knownM (K.getD 0 default) = (fitsM (K.getD 0 default) && ((((K.getD 0 default).op == 25) || ((K.getD 0 default).op == 21)) || ((K.getD 0 default).op == 20))) := rfl
      refine bcase_intro (fun g1 => ?_) fun g1 => ?_
      · refine bcase_intro (fun g2 => ?_) fun g2 => ?_
        · rw [g1, g2] at hkn
          rw [if_pos ⟨e25, hl1, hkn⟩] at hr
          refine retx_of [0, 0, 0, 0, 0, 6] rfl (by simp) (by simp [rowsOf_length] <;> omega) ?_ (by first | rfl | simp [ends] | (subst_vars; simp [ends])) (by simp [ends]) (by simp [ends])
          rw [← hr]; simp [aE_eq]
        refine bcase_intro (fun g3 => ?_) fun g3 => ?_
        · rw [g1, g2, g3] at hkn
          rw [if_pos ⟨e25, hl1, hkn⟩] at hr
          refine retx_of [0, 0, 0, 0, 0, 6] rfl (by simp) (by simp [rowsOf_length] <;> omega) ?_ (by first | rfl | simp [ends] | (subst_vars; simp [ends])) (by simp [ends]) (by simp [ends])
          rw [← hr]; simp [aE_eq]
        refine bcase_intro (fun g4 => ?_) fun g4 => ?_
        · rw [g1, g2, g3, g4] at hkn
          rw [if_pos ⟨e25, hl1, hkn⟩] at hr
          refine retx_of [0, 0, 0, 0, 0, 6] rfl (by simp) (by simp [rowsOf_length] <;> omega) ?_ (by first | rfl | simp [ends] | (subst_vars; simp [ends])) (by simp [ends]) (by simp [ends])
          rw [← hr]; simp [aE_eq]
        rw [g1, g2, g3, g4] at hkn
        rw [if_neg (fun h => by rw [hkn] at h; exact absurd h.2.2 (by decide)), if_neg (fun h => n26 h.1)] at hr
        refine retx_of [0, 0, 0, 0, 0, 6] rfl (by simp) (by simp [rowsOf_length] <;> omega) ?_ (by first | rfl | simp [ends] | (subst_vars; simp [ends])) (by simp [ends]) (by simp [ends])
        rw [← hr]; simp [aE_eq, wk_op, wk_type, wk_num, wk_text, wk_col, withK_kids]
      rw [g1, Bool.false_and] at hkn
      rw [if_neg (fun h => by rw [hkn] at h; exact absurd h.2.2 (by decide)), if_neg (fun h => n26 h.1)] at hr
      refine retx_of [0, 0, 0, 0, 0, 6] rfl (by simp) (by simp [rowsOf_length] <;> omega) ?_ (by first | rfl | simp [ends] | (subst_vars; simp [ends])) (by simp [ends]) (by simp [ends])
      rw [← hr]; simp [aE_eq, wk_op, wk_type, wk_num, wk_text, wk_col, withK_kids]
    have hl1 : ¬ K.length = 1 := by simp only [beq_eq_false_iff_ne, ne_eq] at g0; omega
    rw [if_neg (fun h => hl1 h.2.1), if_neg (fun h => n26 h.1)] at hr
    refine retx_of [0, 0, 0, 0, 0, 6] rfl (by simp) (by simp [rowsOf_length] <;> omega) ?_ (by first | rfl | simp [ends] | (subst_vars; simp [ends])) (by simp [ends]) (by simp [ends])
    rw [← hr]; simp [aE_eq, wk_op, wk_type, wk_num, wk_text, wk_col, withK_kids]
  · skip
    have n22 : ¬ e.op = 22 := by omega
    have q22 : (e.op == 22) = false := beq_false_of_ne n22
    have n23 : ¬ e.op = 23 := by omega
    have q23 : (e.op == 23) = false := beq_false_of_ne n23
    have n24 : ¬ e.op = 24 := by omega
    have q24 : (e.op == 24) = false := beq_false_of_ne n24
    have n25 : ¬ e.op = 25 := by omega
    have q25 : (e.op == 25) = false := beq_false_of_ne n25
    have q26 : (e.op == 26) = true := by rw [e26]; rfl
    simp -implicitDefEqProofs only [vE, zE0, q22, q23, q24, q25, q26, ↓steps, push_cast, simprocAttr, tte]
    refine bcase_intro (fun a0 => ?_) fun a0 => ?_
    · refine callq [[0, 0, 0, 0, 0, 6]] [] (c_fits (withK e K)) ?_
      simp -implicitDefEqProofs only [q22, q23, q24, q25, q26, ↓steps, push_cast, simprocAttr, tte]
      refine bcase_intro (fun a2 => ?_) fun a2 => ?_
      · have a1 := hcst a0 a2
        rw [if_pos a1] at hr
        refine callq [[0, 0, 0, 0, 0, 6], [3]] [] (c_eval [] (withK e K) oO) ?_
        simp -implicitDefEqProofs only [↓steps, push_cast, simprocAttr, tte]
        refine callq [[0, 0, 0, 0, 0, 6]] [] (c_result23 (withK e K) a2 (fun k hk => List.all_eq_true.1 a1.2.1 k hk)) ?_
        simp -implicitDefEqProofs only [↓steps, push_cast, simprocAttr, tte]
        refine callq [[0, 0, 0], []] [] (c_pconst (evalM [] (withK e K)) (resultM (withK e K))) ?_
        simp -implicitDefEqProofs only [↓steps, push_cast, simprocAttr, tte]
        refine ⟨drawx_intro (by kernel_rfl), ?_⟩
        refine retx_of [0, 0, 0, 0, 0, 6] rfl (by simp) (by simp [rowsOf_length] <;> omega) ?_ (by first | rfl | simp [ends] | (subst_vars; simp [ends])) (by simp [ends]) (by simp [ends])
        rw [← hr]; simp [aE_eq]
      have a1 := hncst (.inr a2)
      rw [if_neg a1] at hr
      rw [if_neg (fun h => n22 h.1), if_neg (fun h => n23 h.1)] at hr
      refine bcase_intro (fun z => ?_) fun z => ?_
      · have hz : K = [] := List.length_eq_zero_iff.1 (by simp only [beq_iff_eq] at z; omega)
        rw [if_pos hz] at hr
        refine retx_of [0, 0, 0, 0, 0, 6] rfl (by simp) (by simp [rowsOf_length] <;> omega) ?_ (by first | rfl | simp [ends] | (subst_vars; simp [ends])) (by simp [ends]) (by simp [ends])
        rw [← hr]; simp [aE_eq, wk_op, wk_type, wk_num, wk_text, wk_col, withK_kids]
      have hz : ¬ K = [] := fun h => by rw [h] at z; exact absurd z (by decide)
      rw [if_neg hz] at hr
      have hz0 : 0 < K.length := Nat.pos_of_ne_zero fun h => hz (List.length_eq_zero_iff.1 h)
      refine ⟨by omega, ?_⟩
      rw [if_neg (fun h => n24 h.1), if_neg (fun h => n25 h.1)] at hr
      refine bcase_intro (fun g0 => ?_) fun g0 => ?_
      · skip
        have hl1 : K.length = 3 := by simp only [beq_iff_eq] at g0; omega
        refine bcase_intro (fun g1 => ?_) fun g1 => ?_
        · skip
          refine bcase_intro (fun g2 => ?_) fun g2 => ?_
          · rw [if_pos ⟨e26, hl1, by simpa using g1, by simp only [beq_iff_eq] at g2; omega⟩] at hr
            refine bcase_intro (fun g3 => ?_) fun g3 => ?_
            · rw [if_pos (by simpa using g3)] at hr
              refine ⟨by omega, ?_⟩
              refine retx_of [0, 0, 0, 0, 0, 6] rfl (by simp) (by simp [rowsOf_length] <;> omega) ?_ (by first | rfl | simp [ends] | (subst_vars; simp [ends])) (by simp [ends]) (by simp [ends])
              rw [← hr]; simp [aE_eq]
            rw [if_neg (by simpa using g3)] at hr
            refine ⟨by omega, ?_⟩
            refine retx_of [0, 0, 0, 0, 0, 6] rfl (by simp) (by simp [rowsOf_length] <;> omega) ?_ (by first | rfl | simp [ends] | (subst_vars; simp [ends])) (by simp [ends]) (by simp [ends])
            rw [← hr]; simp [aE_eq]
          rw [if_neg (fun h => by rw [h.2.2.2] at g2; exact absurd g2 (by decide))] at hr
          refine retx_of [0, 0, 0, 0, 0, 6] rfl (by simp) (by simp [rowsOf_length] <;> omega) ?_ (by first | rfl | simp [ends] | (subst_vars; simp [ends])) (by simp [ends]) (by simp [ends])
          rw [← hr]; simp [aE_eq, wk_op, wk_type, wk_num, wk_text, wk_col, withK_kids]
        rw [if_neg (fun h => by rw [h.2.2.1] at g1; exact absurd g1 (by decide))] at hr
        refine retx_of [0, 0, 0, 0, 0, 6] rfl (by simp) (by simp [rowsOf_length] <;> omega) ?_ (by first | rfl | simp [ends] | (subst_vars; simp [ends])) (by simp [ends]) (by simp [ends])
        rw [← hr]; simp [aE_eq, wk_op, wk_type, wk_num, wk_text, wk_col, withK_kids]
      have hl1 : ¬ K.length = 3 := by simp only [beq_eq_false_iff_ne, ne_eq] at g0; omega
      rw [if_neg (fun h => hl1 h.2.1)] at hr
      refine retx_of [0, 0, 0, 0, 0, 6] rfl (by simp) (by simp [rowsOf_length] <;> omega) ?_ (by first | rfl | simp [ends] | (subst_vars; simp [ends])) (by simp [ends]) (by simp [ends])
      rw [← hr]; simp [aE_eq, wk_op, wk_type, wk_num, wk_text, wk_col, withK_kids]
    have a1 := hncst (.inl a0)
    rw [if_neg a1] at hr
    rw [if_neg (fun h => n22 h.1), if_neg (fun h => n23 h.1)] at hr
    refine bcase_intro (fun z => ?_) fun z => ?_
    · have hz : K = [] := List.length_eq_zero_iff.1 (by simp only [beq_iff_eq] at z; omega)
      rw [if_pos hz] at hr
      refine retx_of [0, 0, 0, 0, 0, 6] rfl (by simp) (by simp [rowsOf_length] <;> omega) ?_ (by first | rfl | simp [ends] | (subst_vars; simp [ends])) (by simp [ends]) (by simp [ends])
      rw [← hr]; simp [aE_eq, wk_op, wk_type, wk_num, wk_text, wk_col, withK_kids]
    have hz : ¬ K = [] := fun h => by rw [h] at z; exact absurd z (by decide)
    rw [if_neg hz] at hr
    have hz0 : 0 < K.length := Nat.pos_of_ne_zero fun h => hz (List.length_eq_zero_iff.1 h)
    refine ⟨by omega, ?_⟩
    rw [if_neg (fun h => n24 h.1), if_neg (fun h => n25 h.1)] at hr
    refine bcase_intro (fun g0 => ?_) fun g0 => ?_
    · skip
      have hl1 : K.length = 3 := by simp only [beq_iff_eq] at g0; omega
      refine bcase_intro (fun g1 => ?_) fun g1 => ?_
      · skip
        refine bcase_intro (fun g2 => ?_) fun g2 => ?_
        · rw [if_pos ⟨e26, hl1, by simpa using g1, by simp only [beq_iff_eq] at g2; omega⟩] at hr
          refine bcase_intro (fun g3 => ?_) fun g3 => ?_
          · rw [if_pos (by simpa using g3)] at hr
            refine ⟨by omega, ?_⟩
            refine retx_of [0, 0, 0, 0, 0, 6] rfl (by simp) (by simp [rowsOf_length] <;> omega) ?_ (by first | rfl | simp [ends] | (subst_vars; simp [ends])) (by simp [ends]) (by simp [ends])
            rw [← hr]; simp [aE_eq]
          rw [if_neg (by simpa using g3)] at hr
          refine ⟨by omega, ?_⟩
          refine retx_of [0, 0, 0, 0, 0, 6] rfl (by simp) (by simp [rowsOf_length] <;> omega) ?_ (by first | rfl | simp [ends] | (subst_vars; simp [ends])) (by simp [ends]) (by simp [ends])
          rw [← hr]; simp [aE_eq]
        rw [if_neg (fun h => by rw [h.2.2.2] at g2; exact absurd g2 (by decide))] at hr
        refine retx_of [0, 0, 0, 0, 0, 6] rfl (by simp) (by simp [rowsOf_length] <;> omega) ?_ (by first | rfl | simp [ends] | (subst_vars; simp [ends])) (by simp [ends]) (by simp [ends])
        rw [← hr]; simp [aE_eq, wk_op, wk_type, wk_num, wk_text, wk_col, withK_kids]
      rw [if_neg (fun h => by rw [h.2.2.1] at g1; exact absurd g1 (by decide))] at hr
      refine retx_of [0, 0, 0, 0, 0, 6] rfl (by simp) (by simp [rowsOf_length] <;> omega) ?_ (by first | rfl | simp [ends] | (subst_vars; simp [ends])) (by simp [ends]) (by simp [ends])
      rw [← hr]; simp [aE_eq, wk_op, wk_type, wk_num, wk_text, wk_col, withK_kids]
    have hl1 : ¬ K.length = 3 := by simp only [beq_eq_false_iff_ne, ne_eq] at g0; omega
    rw [if_neg (fun h => hl1 h.2.1)] at hr
    refine retx_of [0, 0, 0, 0, 0, 6] rfl (by simp) (by simp [rowsOf_length] <;> omega) ?_ (by first | rfl | simp [ends] | (subst_vars; simp [ends])) (by simp [ends]) (by simp [ends])
    rw [← hr]; simp [aE_eq, wk_op, wk_type, wk_num, wk_text, wk_col, withK_kids]
  · obtain ⟨n22, n23, n24, n25, n26⟩ := eo
    have q22 : (e.op == 22) = false := beq_false_of_ne n22
    have q23 : (e.op == 23) = false := beq_false_of_ne n23
    have q24 : (e.op == 24) = false := beq_false_of_ne n24
    have q25 : (e.op == 25) = false := beq_false_of_ne n25
    have q26 : (e.op == 26) = false := beq_false_of_ne n26
    simp -implicitDefEqProofs only [vE, zE0, q22, q23, q24, q25, q26, ↓steps, push_cast, simprocAttr, tte]
    refine bcase_intro (fun a0 => ?_) fun a0 => ?_
    · refine callq [[0, 0, 0, 0, 0, 6]] [] (c_fits (withK e K)) ?_
      simp -implicitDefEqProofs only [q22, q23, q24, q25, q26, ↓steps, push_cast, simprocAttr, tte]
      refine bcase_intro (fun a2 => ?_) fun a2 => ?_
      · have a1 := hcst a0 a2
        rw [if_pos a1] at hr
        refine callq [[0, 0, 0, 0, 0, 6], [3]] [] (c_eval [] (withK e K) oO) ?_
        simp -implicitDefEqProofs only [↓steps, push_cast, simprocAttr, tte]
        refine callq [[0, 0, 0, 0, 0, 6]] [] (c_result23 (withK e K) a2 (fun k hk => List.all_eq_true.1 a1.2.1 k hk)) ?_
        simp -implicitDefEqProofs only [↓steps, push_cast, simprocAttr, tte]
        refine callq [[0, 0, 0], []] [] (c_pconst (evalM [] (withK e K)) (resultM (withK e K))) ?_
        simp -implicitDefEqProofs only [↓steps, push_cast, simprocAttr, tte]
        refine ⟨drawx_intro (by kernel_rfl), ?_⟩
        refine retx_of [0, 0, 0, 0, 0, 6] rfl (by simp) (by simp [rowsOf_length] <;> omega) ?_ (by first | rfl | simp [ends] | (subst_vars; simp [ends])) (by simp [ends]) (by simp [ends])
        rw [← hr]; simp [aE_eq]
      have a1 := hncst (.inr a2)
      rw [if_neg a1] at hr
      rw [if_neg (fun h => n22 h.1), if_neg (fun h => n23 h.1)] at hr
      refine bcase_intro (fun z => ?_) fun z => ?_
      · have hz : K = [] := List.length_eq_zero_iff.1 (by simp only [beq_iff_eq] at z; omega)
        rw [if_pos hz] at hr
        refine retx_of [0, 0, 0, 0, 0, 6] rfl (by simp) (by simp [rowsOf_length] <;> omega) ?_ (by first | rfl | simp [ends] | (subst_vars; simp [ends])) (by simp [ends]) (by simp [ends])
        rw [← hr]; simp [aE_eq, wk_op, wk_type, wk_num, wk_text, wk_col, withK_kids]
      have hz : ¬ K = [] := fun h => by rw [h] at z; exact absurd z (by decide)
      rw [if_neg hz] at hr
      have hz0 : 0 < K.length := Nat.pos_of_ne_zero fun h => hz (List.length_eq_zero_iff.1 h)
      refine ⟨by omega, ?_⟩
      rw [if_neg (fun h => n24 h.1), if_neg (fun h => n25 h.1), if_neg (fun h => n26 h.1)] at hr
      refine retx_of [0, 0, 0, 0, 0, 6] rfl (by simp) (by simp [rowsOf_length] <;> omega) ?_ (by first | rfl | simp [ends] | (subst_vars; simp [ends])) (by simp [ends]) (by simp [ends])
      rw [← hr]; simp [aE_eq, wk_op, wk_type, wk_num, wk_text, wk_col, withK_kids]
    have a1 := hncst (.inl a0)
    rw [if_neg a1] at hr
    rw [if_neg (fun h => n22 h.1), if_neg (fun h => n23 h.1)] at hr
    refine bcase_intro (fun z => ?_) fun z => ?_
    · have hz : K = [] := List.length_eq_zero_iff.1 (by simp only [beq_iff_eq] at z; omega)
      rw [if_pos hz] at hr
      refine retx_of [0, 0, 0, 0, 0, 6] rfl (by simp) (by simp [rowsOf_length] <;> omega) ?_ (by first | rfl | simp [ends] | (subst_vars; simp [ends])) (by simp [ends]) (by simp [ends])
      rw [← hr]; simp [aE_eq, wk_op, wk_type, wk_num, wk_text, wk_col, withK_kids]
    have hz : ¬ K = [] := fun h => by rw [h] at z; exact absurd z (by decide)
    rw [if_neg hz] at hr
    have hz0 : 0 < K.length := Nat.pos_of_ne_zero fun h => hz (List.length_eq_zero_iff.1 h)
    refine ⟨by omega, ?_⟩
    rw [if_neg (fun h => n24 h.1), if_neg (fun h => n25 h.1), if_neg (fun h => n26 h.1)] at hr
    refine retx_of [0, 0, 0, 0, 0, 6] rfl (by simp) (by simp [rowsOf_length] <;> omega) ?_ (by first | rfl | simp [ends] | (subst_vars; simp [ends])) (by simp [ends]) (by simp [ends])
    rw [← hr]; simp [aE_eq, wk_op, wk_type, wk_num, wk_text, wk_col, withK_kids]
end Go.Proofs.YtiagabnddihchaaGreatDoor
namespace Go.Proofs.YtiagabnddihchaaGreatDoor
open Go.Am
attribute [local simp, local push_cast] num boo str ints aV aRow wk_op wk_type wk_num wk_text wk_col withK_kids
set_option linter.unusedVariables false
set_option maxRecDepth 100000
set_option maxHeartbeats 4000000
end Go.Proofs.YtiagabnddihchaaGreatDoor
