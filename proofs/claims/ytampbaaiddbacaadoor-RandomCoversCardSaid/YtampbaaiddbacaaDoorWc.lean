/- Each operation of expressions with operands, and each operator of queries, stands at the root for some tape: a proof over an abstract machine of our own (part Wc) -/
import Derived.Test.YtampbaaiddbacaaDoorW0
set_option linter.all false
namespace Go.Proofs.YtampbaaiddbacaaDoor
open Go.Am
set_option linter.unusedVariables false
set_option linter.unusedSimpArgs false
set_option maxRecDepth 100000
/-- The numbers of a tape are of 64 bits. -/
def Tape (xs : List Int) : Prop := xs.length ≤ 400 ∧ ∀ x ∈ xs, i64 x
/-- A tape from which p numbers were drawn, also such as are behind its end. -/
def tapeO (xs : List Int) (p : Nat) : Ob := .var [.d (.sl 1 (rowsOf rI xs)), .d (.lit (.int .i64 (min p xs.length : Nat)))]
/-- The number that is drawn. -/
def drawn (xs : List Int) (p : Nat) (n : Int) : Int := xs.getD p 0 % n
theorem tmod_fix (a n : Int) (hn : 0 < n) : (if a.tmod n < 0 then a.tmod n + n else a.tmod n) = a % n := by
  have h1 := Int.emod_nonneg a (show n ≠ 0 by omega)
  have h2 := Int.emod_lt_of_pos a hn
  have h3 := Int.tmod_eq_emod (a := a) (b := n)
  by_cases h : 0 ≤ a ∨ n ∣ a
  · rw [if_pos h] at h3
    rw [if_neg (by omega)]; omega
  · rw [if_neg h] at h3
    have h4 : a % n ≠ 0 := fun h5 => h (.inr (Int.dvd_of_emod_eq_zero h5))
    rw [if_pos (by omega)]; omega
theorem c13 {xs : List Int} {n : Int} {p : Nat} (hx : Tape xs) (hn : 0 < n) (hn2 : n ≤ 1000000) : ACall Tryd.prog 11 [.ptr 1000 0, .d (.lit (.int .i64 n))] [(1000, tapeO xs p)] (num (drawn xs p n)) [(1000, tapeO xs (p + 1))] := by
  refine enterq mixed ttok Tryd.func11 Tryd.ntmps11 Tryd.results11 ?_
  simp -implicitDefEqProofs only [tapeO, argT, rI, ↓steps, push_cast, simprocAttr, tte]
  obtain ⟨hx1, hx2⟩ := hx
  have hd : (default : Int) = 0 := rfl
  by_cases hp : p < xs.length
  · have hm : min p xs.length = p := by omega
    have hm2 : min (p + 1) xs.length = p + 1 := by omega
    have hfix := tmod_fix (xs.getD p 0) n hn
    have hb1 := Int.emod_nonneg (xs.getD p 0) (show n ≠ 0 by omega)
    have hb2 := Int.emod_lt_of_pos (xs.getD p 0) hn
    rw [hm, hm2, hd, wrap_eq (n := (p : Int) + 1) (by omega) (by omega)]
    refine ⟨drawx_intro (by kernel_rfl), bcase_intro (fun h => ?_) (fun h => ⟨⟨by omega, by omega⟩, by omega, drawx_intro (by kernel_rfl), bcase_intro (fun h' => ?_) fun h' => ?_⟩)⟩
    · simp at h; omega
    · simp only [decide_eq_true_eq] at h'
      rw [if_pos h'] at hfix
      refine retx_of [0] rfl trivial trivial ?_ rfl ?_ ?_
      · rw [hfix, wrap_eq (by omega) (by omega)]; rfl
      · simp only [ends, ite_true, ite_false, reduceIte, Nat.reduceEqDiff, Nat.reduceLeDiff, Nat.reduceLT, Nat.reduceAdd, reduceCtorEq] <;> rfl
      · simp only [ends, ite_true, ite_false, reduceIte, Nat.reduceEqDiff, Nat.reduceLeDiff, Nat.reduceLT, Nat.reduceAdd, reduceCtorEq]
    · simp only [decide_eq_false_iff_not] at h'
      rw [if_neg h'] at hfix
      refine retx_of [0] rfl trivial trivial ?_ rfl ?_ ?_
      · rw [hfix]; rfl
      · simp only [ends, ite_true, ite_false, reduceIte, Nat.reduceEqDiff, Nat.reduceLeDiff, Nat.reduceLT, Nat.reduceAdd, reduceCtorEq] <;> rfl
      · simp only [ends, ite_true, ite_false, reduceIte, Nat.reduceEqDiff, Nat.reduceLeDiff, Nat.reduceLT, Nat.reduceAdd, reduceCtorEq]
  · have hm : min p xs.length = xs.length := by omega
    have hm2 : min (p + 1) xs.length = xs.length := by omega
    rw [hm, hm2]
    refine ⟨drawx_intro (by kernel_rfl), bcase_intro (fun h => ?_) (fun h => ?_)⟩
    · refine retx_of [0] rfl trivial trivial ?_ rfl ?_ ?_
      · simp [num, drawn, List.getD_eq_getElem?_getD, List.getElem?_eq_none (show xs.length ≤ p by omega)]
      · simp only [ends, ite_true, ite_false, reduceIte, Nat.reduceEqDiff, Nat.reduceLeDiff, Nat.reduceLT, Nat.reduceAdd, reduceCtorEq]
      · simp only [ends, ite_true, ite_false, reduceIte, Nat.reduceEqDiff, Nat.reduceLeDiff, Nat.reduceLT, Nat.reduceAdd, reduceCtorEq]
    · simp at h
end Go.Proofs.YtampbaaiddbacaaDoor
namespace Go.Proofs.YtampbaaiddbacaaDoor
open Go.Am
attribute [local simp, local push_cast] num boo ints tapeO aV
set_option linter.unusedVariables false
set_option linter.unusedSimpArgs false
set_option maxRecDepth 100000
theorem c10 {xs : List Int} : ACall Tryd.prog 9 [ints xs] [] (.ptr 9 0) [(9, tapeO (xs.take 400) 0)] := by
  refine enterq mixed ttok Tryd.func9 Tryd.ntmps9 Tryd.results9 ?_
  simp -implicitDefEqProofs only [ints, tapeO, argT, rI, ↓steps, push_cast, simprocAttr, tte]
  have h : (if 400 < (xs.length : Int) then (400 : Int) else xs.length) = (min 400 xs.length : Nat) := by split <;> omega
  have h2 : xs.take (min 400 xs.length) = xs.take 400 := by
    rw [List.take_eq_take_iff]; omega
  rw [h]
  refine ⟨by omega, retx_of [0] rfl trivial trivial rfl rfl ?_ ?_⟩
  · simp only [Int.toNat_natCast, h2, ends, ite_true, ite_false, reduceIte, Nat.reduceEqDiff, Nat.reduceLeDiff, Nat.reduceLT, Nat.reduceAdd, reduceCtorEq, num, boo, ints, tapeO, aV, Nat.zero_min] <;> simp
  · simp only [ends, ite_true, ite_false, reduceIte, Nat.reduceEqDiff, Nat.reduceLeDiff, Nat.reduceLT, Nat.reduceAdd, reduceCtorEq, num, boo, ints, tapeO, aV]
theorem c9 (t : Int) : ACall Tryd.prog 8 [num t] [] (boo (t == 1 || t == 2 || t == 3)) [] := by
  refine enterq mixed ttok Tryd.func8 Tryd.ntmps8 Tryd.results8 ?_
  simp -implicitDefEqProofs only [num, boo, argT, rV, ↓steps, push_cast, simprocAttr, tte]
  refine bcase_intro (fun h => ?_) (fun h => bcase_intro (fun h2 => ?_) (fun h2 => ?_)) <;>
  · refine retx_of [0] rfl trivial trivial ?_ rfl trivial trivial
    simp [*]
/-- Constant, by the value. -/
def constM (v : Val) (t : Int) : Ex :=
  if v.kind = 1 then .mk 2 0 v.num ByteArray.empty 0 [] else if v.kind = 2 then .mk 3 0 v.num ByteArray.empty 0 [] else if v.kind = 3 then .mk 4 0 0 v.text 0 [] else .mk 1 t 0 ByteArray.empty 0 []
theorem c17 (v : Val) (t : Int) : ACall Tryd.prog 31 [aV v, num t] [] (aE (constM v t)) [] := by
  refine enterq mixed ttok Tryd.func31 Tryd.ntmps31 Tryd.results31 ?_
  simp -implicitDefEqProofs only [argT, rV, ↓steps, push_cast, simprocAttr, tte]
  refine bcase_intro (fun h => ?_) (fun h => bcase_intro (fun h2 => ?_) (fun h2 => bcase_intro (fun h3 => ?_) (fun h3 => ?_)))
  all_goals refine retx_of [0, 0, 0, 0, 0, 6] rfl trivial (by simp) ?_ (by simp [ends]) trivial (by simp [ends])
  all_goals
    simp only [beq_iff_eq, beq_eq_false_iff_ne] at *
    simp [constM, *, aE_eq, Ex.op, Ex.type, Ex.num, Ex.text, Ex.col, Ex.kids, rowsOf]
/-- The texts that are drawn. -/
def texts : List ByteArray := [⟨#[]⟩, ⟨#[97]⟩, ⟨#[98]⟩, ⟨#[97, 98]⟩]
def valM (xs : List Int) (typ : Int) (p : Nat) : Val × Nat :=
  if typ = 1 then (⟨1, drawn xs p 7 - 2, ByteArray.empty⟩, p + 1) else if typ = 2 then (⟨2, drawn xs p 2, ByteArray.empty⟩, p + 1)
  else (⟨3, 0, texts.getD (drawn xs p 4).toNat ByteArray.empty⟩, p + 1)
def valueM (xs : List Int) (typ : Int) (nl : Bool) (p : Nat) : Val × Nat :=
  if nl = true then if drawn xs p 4 = 3 then (⟨0, 0, ByteArray.empty⟩, p + 1) else valM xs typ (p + 1) else valM xs typ p
theorem drawn_range (xs : List Int) (p : Nat) {n : Int} (hn : 0 < n) : 0 ≤ drawn xs p n ∧ drawn xs p n < n :=
  ⟨Int.emod_nonneg _ (by omega), Int.emod_lt_of_pos _ hn⟩
theorem c18 {xs : List Int} {typ : Int} {nl : Bool} {p : Nat} (hx : Tape xs) : ACall Tryd.prog 32 [.ptr 1000 0, num typ, boo nl] [(1000, tapeO xs p)] (aV (valueM xs typ nl p).1) [(1000, tapeO xs (valueM xs typ nl p).2)] := by
  refine enterq mixed ttok Tryd.func32 Tryd.ntmps32 Tryd.results32 ?_
  have h7 := fun p => drawn_range xs p (n := 7) (by omega)
  have h4 := fun p => drawn_range xs p (n := 4) (by omega)
  have h2 := fun p => drawn_range xs p (n := 2) (by omega)
  cases nl
  · simp -implicitDefEqProofs only [argT, rI, ↓steps, push_cast, simprocAttr, tte]
    refine bcase_intro (fun h => ?_) (fun h => bcase_intro (fun h' => ?_) (fun h' => ?_))
    · refine callq [[], []] [(1000, 1000)] (c13 (n := 7) (p := p) hx (by omega) (by omega)) ?_
      simp -implicitDefEqProofs only [↓steps, push_cast, simprocAttr, tte]
      have hw : IntKind.i64.wrap (drawn xs (p) 7 - 2) = drawn xs (p) 7 - 2 := wrap_eq (by have := h7 (p); omega) (by have := h7 (p); omega)
      refine retx_of [0, 0, 0] rfl (by simp) (by simp) ?_ (by first | simp [ends] | (subst_vars; simp [ends])) ?_ (by simp [ends]) <;> simp_all [valueM, valM, aV, keepO, lookO, updO, A.closed, Ob.closed, closedL]
    · refine callq [[], []] [(1000, 1000)] (c13 (n := 2) (p := p) hx (by omega) (by omega)) ?_
      simp -implicitDefEqProofs only [↓steps, push_cast, simprocAttr, tte]
      refine retx_of [0, 0, 0] rfl (by simp) (by simp) ?_ (by first | simp [ends] | (subst_vars; simp [ends])) ?_ (by simp [ends]) <;> simp_all [valueM, valM, aV, keepO, lookO, updO, A.closed, Ob.closed, closedL]
    · refine callq [[], []] [(1000, 1000)] (c13 (n := 4) (p := p) hx (by omega) (by omega)) ?_
      simp -implicitDefEqProofs only [↓steps, push_cast, simprocAttr, tte]
      refine ⟨by have := h4 (p); omega, ?_⟩
      refine retx_of [0, 0, 0] rfl (by simp) (by simp) ?_ (by first | simp [ends] | (subst_vars; simp [ends])) ?_ (by simp [ends]) <;> simp_all [valueM, valM, aV, texts, keepO, lookO, updO, A.closed, Ob.closed, closedL]
  · simp -implicitDefEqProofs only [argT, rI, ↓steps, push_cast, simprocAttr, tte]
    refine callq [[], []] [(1000, 1000)] (c13 (n := 4) (p := p) hx (by omega) (by omega)) ?_
    simp -implicitDefEqProofs only [↓steps, push_cast, simprocAttr, tte]
    refine bcase_intro (fun h0 => ?_) (fun h0 => bcase_intro (fun h => ?_) (fun h => bcase_intro (fun h' => ?_) (fun h' => ?_)))
    · refine retx_of [0, 0, 0] rfl (by simp) (by simp) ?_ (by first | simp [ends] | (subst_vars; simp [ends])) ?_ (by simp [ends]) <;> simp_all [valueM, valM, aV, keepO, lookO, updO, A.closed, Ob.closed, closedL]
    · refine callq [[], []] [(1000, 1000)] (c13 (n := 7) (p := p + 1) hx (by omega) (by omega)) ?_
      simp -implicitDefEqProofs only [↓steps, push_cast, simprocAttr, tte]
      have hw : IntKind.i64.wrap (drawn xs (p + 1) 7 - 2) = drawn xs (p + 1) 7 - 2 := wrap_eq (by have := h7 (p + 1); omega) (by have := h7 (p + 1); omega)
      refine retx_of [0, 0, 0] rfl (by simp) (by simp) ?_ (by first | simp [ends] | (subst_vars; simp [ends])) ?_ (by simp [ends]) <;> simp_all [valueM, valM, aV, keepO, lookO, updO, A.closed, Ob.closed, closedL]
    · refine callq [[], []] [(1000, 1000)] (c13 (n := 2) (p := p + 1) hx (by omega) (by omega)) ?_
      simp -implicitDefEqProofs only [↓steps, push_cast, simprocAttr, tte]
      refine retx_of [0, 0, 0] rfl (by simp) (by simp) ?_ (by first | simp [ends] | (subst_vars; simp [ends])) ?_ (by simp [ends]) <;> simp_all [valueM, valM, aV, keepO, lookO, updO, A.closed, Ob.closed, closedL]
    · refine callq [[], []] [(1000, 1000)] (c13 (n := 4) (p := p + 1) hx (by omega) (by omega)) ?_
      simp -implicitDefEqProofs only [↓steps, push_cast, simprocAttr, tte]
      refine ⟨by have := h4 (p + 1); omega, ?_⟩
      refine retx_of [0, 0, 0] rfl (by simp) (by simp) ?_ (by first | simp [ends] | (subst_vars; simp [ends])) ?_ (by simp [ends]) <;> simp_all [valueM, valM, aV, texts, keepO, lookO, updO, A.closed, Ob.closed, closedL]
end Go.Proofs.YtampbaaiddbacaaDoor
namespace Go.Proofs.YtampbaaiddbacaaDoor
open Go.Am
attribute [local simp, local push_cast] num boo ints tapeO aV
set_option linter.unusedVariables false
set_option linter.unusedSimpArgs false
set_option maxRecDepth 100000
/-- What makes expressions. -/
def aX (types : List Int) : A := .agg [.ptr 1000 0, .d (.sl 1 (rowsOf rI types))]
attribute [local simp, local push_cast] aX
/-- The columns of a type, among the first n. -/
def colsU (types : List Int) (typ : Int) (n : Nat) : List Int := ((List.range n).filter fun c => types.getD c 0 = typ).map fun (c : Nat) => (c : Int)
def cols (types : List Int) (typ : Int) : List Int := colsU types typ types.length
def leafM (xs types : List Int) (typ : Int) (p : Nat) : Ex × Nat :=
  if cols types typ ≠ [] then
    if drawn xs p 3 ≠ 0 then (.mk 5 0 0 ByteArray.empty ((cols types typ).getD (drawn xs (p + 1) (cols types typ).length).toNat 0) [], p + 2)
    else (constM (valueM xs typ true (p + 1)).1 typ, (valueM xs typ true (p + 1)).2)
  else (constM (valueM xs typ true p).1 typ, (valueM xs typ true p).2)
theorem colsU_succ (types : List Int) (typ : Int) (n : Nat) : colsU types typ (n + 1) = if types.getD n 0 = typ then colsU types typ n ++ [(n : Int)] else colsU types typ n := by
  simp only [colsU, List.range_succ, List.filter_append, List.map_append]
  split <;> rename_i h
  · rw [List.filter_cons_of_pos (by simpa using h)]; simp
  · rw [List.filter_cons_of_neg (by simpa using h)]; simp
theorem colsU_length (types : List Int) (typ : Int) (n : Nat) : (colsU types typ n).length ≤ n := by
  induction n with
  | zero => simp [colsU]
  | succ n ih => rw [colsU_succ]; split <;> (try simp only [List.length_append, List.length_cons, List.length_nil]) <;> omega
def I14 (xs types : List Int) (typ : Int) (p n : Nat) : SL :=
  ⟨[(11, .d (.lit (.int .i64 n))), (10, .d (.lit (.int .i64 types.length))), (9, .d (.sl 1 (rowsOf rI types))), (5, .vec 500 (colsU types typ n).length), (4, .ptr 4 0), (2, .ptr 2 0), (1, .d (.lit (.int .i64 typ)))],
   [(500, .vec 3 1 (rowsOf rI (colsU types typ n)) 0), (4, .var [.d (.lit (.int .i64 0)), .d (.lit (.int .i64 0)), .d (.lit (.int .i64 0)), .d (.lit (.string ByteArray.empty)), .d (.lit (.int .i64 0)), .snil]),
    (2, .var [.ptr 1000 0, .d (.sl 1 (rowsOf rI types))]), (1000, tapeO xs p)]⟩
theorem c14 {xs types : List Int} {typ : Int} {p : Nat} (hx : Tape xs) (ht : types.length ≤ 1000) : ACall Tryd.prog 15 [aX types, num typ] [(1000, tapeO xs p)] (aE (leafM xs types typ p).1) [(1000, tapeO xs (leafM xs types typ p).2)] := by
  refine enterq mixed ttok Tryd.func15 Tryd.ntmps15 Tryd.results15 ?_
  generalize hr : aE (leafM xs types typ p).1 = R
  generalize hr2 : tapeO xs (leafM xs types typ p).2 = R2
  simp -implicitDefEqProofs only [argT, rI, ↓steps, push_cast, simprocAttr, tte]
  have h3 := fun p => drawn_range xs p (n := 3) (by omega)
  refine loop_intro mixed ttok (fun n : { n : Nat // n ≤ types.length } => I14 xs types typ p n.1) (fun n => types.length - n.1) ⟨0, Nat.zero_le _⟩ ?_ fun ⟨n, hn⟩ => ?_
  · exact (Weak.nilL 5 500 3 1 rfl rfl).trans (Weak.keepL (by simp [I14, colsU, keepT, lookT, A.closed, inO, lookO, tapeO]) (by simp [I14, colsU, keepO, A.closed, inO, lookO, tapeO, Ob.closed, closedL, rowsOf]) (by simp [I14, ends]))
  · have hl := colsU_length types typ n
    have hs := colsU_succ types typ n
    have hw : n < types.length → IntKind.i64.wrap ((n : Int) + 1) = (n : Int) + 1 := fun h => wrap_eq (by omega) (by omega)
    simp -implicitDefEqProofs only [I14, rI, ↓steps, push_cast, simprocAttr, tte]
    refine bcase_intro (fun h => ?_) fun h => ?_
    · have h' : n < types.length := by simpa using h
      have hw := hw h'
      refine ⟨⟨by omega, by omega⟩, bcase_intro (fun h2 => ⟨by omega, loopK_again ⟨n + 1, h'⟩ (by show types.length - (n + 1) < types.length - n; omega) ?_ ?_ ?_⟩) fun h2 => loopK_again ⟨n + 1, h'⟩ (by show types.length - (n + 1) < types.length - n; omega) ?_ ?_ ?_⟩
      all_goals have hd : (default : Int) = 0 := rfl
      all_goals rw [hd] at h2
      all_goals simp only [beq_iff_eq, beq_eq_false_iff_ne, ne_eq] at h2
      all_goals simp only [h2, if_true, if_false] at hs
      all_goals simp [ends, hs, hw, ← rowsOf_append]
      all_goals rfl
    · have hn' : n = types.length := by simp at h; omega
      subst hn'
      rw [show colsU types typ types.length = cols types typ from rfl] at hl ⊢
      generalize hl0 : cols types typ = l at hl ⊢
      refine bcase_intro (fun h5 => ?_) (fun h5 => ?_)
      · have h6 : l ≠ [] := by intro h7; simp [h7] at h5
        have h6' : 0 < l.length := List.length_pos_iff.2 h6
        refine callq [[], []] [(1000, 1000)] (c13 (n := 3) (p := p) hx (by omega) (by omega)) ?_
        simp -implicitDefEqProofs only [↓steps, push_cast, simprocAttr, tte]
        refine bcase_intro (fun h8 => ?_) (fun h8 => ?_)
        · refine callq [[], []] [(1000, 1000)] (c13 (n := l.length) (p := p + 1) hx (by omega) (by omega)) ?_
          simp -implicitDefEqProofs only [↓steps, push_cast, simprocAttr, tte]
          have h9 := drawn_range xs (p + 1) (n := (l.length : Int)) (by omega)
          refine ⟨h9, by omega, ?_⟩
          refine retx_of [0, 0, 0, 0, 0, 6] rfl (by simp) (by simp) ?_ (by first | simp [ends] | (subst_vars; simp [ends])) ?_ (by simp [ends])
          · rw [← hr]; simp_all [leafM, aE_eq, Ex.op, Ex.type, Ex.num, Ex.text, Ex.col, Ex.kids, rowsOf]
          · rw [← hr2]; simp_all [leafM, ends, ite_true, ite_false, reduceIte, Nat.reduceEqDiff, Nat.reduceLeDiff, Nat.reduceLT, Nat.reduceAdd, reduceCtorEq, num, boo, ints, tapeO, aV, aX]
        · refine callq [[], [], []] [(1000, 1000)] (c18 (typ := typ) (nl := true) (p := p + 1) hx) ?_
          simp -implicitDefEqProofs only [↓steps, push_cast, simprocAttr, tte]
          refine callq [[], []] [] (c17 (valueM xs typ true (p + 1)).1 typ) ?_
          simp -implicitDefEqProofs only [↓steps, push_cast, simprocAttr, tte]
          refine retx_of [0, 0, 0, 0, 0, 6] rfl (by simp) (by simp) ?_ (by first | simp [ends] | (subst_vars; simp [ends])) ?_ (by simp [ends])
          · rw [← hr]; simp_all [leafM, aE_eq]
          · rw [← hr2]; simp_all [leafM, ends, ite_true, ite_false, reduceIte, Nat.reduceEqDiff, Nat.reduceLeDiff, Nat.reduceLT, Nat.reduceAdd, reduceCtorEq, num, boo, ints, tapeO, aV, aX]
      · refine callq [[], [], []] [(1000, 1000)] (c18 (typ := typ) (nl := true) (p := p) hx) ?_
        simp -implicitDefEqProofs only [↓steps, push_cast, simprocAttr, tte]
        refine callq [[], []] [] (c17 (valueM xs typ true p).1 typ) ?_
        simp -implicitDefEqProofs only [↓steps, push_cast, simprocAttr, tte]
        refine retx_of [0, 0, 0, 0, 0, 6] rfl (by simp) (by simp) ?_ (by first | simp [ends] | (subst_vars; simp [ends])) ?_ (by simp [ends])
        · rw [← hr]; simp_all [leafM, aE_eq]
        · rw [← hr2]; simp_all [leafM, ends, ite_true, ite_false, reduceIte, Nat.reduceEqDiff, Nat.reduceLeDiff, Nat.reduceLT, Nat.reduceAdd, reduceCtorEq, num, boo, ints, tapeO, aV, aX]
end Go.Proofs.YtampbaaiddbacaaDoor
namespace Go.Proofs.YtampbaaiddbacaaDoor
open Go.Am
attribute [local simp, local push_cast] num boo ints tapeO aV aX
set_option linter.unusedVariables false
set_option linter.unusedSimpArgs false
set_option maxRecDepth 100000
/-- Several expressions, one after the other. -/
def sevM (f : Int → Nat → Ex × Nat) : List Int → Nat → List Ex × Nat
  | [], p => ([], p)
  | t :: l, p => ((f t p).1 :: (sevM f l (f t p).2).1, (sevM f l (f t p).2).2)
theorem sevM_snoc (f : Int → Nat → Ex × Nat) (t : Int) : ∀ (l : List Int) (p : Nat), sevM f (l ++ [t]) p = ((sevM f l p).1 ++ [(f t (sevM f l p).2).1], (f t (sevM f l p).2).2)
  | [], p => by simp [sevM]
  | a :: l, p => by simp [sevM, sevM_snoc f t l]
theorem sevM_length (f : Int → Nat → Ex × Nat) : ∀ (l : List Int) (p : Nat), (sevM f l p).1.length = l.length
  | [], p => rfl
  | a :: l, p => by simp [sevM, sevM_length f l]
/-- The contract of expr at a depth. -/
def C11 (xs types : List Int) (deep : Int) (f : Int → Nat → Ex × Nat) : Prop :=
  ∀ (typ : Int) (p : Nat), ACall Tryd.prog 10 [aX types, num typ, num deep] [(1000, tapeO xs p)] (aE (f typ p).1) [(1000, tapeO xs (f typ p).2)]
def I15 (xs types : List Int) (deep : Int) (f : Int → Nat → Ex × Nat) (op : Int) (ts : List Int) (p n : Nat) : SL :=
  ⟨[(16, .d (.lit (.int .i64 n))), (15, .d (.lit (.int .i64 ts.length))), (14, .d (.sl 1 (rowsOf rI ts))), (9, .ptr 9 0), (8, .ptr 8 0), (4, .ptr 4 0), (2, .d (.lit (.int .i64 deep)))],
   [(500, .vec 25 6 (rowsOf rE (sevM f (ts.take n) p).1) 0),
    (9, .var [.d (.lit (.int .i64 op)), .d (.lit (.int .i64 0)), .d (.lit (.int .i64 0)), .d (.lit (.string ByteArray.empty)), .d (.lit (.int .i64 0)), .vec 500 n]),
    (8, .var [.d (.lit (.int .i64 0)), .d (.lit (.int .i64 0)), .d (.lit (.int .i64 0)), .d (.lit (.string ByteArray.empty)), .d (.lit (.int .i64 0)), .snil]),
    (4, .var [.ptr 1000 0, .d (.sl 1 (rowsOf rI types))]), (1000, tapeO xs (sevM f (ts.take n) p).2)]⟩
theorem c15 {xs types : List Int} {deep : Int} {f : Int → Nat → Ex × Nat} (H : C11 xs types (deep - 1) f) (hx : Tape xs) (hd : 0 < deep) (hd2 : deep ≤ 10) (op : Int) (ts : List Int) (hts : ts.length ≤ 10) (p : Nat) :
    ACall Tryd.prog 16 [aX types, num op, num deep, ints ts] [(1000, tapeO xs p)] (aE (.mk op 0 0 ByteArray.empty 0 (sevM f ts p).1)) [(1000, tapeO xs (sevM f ts p).2)] := by
  refine enterq mixed ttok Tryd.func16 Tryd.ntmps16 Tryd.results16 ?_
  generalize hr : aE (.mk op 0 0 ByteArray.empty 0 (sevM f ts p).1) = R
  generalize hr2 : tapeO xs (sevM f ts p).2 = R2
  simp -implicitDefEqProofs only [argT, ↓steps, push_cast, simprocAttr, tte]
  refine loop_intro mixed ttok (fun n : { n : Nat // n ≤ ts.length } => I15 xs types deep f op ts p n.1) (fun n => ts.length - n.1) ⟨0, Nat.zero_le _⟩ ?_ fun ⟨n, hn⟩ => ?_
  · exact (Weak.nilCellL 9 5 500 25 6 rfl rfl rfl).trans (Weak.keepL (by simp [I15, sevM, ends]) (by simp [I15, sevM, rowsOf, ends]) (by simp [I15, ends]))
  · have hw : n < ts.length → IntKind.i64.wrap ((n : Int) + 1) = (n : Int) + 1 := fun h => wrap_eq (by omega) (by omega)
    have hl : (sevM f (ts.take n) p).1.length = n := by rw [sevM_length]; simp; omega
    have hwd : IntKind.i64.wrap (deep - 1) = deep - 1 := wrap_eq (by omega) (by omega)
    have hdf : (default : Int) = 0 := rfl
    generalize hI : (fun n : { n : Nat // n ≤ ts.length } => I15 xs types deep f op ts p n.1) = I
    simp -implicitDefEqProofs only [I15, ↓steps, push_cast, simprocAttr, tte, hwd]
    refine bcase_intro (fun h => ?_) fun h => ?_
    · have h' : n < ts.length := by simpa using h
      have hw := hw h'
      have hsn : sevM f (ts.take (n + 1)) p = ((sevM f (ts.take n) p).1 ++ [(f (ts.getD n default) (sevM f (ts.take n) p).2).1], (f (ts.getD n default) (sevM f (ts.take n) p).2).2) := by
        rw [← sevM_snoc, List.take_succ_eq_append_getElem h']
        simp [List.getD_eq_getElem?_getD, h']
      refine ⟨⟨by omega, by omega⟩, ?_⟩
      refine callq [[], [], []] [(1000, 1000)] (H (ts.getD n default) (sevM f (ts.take n) p).2) ?_
      simp -implicitDefEqProofs only [↓steps, push_cast, simprocAttr, tte]
      refine ⟨⟨by omega, by omega⟩, drawx_intro (by kernel_rfl), ?_⟩
      refine loopK_again (⟨n + 1, h'⟩ : { n : Nat // n ≤ ts.length }) (by show ts.length - (n + 1) < ts.length - n; omega) ?_ ?_ ?_ <;> subst hI
      · simp [I15, ends, hw, hl]
      · simp [I15, ends, hsn, hl]
      · simp [I15, ends]
    · have hn' : n = ts.length := by simp at h; omega
      subst hn'
      have ht : ts.take ts.length = ts := by simp
      rw [ht] at hl ⊢
      refine retx_of [0, 0, 0, 0, 0, 6] rfl trivial (by simp [rowsOf_length, hl]) ?_ (by subst hr; simp [ends]) ?_ (by simp [ends])
      · rw [← hr]; simp [aE_eq, Ex.op, Ex.type, Ex.num, Ex.text, Ex.col, Ex.kids]
      · rw [← hr2]; simp [ends]
end Go.Proofs.YtampbaaiddbacaaDoor
namespace Go.Proofs.YtampbaaiddbacaaDoor
open Go.Am
attribute [local simp, local push_cast] num boo ints tapeO aV aX
set_option linter.unusedVariables false
set_option linter.unusedSimpArgs false
set_option maxRecDepth 100000
set_option maxHeartbeats 4000000
/-- An operation with these operands. -/
def mkM (f : Int → Nat → Ex × Nat) (op : Int) (ts : List Int) (p : Nat) : Ex × Nat := (.mk op 0 0 ByteArray.empty 0 (sevM f ts p).1, (sevM f ts p).2)
def boolM (xs : List Int) (f : Int → Nat → Ex × Nat) (p : Nat) : Ex × Nat :=
  let n := drawn xs p 13
  let u := 1 + drawn xs (p + 1) 3
  if n ≤ 6 then mkM f (14 + n) [u, u] (p + 2)
  else if n = 7 then mkM f 21 [u] (p + 2)
  else if n ≤ 9 then mkM f (22 + n - 8) [2, 2] (p + 1)
  else if n ≤ 11 then mkM f (24 + n - 10) [2] (p + 1)
  else if drawn xs (p + 1) 3 = 0 then mkM f 26 [2, 2, 2] (p + 2)
  else if drawn xs (p + 1) 3 = 1 then mkM f 27 [2, 2] (p + 2)
  else
    let v := 1 + drawn xs (p + 2) 3
    mkM f 28 [v, v, v] (p + 3)
theorem c16 {xs types : List Int} {deep : Int} {f : Int → Nat → Ex × Nat} (H : C11 xs types (deep - 1) f) (hx : Tape xs) (hd : 0 < deep) (hd2 : deep ≤ 10) (p : Nat) :
    ACall Tryd.prog 17 [aX types, num deep] [(1000, tapeO xs p)] (aE (boolM xs f p).1) [(1000, tapeO xs (boolM xs f p).2)] := by
  refine enterq mixed ttok Tryd.func17 Tryd.ntmps17 Tryd.results17 ?_
  generalize hr : aE (boolM xs f p).1 = R
  generalize hr2 : tapeO xs (boolM xs f p).2 = R2
  have h3 := fun p => drawn_range xs p (n := 3) (by omega)
  have h13 := fun p => drawn_range xs p (n := 13) (by omega)
  simp -implicitDefEqProofs only [argT, ↓steps, push_cast, simprocAttr, tte]
  refine callq [[], []] [(1000, 1000)] (c13 (n := 13) (p := p) hx (by omega) (by omega)) ?_
  simp -implicitDefEqProofs only [↓steps, push_cast, simprocAttr, tte]
  have w3 : ∀ q, IntKind.i64.wrap (1 + drawn xs q 3) = 1 + drawn xs q 3 := fun q => wrap_eq (by have := h3 q; omega) (by have := h3 q; omega)
  have w14 : IntKind.i64.wrap (14 + drawn xs p 13) = 14 + drawn xs p 13 := wrap_eq (by have := h13 p; omega) (by have := h13 p; omega)
  have w22 : IntKind.i64.wrap (22 + drawn xs p 13) = 22 + drawn xs p 13 := wrap_eq (by have := h13 p; omega) (by have := h13 p; omega)
  have w24 : IntKind.i64.wrap (24 + drawn xs p 13) = 24 + drawn xs p 13 := wrap_eq (by have := h13 p; omega) (by have := h13 p; omega)
  have w22' : IntKind.i64.wrap (22 + drawn xs p 13 - 8) = 22 + drawn xs p 13 - 8 := wrap_eq (by have := h13 p; omega) (by have := h13 p; omega)
  have w24' : IntKind.i64.wrap (24 + drawn xs p 13 - 10) = 24 + drawn xs p 13 - 10 := wrap_eq (by have := h13 p; omega) (by have := h13 p; omega)
  refine bcase_intro (fun h => ?_) fun h => bcase_intro (fun ha => ?_) fun ha => bcase_intro (fun hb => ?_) fun hb => bcase_intro (fun hc => ?_) fun hc => ?_
  · simp only [decide_eq_true_eq] at h
    have hM : boolM xs f p = mkM f (14 + drawn xs p 13) [1 + drawn xs (p + 1) 3, 1 + drawn xs (p + 1) 3] (p + 2) := by simp only [boolM]; rw [if_pos h]
    refine callq [[], []] [(1000, 1000)] (c13 (n := 3) (p := p + 1) hx (by omega) (by omega)) ?_
    simp -implicitDefEqProofs only [↓steps, push_cast, simprocAttr, tte]
    simp only [w3, w14]
    refine callq [[], [], [], []] [(1000, 1000)] (c15 H hx hd hd2 (14 + drawn xs p 13) [(1 + drawn xs (p + 1) 3), (1 + drawn xs (p + 1) 3)] (by simp) (p + 2)) ?_
    simp -implicitDefEqProofs only [↓steps, push_cast, simprocAttr, tte]
    refine retx_of [0, 0, 0, 0, 0, 6] rfl (by simp) (by simp) ?_ (by first | simp [ends] | (subst_vars; simp [ends])) ?_ (by simp [ends])
    · rw [← hr]; rw [hM]; simp [mkM, aE_eq, Ex.op, Ex.type, Ex.num, Ex.text, Ex.col, Ex.kids]
    · rw [← hr2, hM]; simp [mkM, ends]
  · simp only [decide_eq_false_iff_not, beq_iff_eq] at h ha
    have hM : boolM xs f p = mkM f 21 [1 + drawn xs (p + 1) 3] (p + 2) := by simp only [boolM]; rw [if_neg h, if_pos ha]
    refine callq [[], []] [(1000, 1000)] (c13 (n := 3) (p := p + 1) hx (by omega) (by omega)) ?_
    simp -implicitDefEqProofs only [↓steps, push_cast, simprocAttr, tte]
    simp only [w3]
    refine callq [[], [], [], []] [(1000, 1000)] (c15 H hx hd hd2 (21) [(1 + drawn xs (p + 1) 3)] (by simp) (p + 2)) ?_
    simp -implicitDefEqProofs only [↓steps, push_cast, simprocAttr, tte]
    refine ⟨drawx_intro (by kernel_rfl), ?_⟩
    refine retx_of [0, 0, 0, 0, 0, 6] rfl (by simp) (by simp) ?_ (by first | simp [ends] | (subst_vars; simp [ends])) ?_ (by simp [ends])
    · rw [← hr]; rw [hM]; simp [mkM, aE_eq, Ex.op, Ex.type, Ex.num, Ex.text, Ex.col, Ex.kids]
    · rw [← hr2, hM]; simp [mkM, ends]
  · simp only [decide_eq_false_iff_not, beq_eq_false_iff_ne, decide_eq_true_eq] at h ha hb
    have hM : boolM xs f p = mkM f (22 + drawn xs p 13 - 8) [2, 2] (p + 1) := by simp only [boolM]; rw [if_neg h, if_neg ha, if_pos hb]
    simp only [w22, w22']
    refine callq [[], [], [], []] [(1000, 1000)] (c15 H hx hd hd2 (22 + drawn xs p 13 - 8) [2, 2] (by simp) (p + 1)) ?_
    simp -implicitDefEqProofs only [↓steps, push_cast, simprocAttr, tte]
    refine retx_of [0, 0, 0, 0, 0, 6] rfl (by simp) (by simp) ?_ (by first | simp [ends] | (subst_vars; simp [ends])) ?_ (by simp [ends])
    · rw [← hr]; rw [hM]; simp [mkM, aE_eq, Ex.op, Ex.type, Ex.num, Ex.text, Ex.col, Ex.kids]
    · rw [← hr2, hM]; simp [mkM, ends]
  · simp only [decide_eq_false_iff_not, beq_eq_false_iff_ne, decide_eq_true_eq] at h ha hb hc
    have hM : boolM xs f p = mkM f (24 + drawn xs p 13 - 10) [2] (p + 1) := by simp only [boolM]; rw [if_neg h, if_neg ha, if_neg hb, if_pos hc]
    simp only [w24, w24']
    refine callq [[], [], [], []] [(1000, 1000)] (c15 H hx hd hd2 (24 + drawn xs p 13 - 10) [2] (by simp) (p + 1)) ?_
    simp -implicitDefEqProofs only [↓steps, push_cast, simprocAttr, tte]
    refine retx_of [0, 0, 0, 0, 0, 6] rfl (by simp) (by simp) ?_ (by first | simp [ends] | (subst_vars; simp [ends])) ?_ (by simp [ends])
    · rw [← hr]; rw [hM]; simp [mkM, aE_eq, Ex.op, Ex.type, Ex.num, Ex.text, Ex.col, Ex.kids]
    · rw [← hr2, hM]; simp [mkM, ends]
  · simp only [decide_eq_false_iff_not, beq_eq_false_iff_ne, decide_eq_true_eq] at h ha hb hc
    refine callq [[], []] [(1000, 1000)] (c13 (n := 3) (p := p + 1) hx (by omega) (by omega)) ?_
    simp -implicitDefEqProofs only [↓steps, push_cast, simprocAttr, tte]
    refine bcase_intro (fun hd' => ?_) fun hd' => bcase_intro (fun he => ?_) fun he => ?_
    · simp only [beq_iff_eq] at hd'
      have hM : boolM xs f p = mkM f 26 [2, 2, 2] (p + 2) := by simp only [boolM]; rw [if_neg h, if_neg ha, if_neg hb, if_neg hc, if_pos hd']
      refine callq [[], [], [], []] [(1000, 1000)] (c15 H hx hd hd2 (26) [2, 2, 2] (by simp) (p + 2)) ?_
      simp -implicitDefEqProofs only [↓steps, push_cast, simprocAttr, tte]
      refine retx_of [0, 0, 0, 0, 0, 6] rfl (by simp) (by simp) ?_ (by first | simp [ends] | (subst_vars; simp [ends])) ?_ (by simp [ends])
      · rw [← hr]; rw [hM]; simp [mkM, aE_eq, Ex.op, Ex.type, Ex.num, Ex.text, Ex.col, Ex.kids]
      · rw [← hr2, hM]; simp [mkM, ends]
    · simp only [beq_iff_eq, beq_eq_false_iff_ne] at hd' he
      have hM : boolM xs f p = mkM f 27 [2, 2] (p + 2) := by simp only [boolM]; rw [if_neg h, if_neg ha, if_neg hb, if_neg hc, if_neg hd', if_pos he]
      refine callq [[], [], [], []] [(1000, 1000)] (c15 H hx hd hd2 (27) [2, 2] (by simp) (p + 2)) ?_
      simp -implicitDefEqProofs only [↓steps, push_cast, simprocAttr, tte]
      refine retx_of [0, 0, 0, 0, 0, 6] rfl (by simp) (by simp) ?_ (by first | simp [ends] | (subst_vars; simp [ends])) ?_ (by simp [ends])
      · rw [← hr]; rw [hM]; simp [mkM, aE_eq, Ex.op, Ex.type, Ex.num, Ex.text, Ex.col, Ex.kids]
      · rw [← hr2, hM]; simp [mkM, ends]
    · simp only [beq_eq_false_iff_ne] at hd' he
      have hM : boolM xs f p = mkM f 28 [1 + drawn xs (p + 2) 3, 1 + drawn xs (p + 2) 3, 1 + drawn xs (p + 2) 3] (p + 3) := by simp only [boolM]; rw [if_neg h, if_neg ha, if_neg hb, if_neg hc, if_neg hd', if_neg he]
      refine callq [[], []] [(1000, 1000)] (c13 (n := 3) (p := p + 2) hx (by omega) (by omega)) ?_
      simp -implicitDefEqProofs only [↓steps, push_cast, simprocAttr, tte]
      simp only [w3]
      refine callq [[], [], [], []] [(1000, 1000)] (c15 H hx hd hd2 (28) [(1 + drawn xs (p + 2) 3), (1 + drawn xs (p + 2) 3), (1 + drawn xs (p + 2) 3)] (by simp) (p + 3)) ?_
      simp -implicitDefEqProofs only [↓steps, push_cast, simprocAttr, tte]
      refine retx_of [0, 0, 0, 0, 0, 6] rfl (by simp) (by simp) ?_ (by first | simp [ends] | (subst_vars; simp [ends])) ?_ (by simp [ends])
      · rw [← hr]; rw [hM]; simp [mkM, aE_eq, Ex.op, Ex.type, Ex.num, Ex.text, Ex.col, Ex.kids]
      · rw [← hr2, hM]; simp [mkM, ends]
end Go.Proofs.YtampbaaiddbacaaDoor
namespace Go.Proofs.YtampbaaiddbacaaDoor
open Go.Am
attribute [local simp, local push_cast] num boo ints tapeO aV aX
set_option linter.unusedVariables false
set_option linter.unusedSimpArgs false
set_option maxRecDepth 100000
set_option maxHeartbeats 4000000
def opM (xs : List Int) (f : Int → Nat → Ex × Nat) (typ : Int) (p : Nat) : Ex × Nat :=
  if typ = 1 then
    let n := drawn xs p 9
    if n = 5 then mkM f 11 [1] (p + 1)
    else if n = 6 then mkM f 13 [3] (p + 1)
    else if n = 7 then mkM f 26 [2, 1, 1] (p + 1)
    else if n = 8 then mkM f 27 [1, 1] (p + 1)
    else mkM f (6 + n) [1, 1] (p + 1)
  else if typ = 3 then
    let n := drawn xs p 3
    if n = 0 then mkM f 12 [3, 3] (p + 1)
    else if n = 1 then mkM f 26 [2, 3, 3] (p + 1)
    else mkM f 27 [3, 3] (p + 1)
  else boolM xs f p
def exprM (xs types : List Int) : Nat → Int → Nat → Ex × Nat
  | 0, typ, p => leafM xs types typ p
  | d + 1, typ, p => if d = 0 then leafM xs types typ p else if drawn xs p 3 = 0 then leafM xs types typ (p + 1) else opM xs (exprM xs types d) typ (p + 1)
theorem c11 {xs types : List Int} (hx : Tape xs) (ht : types.length ≤ 1000) : ∀ (d : Nat), d + 1 ≤ 10 → C11 xs types (d + 1 : Nat) (exprM xs types (d + 1))
  | 0, _ => by
    intro typ p
    refine enterq mixed ttok Tryd.func10 Tryd.ntmps10 Tryd.results10 ?_
    generalize hr : aE (exprM xs types (0 + 1) typ p).1 = R
    generalize hr2 : tapeO xs (exprM xs types (0 + 1) typ p).2 = R2
    simp -implicitDefEqProofs only [argT, ↓steps, push_cast, simprocAttr, tte]
    refine callq [[], []] [(1000, 1000)] (c14 (types := types) (typ := typ) (p := p) hx ht) ?_
    simp -implicitDefEqProofs only [↓steps, push_cast, simprocAttr, tte]
    have hM : exprM xs types (0 + 1) typ p = leafM xs types typ p := by simp [exprM]
    refine retx_of [0, 0, 0, 0, 0, 6] rfl (by simp) (by simp) ?_ (by first | simp [ends] | (subst_vars; simp [ends])) ?_ (by simp [ends])
    · rw [← hr, hM]; simp [aE_eq]
    · rw [← hr2, hM]; simp [ends]
  | e + 1, hd10 => by
    intro typ p
    have ih := c11 hx ht e (by omega)
    have ih' : C11 xs types (((e + 1 + 1 : Nat) : Int) - 1) (exprM xs types (e + 1)) := by
      rw [show ((e + 1 + 1 : Nat) : Int) - 1 = ((e + 1 : Nat) : Int) from by omega]; exact ih
    have hd : (0 : Int) < ((e + 1 + 1 : Nat) : Int) := by omega
    have hd2 : ((e + 1 + 1 : Nat) : Int) ≤ 10 := by omega
    have h9r := drawn_range xs (p + 1) (n := 9) (by omega)
    have w6 : IntKind.i64.wrap (6 + drawn xs (p + 1) 9) = 6 + drawn xs (p + 1) 9 := wrap_eq (by omega) (by omega)
    refine enterq mixed ttok Tryd.func10 Tryd.ntmps10 Tryd.results10 ?_
    generalize hr : aE (exprM xs types (e + 1 + 1) typ p).1 = R
    generalize hr2 : tapeO xs (exprM xs types (e + 1 + 1) typ p).2 = R2
    simp -implicitDefEqProofs only [argT, ↓steps, push_cast, simprocAttr, tte]
    refine bcase_intro (fun h => ?_) fun h => ?_
    · simp only [decide_eq_true_eq] at h; omega
    · simp only [decide_eq_false_iff_not] at h
      refine callq [[], []] [(1000, 1000)] (c13 (n := 3) (p := p) hx (by omega) (by omega)) ?_
      simp -implicitDefEqProofs only [↓steps, push_cast, simprocAttr, tte]
      refine bcase_intro (fun h1 => ?_) fun h1 => bcase_intro (fun h2 => ?_) fun h2 => bcase_intro (fun h3 => ?_) fun h3 => ?_
      · simp only [beq_iff_eq] at h1
        refine callq [[], []] [(1000, 1000)] (c14 (types := types) (typ := typ) (p := p + 1) hx ht) ?_
        simp -implicitDefEqProofs only [↓steps, push_cast, simprocAttr, tte]
        have hM : exprM xs types (e + 1 + 1) typ p = leafM xs types typ (p + 1) := by simp only [exprM]; rw [if_neg (by omega), if_pos h1]
        refine retx_of [0, 0, 0, 0, 0, 6] rfl (by simp) (by simp) ?_ (by first | simp [ends] | (subst_vars; simp [ends])) ?_ (by simp [ends])
        · rw [← hr, hM]; simp [aE_eq]
        · rw [← hr2, hM]; simp [ends]
      · simp only [beq_iff_eq, beq_eq_false_iff_ne] at h1 h2
        refine callq [[], []] [(1000, 1000)] (c13 (n := 9) (p := p + 1) hx (by omega) (by omega)) ?_
        simp -implicitDefEqProofs only [↓steps, push_cast, simprocAttr, tte]
        simp only [w6]
        refine bcase_intro (fun a1 => ?_) fun a1 => bcase_intro (fun a2 => ?_) fun a2 => bcase_intro (fun a3 => ?_) fun a3 => bcase_intro (fun a4 => ?_) fun a4 => ?_ <;> simp only [beq_iff_eq, beq_eq_false_iff_ne] at a1 <;> (try simp only [beq_iff_eq, beq_eq_false_iff_ne] at a2) <;> (try simp only [beq_iff_eq, beq_eq_false_iff_ne] at a3) <;> (try simp only [beq_iff_eq, beq_eq_false_iff_ne] at a4)
        · refine callq [[], [], [], []] [(1000, 1000)] (c15 ih' hx hd hd2 (11) [1] (by simp) (p + 1 + 1)) ?_
          simp -implicitDefEqProofs only [↓steps, push_cast, simprocAttr, tte]
          have hM : exprM xs types (e + 1 + 1) typ p = mkM (exprM xs types (e + 1)) (11) [1] (p + 1 + 1) := by simp only [exprM, opM]; rw [if_neg (by omega), if_neg h1, if_pos h2, if_pos a1]
          refine retx_of [0, 0, 0, 0, 0, 6] rfl (by simp) (by simp) ?_ (by first | simp [ends] | (subst_vars; simp [ends])) ?_ (by simp [ends])
          · rw [← hr, hM]; simp [mkM, aE_eq, Ex.op, Ex.type, Ex.num, Ex.text, Ex.col, Ex.kids]
          · rw [← hr2, hM]; simp [mkM, ends]
        · refine callq [[], [], [], []] [(1000, 1000)] (c15 ih' hx hd hd2 (13) [3] (by simp) (p + 1 + 1)) ?_
          simp -implicitDefEqProofs only [↓steps, push_cast, simprocAttr, tte]
          have hM : exprM xs types (e + 1 + 1) typ p = mkM (exprM xs types (e + 1)) (13) [3] (p + 1 + 1) := by simp only [exprM, opM]; rw [if_neg (by omega), if_neg h1, if_pos h2, if_neg a1, if_pos a2]
          refine retx_of [0, 0, 0, 0, 0, 6] rfl (by simp) (by simp) ?_ (by first | simp [ends] | (subst_vars; simp [ends])) ?_ (by simp [ends])
          · rw [← hr, hM]; simp [mkM, aE_eq, Ex.op, Ex.type, Ex.num, Ex.text, Ex.col, Ex.kids]
          · rw [← hr2, hM]; simp [mkM, ends]
        · refine callq [[], [], [], []] [(1000, 1000)] (c15 ih' hx hd hd2 (26) [2, 1, 1] (by simp) (p + 1 + 1)) ?_
          simp -implicitDefEqProofs only [↓steps, push_cast, simprocAttr, tte]
          have hM : exprM xs types (e + 1 + 1) typ p = mkM (exprM xs types (e + 1)) (26) [2, 1, 1] (p + 1 + 1) := by simp only [exprM, opM]; rw [if_neg (by omega), if_neg h1, if_pos h2, if_neg a1, if_neg a2, if_pos a3]
          refine retx_of [0, 0, 0, 0, 0, 6] rfl (by simp) (by simp) ?_ (by first | simp [ends] | (subst_vars; simp [ends])) ?_ (by simp [ends])
          · rw [← hr, hM]; simp [mkM, aE_eq, Ex.op, Ex.type, Ex.num, Ex.text, Ex.col, Ex.kids]
          · rw [← hr2, hM]; simp [mkM, ends]
        · refine callq [[], [], [], []] [(1000, 1000)] (c15 ih' hx hd hd2 (27) [1, 1] (by simp) (p + 1 + 1)) ?_
          simp -implicitDefEqProofs only [↓steps, push_cast, simprocAttr, tte]
          have hM : exprM xs types (e + 1 + 1) typ p = mkM (exprM xs types (e + 1)) (27) [1, 1] (p + 1 + 1) := by simp only [exprM, opM]; rw [if_neg (by omega), if_neg h1, if_pos h2, if_neg a1, if_neg a2, if_neg a3, if_pos a4]
          refine retx_of [0, 0, 0, 0, 0, 6] rfl (by simp) (by simp) ?_ (by first | simp [ends] | (subst_vars; simp [ends])) ?_ (by simp [ends])
          · rw [← hr, hM]; simp [mkM, aE_eq, Ex.op, Ex.type, Ex.num, Ex.text, Ex.col, Ex.kids]
          · rw [← hr2, hM]; simp [mkM, ends]
        · refine callq [[], [], [], []] [(1000, 1000)] (c15 ih' hx hd hd2 (6 + drawn xs (p + 1) 9) [1, 1] (by simp) (p + 1 + 1)) ?_
          simp -implicitDefEqProofs only [↓steps, push_cast, simprocAttr, tte]
          have hM : exprM xs types (e + 1 + 1) typ p = mkM (exprM xs types (e + 1)) (6 + drawn xs (p + 1) 9) [1, 1] (p + 1 + 1) := by simp only [exprM, opM]; rw [if_neg (by omega), if_neg h1, if_pos h2, if_neg a1, if_neg a2, if_neg a3, if_neg a4]
          refine retx_of [0, 0, 0, 0, 0, 6] rfl (by simp) (by simp) ?_ (by first | simp [ends] | (subst_vars; simp [ends])) ?_ (by simp [ends])
          · rw [← hr, hM]; simp [mkM, aE_eq, Ex.op, Ex.type, Ex.num, Ex.text, Ex.col, Ex.kids]
          · rw [← hr2, hM]; simp [mkM, ends]
      · simp only [beq_iff_eq, beq_eq_false_iff_ne] at h1 h2 h3
        refine callq [[], []] [(1000, 1000)] (c13 (n := 3) (p := p + 1) hx (by omega) (by omega)) ?_
        simp -implicitDefEqProofs only [↓steps, push_cast, simprocAttr, tte]
        refine bcase_intro (fun a1 => ?_) fun a1 => bcase_intro (fun a2 => ?_) fun a2 => ?_ <;> simp only [beq_iff_eq, beq_eq_false_iff_ne] at a1 <;> (try simp only [beq_iff_eq, beq_eq_false_iff_ne] at a2)
        · refine callq [[], [], [], []] [(1000, 1000)] (c15 ih' hx hd hd2 (12) [3, 3] (by simp) (p + 1 + 1)) ?_
          simp -implicitDefEqProofs only [↓steps, push_cast, simprocAttr, tte]
          have hM : exprM xs types (e + 1 + 1) typ p = mkM (exprM xs types (e + 1)) (12) [3, 3] (p + 1 + 1) := by simp only [exprM, opM]; rw [if_neg (by omega), if_neg h1, if_neg h2, if_pos h3, if_pos a1]
          refine retx_of [0, 0, 0, 0, 0, 6] rfl (by simp) (by simp) ?_ (by first | simp [ends] | (subst_vars; simp [ends])) ?_ (by simp [ends])
          · rw [← hr, hM]; simp [mkM, aE_eq, Ex.op, Ex.type, Ex.num, Ex.text, Ex.col, Ex.kids]
          · rw [← hr2, hM]; simp [mkM, ends]
        · refine callq [[], [], [], []] [(1000, 1000)] (c15 ih' hx hd hd2 (26) [2, 3, 3] (by simp) (p + 1 + 1)) ?_
          simp -implicitDefEqProofs only [↓steps, push_cast, simprocAttr, tte]
          have hM : exprM xs types (e + 1 + 1) typ p = mkM (exprM xs types (e + 1)) (26) [2, 3, 3] (p + 1 + 1) := by simp only [exprM, opM]; rw [if_neg (by omega), if_neg h1, if_neg h2, if_pos h3, if_neg a1, if_pos a2]
          refine retx_of [0, 0, 0, 0, 0, 6] rfl (by simp) (by simp) ?_ (by first | simp [ends] | (subst_vars; simp [ends])) ?_ (by simp [ends])
          · rw [← hr, hM]; simp [mkM, aE_eq, Ex.op, Ex.type, Ex.num, Ex.text, Ex.col, Ex.kids]
          · rw [← hr2, hM]; simp [mkM, ends]
        · refine callq [[], [], [], []] [(1000, 1000)] (c15 ih' hx hd hd2 (27) [3, 3] (by simp) (p + 1 + 1)) ?_
          simp -implicitDefEqProofs only [↓steps, push_cast, simprocAttr, tte]
          have hM : exprM xs types (e + 1 + 1) typ p = mkM (exprM xs types (e + 1)) (27) [3, 3] (p + 1 + 1) := by simp only [exprM, opM]; rw [if_neg (by omega), if_neg h1, if_neg h2, if_pos h3, if_neg a1, if_neg a2]
          refine retx_of [0, 0, 0, 0, 0, 6] rfl (by simp) (by simp) ?_ (by first | simp [ends] | (subst_vars; simp [ends])) ?_ (by simp [ends])
          · rw [← hr, hM]; simp [mkM, aE_eq, Ex.op, Ex.type, Ex.num, Ex.text, Ex.col, Ex.kids]
          · rw [← hr2, hM]; simp [mkM, ends]
      · simp only [beq_iff_eq, beq_eq_false_iff_ne] at h1 h2 h3
        refine callq [[], []] [(1000, 1000)] (c16 (xs := xs) (types := types) (f := exprM xs types (e + 1)) ih' hx hd hd2 (p + 1)) ?_
        simp -implicitDefEqProofs only [↓steps, push_cast, simprocAttr, tte]
        have hM : exprM xs types (e + 1 + 1) typ p = boolM xs (exprM xs types (e + 1)) (p + 1) := by simp only [exprM, opM]; rw [if_neg (by omega), if_neg h1, if_neg h2, if_neg h3]
        refine retx_of [0, 0, 0, 0, 0, 6] rfl (by simp) (by simp) ?_ (by first | simp [ends] | (subst_vars; simp [ends])) ?_ (by simp [ends])
        · rw [← hr, hM]; simp [aE_eq]
        · rw [← hr2, hM]; simp [ends]
end Go.Proofs.YtampbaaiddbacaaDoor
namespace Go.Proofs.YtampbaaiddbacaaDoor
open Go.Am
attribute [local simp, local push_cast] num boo ints tapeO aV aX
set_option linter.unusedVariables false
set_option linter.unusedSimpArgs false
set_option maxRecDepth 100000
set_option maxHeartbeats 4000000
def Known (t : Int) : Prop := (t == 1 || t == 2 || t == 3) = true
def I5 (types : List Int) (typ deep : Int) (xs : List Int) (n : Nat) : SL :=
  ⟨[(31, .d (.lit (.int .i64 n))), (30, .d (.lit (.int .i64 types.length))), (29, .d (.sl 1 (rowsOf rI types))), (8, .ptr 8 0), (0, .d (.sl 1 (rowsOf rI types))), (1, .d (.lit (.int .i64 typ))), (2, .d (.lit (.int .i64 deep))), (3, .d (.sl 1 (rowsOf rI xs)))],
   [(8, .var [.d (.lit (.int .i64 0)), .d (.lit (.int .i64 0)), .d (.lit (.int .i64 0)), .d (.lit (.string ByteArray.empty)), .d (.lit (.int .i64 0)), .snil])]⟩
theorem tape_take {xs : List Int} (hx : ∀ x ∈ xs, i64 x) : Tape (xs.take 400) := ⟨by simp; omega, fun x h => hx x (List.mem_of_mem_take h)⟩
theorem c5 {xs types : List Int} {typ : Int} {d : Nat} (hx : ∀ x ∈ xs, i64 x) (ht : types.length ≤ 24) (hk : ∀ t ∈ types, Known t) (hty : Known typ) (hd : d + 1 ≤ 6) :
    ACall Tryd.prog 4 [ints types, num typ, num (d + 1 : Nat), ints xs] [] (.tup [aE (exprM (xs.take 400) types (d + 1) typ 0).1, num 0]) [] := by
  refine enterq mixed ttok Tryd.func4 Tryd.ntmps4 Tryd.results4 ?_
  generalize hr : aE (exprM (xs.take 400) types (d + 1) typ 0).1 = R
  unfold Known at hty
  simp -implicitDefEqProofs only [argT, ↓steps, push_cast, simprocAttr, tte]
  refine bcase_intro (fun h => ?_) fun h => ?_
  · simp only [decide_eq_true_eq] at h; omega
  refine callq [[]] [] (c9 typ) ?_
  simp -implicitDefEqProofs only [↓steps, push_cast, simprocAttr, tte, hty]
  refine bcase_intro (fun h2 => ?_) fun h2 => ?_
  · simp only [decide_eq_true_eq] at h2; omega
  refine bcase_intro (fun h3 => ?_) fun h3 => ?_
  · simp only [decide_eq_true_eq] at h3; omega
  refine loop_intro mixed ttok (fun n : { n : Nat // n ≤ types.length } => I5 types typ (d + 1 : Nat) xs n.1) (fun n => types.length - n.1) ⟨0, Nat.zero_le _⟩ ?_ fun ⟨n, hn⟩ => ?_
  · exact Weak.keepL (by simp [I5, ends]) (by simp [I5, ends]) (by simp [I5, ends])
  · have hw : n < types.length → IntKind.i64.wrap ((n : Int) + 1) = (n : Int) + 1 := fun h => wrap_eq (by omega) (by omega)
    generalize hI : (fun n : { n : Nat // n ≤ types.length } => I5 types typ (d + 1 : Nat) xs n.1) = I
    simp -implicitDefEqProofs only [I5, ↓steps, push_cast, simprocAttr, tte]
    refine bcase_intro (fun h => ?_) fun h => ?_
    · have h' : n < types.length := by simpa using h
      have hw := hw h'
      have hkn := hk (types.getD n default) (by rw [List.getD_eq_getElem?_getD]; simp [h'])
      unfold Known at hkn
      refine ⟨⟨by omega, by omega⟩, ?_⟩
      refine callq [[]] [] (c9 (types.getD n default)) ?_
      simp -implicitDefEqProofs only [↓steps, push_cast, simprocAttr, tte, hkn]
      refine loopK_again (⟨n + 1, h'⟩ : { n : Nat // n ≤ types.length }) (by show types.length - (n + 1) < types.length - n; omega) ?_ ?_ ?_ <;> subst hI
      · simp [I5, ends, hw]
      · simp [I5, ends]
      · simp [I5, ends]
    · refine callq [[]] [(9, 500)] (c10 (xs := xs)) ?_
      simp -implicitDefEqProofs only [↓steps, push_cast, simprocAttr, tte]
      refine callq [[], [], []] [(1000, 500)] (c11 (tape_take hx) (show types.length ≤ 1000 by omega) d (by omega) typ 0) ?_
      simp -implicitDefEqProofs only [↓steps, push_cast, simprocAttr, tte]
      refine retx_tup [[0, 0, 0, 0, 0, 6], []] rfl (by simp) (by simp) ?_ (by subst hr; simp [ends]) trivial (by simp [ends])
      rw [← hr]; simp [aE_eq]
end Go.Proofs.YtampbaaiddbacaaDoor
namespace Go.Proofs.YtampbaaiddbacaaDoor
open Go.Am
attribute [local simp, local push_cast] num boo ints tapeO aV aX
set_option linter.unusedVariables false
set_option linter.unusedSimpArgs false
set_option maxRecDepth 100000
set_option maxHeartbeats 4000000
/-- An expression of operations that have not too many operands. -/
inductive Fine : Ex → Prop
  | mk (e : Ex) (h1 : e.kids.length ≤ 1000000) (h2 : ∀ k ∈ e.kids, Fine k) : Fine e
theorem awake1 : (exprM [] [] 1 1 0).1 = .mk 2 0 (-2) ByteArray.empty 0 [] := by rfl
theorem awake2 : (exprM [1, 8] [] 2 1 0).1 = .mk 27 0 0 ByteArray.empty 0 [.mk 2 0 (-2) ByteArray.empty 0 [], .mk 2 0 (-2) ByteArray.empty 0 []] := by rfl
theorem c4 : ACall Tryd.prog 7 [] [] (boo true) [] := by
  refine enterq mixed ttok Tryd.func7 Tryd.ntmps7 Tryd.results7 ?_
  simp -implicitDefEqProofs only [argT, ↓steps, push_cast, simprocAttr, tte]
  refine callq [[1], [], [], [1]] [] (c5 (xs := []) (types := []) (typ := 1) (d := 0) (by simp) (by simp) (by simp) rfl (by omega)) ?_
  simp -implicitDefEqProofs only [awake1, Ex.op, Ex.type, Ex.num, Ex.text, Ex.col, Ex.kids, ↓steps, push_cast, simprocAttr, tte]
  refine callq [[1], [], [], [1]] [] (c5 (xs := [1, 8]) (types := []) (typ := 1) (d := 1) (by simp [i64]) (by simp) (by simp) rfl (by omega)) ?_
  simp -implicitDefEqProofs only [List.take_succ_cons, List.take_nil, Nat.reduceAdd, awake2, Ex.op, Ex.type, Ex.num, Ex.text, Ex.col, Ex.kids, ↓steps, push_cast, simprocAttr, tte]
  refine retx_of [0] rfl trivial trivial rfl rfl trivial ?_
  simp only [ends, ite_true, ite_false, reduceIte, Nat.reduceEqDiff, Nat.reduceLeDiff, Nat.reduceLT, Nat.reduceAdd, reduceCtorEq, num, boo, ints, tapeO, aV, aX]
end Go.Proofs.YtampbaaiddbacaaDoor
namespace Go.Proofs.YtampbaaiddbacaaDoor
open Go.Am
attribute [local simp, local push_cast] num boo ints tapeO aV aX
set_option linter.unusedVariables false
set_option linter.unusedSimpArgs false
set_option maxRecDepth 100000
set_option maxHeartbeats 4000000
end Go.Proofs.YtampbaaiddbacaaDoor
namespace Go.Proofs.YtampbaaiddbacaaDoor
open Go.Am
attribute [local simp, local push_cast] num boo ints tapeO aV aX
set_option linter.unusedVariables false
set_option linter.unusedSimpArgs false
set_option maxRecDepth 100000
set_option maxHeartbeats 4000000
theorem name_ok (pre : ByteArray) (h : pre.size ≤ 1000) (i : Int) : ((pre.size + (Utf8.encode i).size : Nat) : Int) ≤ 9223372036854775807 := by have := encode_size i; omega
/-- A name of one letter behind a stem. -/
def letter (pre : ByteArray) (base : Int) (n : Nat) : ByteArray := pre ++ Utf8.encode (IntKind.i32.wrap (IntKind.i64.wrap (base + n)))
def colM (xs : List Int) (p c : Nat) : Col := ⟨letter ⟨#[99]⟩ 97 c, 1 + drawn xs (p + 2 * c) 3, drawn xs (p + 2 * c + 1) 2 == 1⟩
def colsM (xs : List Int) (p c : Nat) : List Col := ⟨⟨#[107]⟩, 1, false⟩ :: (List.range c).map (colM xs p)
theorem colsM_succ (xs : List Int) (p c : Nat) : colsM xs p (c + 1) = colsM xs p c ++ [colM xs p c] := by simp [colsM, List.range_succ]
def rforeignM (xs : List Int) (s : List Tbl) (n : Nat) (cols : List Col) (p : Nat) : List Col × List Fk × Nat :=
  if decide ((n : Int) > 0) = true then
    if (drawn xs p 2 == 1) = true then (cols ++ [⟨⟨#[102]⟩, 1, drawn xs (p + 1) 2 == 1⟩], [⟨[(cols.length : Int)], (s.getD (drawn xs (p + 1 + 1) n).toNat default).name⟩], p + 1 + 1 + 1)
    else (cols, [], p + 1)
  else (cols, [], p)
def checkE : Ex := .mk 16 0 0 ByteArray.empty 0 [.mk 5 0 0 ByteArray.empty 1 [], .mk 2 0 4 ByteArray.empty 0 []]
def tableM' (xs : List Int) (n : Nat) (cols : List Col) (fs : List Fk) (p : Nat) : Tbl × Nat :=
  let uni := if (drawn xs p 4 == 3) = true then [[1]] else []
  if ((cols.getD 1 default).type == 1) = true then (⟨letter ⟨#[116]⟩ 97 n, cols, [0], uni, fs, if (drawn xs (p + 1) 4 == 3) = true then [checkE] else []⟩, p + 1 + 1)
  else (⟨letter ⟨#[116]⟩ 97 n, cols, [0], uni, fs, []⟩, p + 1)
def rtableM (xs : List Int) (s : List Tbl) (n p : Nat) : Tbl × Nat :=
  let m := (1 + drawn xs p 3).toNat
  let f := rforeignM xs s n (colsM xs (p + 1) m) (p + 1 + 2 * m)
  tableM' xs n f.1 f.2.1 f.2.2
def tabsM (xs : List Int) : Nat → List Tbl × Nat
  | 0 => ([], 1)
  | n + 1 => ((tabsM xs n).1 ++ [(rtableM xs (tabsM xs n).1 n (tabsM xs n).2).1], (rtableM xs (tabsM xs n).1 n (tabsM xs n).2).2)
def schemaM (xs : List Int) : List Tbl := (tabsM xs (1 + drawn xs 0 3).toNat).1
theorem tabsM_length (xs : List Int) : ∀ n, (tabsM xs n).1.length = n
  | 0 => rfl
  | n + 1 => by simp [tabsM, tabsM_length xs n]
def I8 (xs : List Int) (m n : Nat) : SL :=
  ⟨[(15, .d (.lit (.int .i64 n))), (14, .d (.lit (.int .i64 m))), (4, .ptr 4 0), (3, .ptr 500 0), (2, .ptr 2 0)],
   [(4, .var [.vec 600 n]), (600, .vec 55 6 (rowsOf rT (tabsM xs n).1) 0), (500, tapeO xs (tabsM xs n).2), (2, .var [.snil])]⟩
/-- Within a table. -/
def J8 (xs : List Int) (sn : List Tbl) (m n p m2 c : Nat) : SL :=
  ⟨[(30, .d (.lit (.int .i64 c))), (29, .d (.lit (.int .i64 m2))), (6, .ptr 6 0), (5, .d (.lit (.int .i64 n))), (15, .d (.lit (.int .i64 n))), (14, .d (.lit (.int .i64 m))), (4, .ptr 4 0), (3, .ptr 500 0), (2, .ptr 2 0)],
   [(6, .var [.d (.lit (.string (letter ⟨#[116]⟩ 97 n))), .vec 24 (c + 1), .vec 25 1, .snil, .snil, .snil]), (24, .vec 50 3 (rowsOf rC (colsM xs (p + 1) c)) 0), (25, .vec 3 1 (rowsOf rI [0]) 0),
    (4, .var [.vec 600 n]), (600, .vec 55 6 (rowsOf rT sn) 0), (500, tapeO xs (p + 1 + 2 * c)), (2, .var [.snil])]⟩
theorem c8 {xs : List Int} (hx : ∀ x ∈ xs, i64 x) : ACall Tryd.prog 5 [ints xs] [] (aS (schemaM (xs.take 400))) [] := by
  refine enterq mixed ttok Tryd.func5 Tryd.ntmps5 Tryd.results5 ?_
  simp -implicitDefEqProofs only [argT, ↓steps, push_cast, simprocAttr, tte]
  refine callq [[1]] [(9, 500)] (c10 (xs := xs)) ?_
  have hx := tape_take hx
  generalize xs.take 400 = xs at hx ⊢
  generalize hr : aS (schemaM xs) = R
  have h3 := fun p => drawn_range xs p (n := 3) (by omega)
  have w3 : ∀ q, IntKind.i64.wrap (1 + drawn xs q 3) = 1 + drawn xs q 3 := fun q => wrap_eq (by have := h3 q; omega) (by have := h3 q; omega)
  simp -implicitDefEqProofs only [↓steps, push_cast, simprocAttr, tte]
  refine callq [[], []] [(1000, 500)] (c13 (n := 3) (p := 0) hx (by omega) (by omega)) ?_
  simp -implicitDefEqProofs only [↓steps, push_cast, simprocAttr, tte, w3]
  obtain ⟨m, hm⟩ : ∃ m : Nat, 1 + drawn xs 0 3 = m := ⟨(1 + drawn xs 0 3).toNat, by have := h3 0; omega⟩
  have hm3 : m ≤ 3 := by have := h3 0; omega
  rw [hm]
  refine loop_intro mixed ttok (fun n : { n : Nat // n ≤ m } => I8 xs m n.1) (fun n => m - n.1) ⟨0, Nat.zero_le _⟩ ?_ fun ⟨n, hn⟩ => ?_
  · exact (Weak.nilCellL 4 0 600 55 6 rfl rfl rfl).trans (Weak.keepL (by simp [I8, tabsM, ends]) (by simp [I8, tabsM, rowsOf, ends]) (by simp [I8, ends]))
  · have hw : n < m → IntKind.i64.wrap ((n : Int) + 1) = (n : Int) + 1 := fun h => wrap_eq (by omega) (by omega)
    generalize hI : (fun n : { n : Nat // n ≤ m } => I8 xs m n.1) = I
    have htl := tabsM_length xs n
    simp -implicitDefEqProofs only [I8, ↓steps, push_cast, simprocAttr, tte]
    refine bcase_intro (fun h => ?_) fun h => ?_
    · have h' : n < m := by simpa using h
      have hw := hw h'
      generalize hp : (tabsM xs n).2 = p
      generalize hsn : (tabsM xs n).1 = sn at htl ⊢
      refine ⟨name_ok _ (by decide) _, ?_⟩
      refine callq [[], []] [(1000, 500)] (c13 (n := 3) (p := p) hx (by omega) (by omega)) ?_
      simp -implicitDefEqProofs only [↓steps, push_cast, simprocAttr, tte, w3]
      obtain ⟨m2, hm2⟩ : ∃ m2 : Nat, 1 + drawn xs p 3 = m2 := ⟨(1 + drawn xs p 3).toNat, by have := h3 p; omega⟩
      have hm23 : m2 ≤ 3 ∧ 1 ≤ m2 := by have := h3 p; omega
      rw [hm2]
      refine loop_intro mixed ttok (fun c : { c : Nat // c ≤ m2 } => J8 xs sn m n p m2 c.1) (fun c => m2 - c.1) ⟨0, Nat.zero_le _⟩ ?_ fun ⟨c, hc⟩ => ?_
      · exact Weak.keepL (by simp [J8, ends]) (by simp [J8, colsM, rowsOf, letter, rC, ends]) (by simp [J8, ends])
      have hwc : c < m2 → IntKind.i64.wrap ((c : Int) + 1) = (c : Int) + 1 := fun h => wrap_eq (by omega) (by omega)
      generalize hJ : (fun c : { c : Nat // c ≤ m2 } => J8 xs sn m n p m2 c.1) = J
      have hcl : (colsM xs (p + 1) c).length = c + 1 := by simp [colsM]
      simp -implicitDefEqProofs only [J8, ↓steps, push_cast, simprocAttr, tte]
      refine bcase_intro (fun hq => ?_) fun hq => ?_
      · have hc' : c < m2 := by simpa using hq
        have hwc := hwc hc'
        refine callq [[], []] [(1000, 500)] (c13 (n := 3) (p := p + 1 + 2 * c) hx (by omega) (by omega)) ?_
        simp -implicitDefEqProofs only [↓steps, push_cast, simprocAttr, tte, w3]
        refine ⟨name_ok _ (by decide) _, ?_⟩
        refine callx_of [[], []] [(1000, 500)] rfl (c13 hx (by first | omega | (simp only [decide_eq_true_eq, gt_iff_lt] at *; omega)) (by omega)) (by simp) rfl rfl (And.intro (And.intro rfl rfl) trivial) (by simp [idsOk, lookO, updO, ren1]) ?_
        simp -implicitDefEqProofs only [↓steps, push_cast, simprocAttr, tte]
        have hcs := colsM_succ xs (p + 1) c
        refine ⟨⟨by omega, by omega⟩, drawx_intro (by kernel_rfl), ?_⟩
        refine loopK_again (⟨c + 1, hc'⟩ : { c : Nat // c ≤ m2 }) (by show m2 - (c + 1) < m2 - c; omega) ?_ ?_ ?_ <;> subst hJ
        · simp [J8, ends, hwc, hcl]
        · simp [J8, ends, hcs, hcl, colM, letter, rowsOf, rC, show p + 1 + 2 * (c + 1) = p + 1 + 2 * c + 1 + 1 from by omega]
        · simp [J8, ends]
      · have hcm : c = m2 := by simp at hq; omega
        subst hcm
        generalize hcols : colsM xs (p + 1) c = cols at hcl ⊢
        have hstep : tabsM xs (n + 1) = (sn ++ [(tableM' xs n (rforeignM xs sn n cols (p + 1 + 2 * c)).1 (rforeignM xs sn n cols (p + 1 + 2 * c)).2.1 (rforeignM xs sn n cols (p + 1 + 2 * c)).2.2).1], (tableM' xs n (rforeignM xs sn n cols (p + 1 + 2 * c)).1 (rforeignM xs sn n cols (p + 1 + 2 * c)).2.1 (rforeignM xs sn n cols (p + 1 + 2 * c)).2.2).2) := by
          have e1 : (1 + drawn xs p 3).toNat = c := by omega
          simp only [tabsM, hsn, hp, rtableM, e1, hcols]
        have fin : ∀ {t : List (Nat × A)} {o : List (Nat × Ob)}, keepT (lookT t) (inO (I8 xs m (n + 1)).o) (I8 xs m (n + 1)).t → keepO (lookO o) (inO (I8 xs m (n + 1)).o) (I8 xs m (n + 1)).o → keepIn (inO (I8 xs m (n + 1)).o) o →
            ∀ K, loopK I (fun n => m - n.1) ⟨n, hn⟩ K .normal ⟨t, o⟩ := by
          intro t o k1 k2 k3 K
          subst hI
          exact loopK_again (⟨n + 1, h'⟩ : { n : Nat // n ≤ m }) (by show m - (n + 1) < m - n; omega) k1 k2 k3
        clear hI hm hm2 hJ w3
        repeat' first
          | (refine bcase_intro (fun _ => ?_) (fun _ => ?_))
          | (refine callx_of [[], []] [(1000, 500)] rfl (c13 hx (by first | omega | (simp only [decide_eq_true_eq, gt_iff_lt] at *; omega)) (by omega)) (by simp) rfl rfl (And.intro (And.intro rfl rfl) trivial) (by simp [idsOk, lookO, updO, ren1]) ?_; simp -implicitDefEqProofs only [↓steps, push_cast, simprocAttr, tte])
          | (refine And.intro (drawx_intro ?_) ?_; · kernel_rfl)
          | (refine And.intro ?_ ?_; · omega)
          | (refine And.intro ?_ ?_; · (simp [List.length_append]; omega))
          | (refine And.intro ?_ ?_; · (simp [List.length_append, hcl]; done))
          | (refine And.intro ?_ ?_; · (have hz := drawn_range xs (p + 1 + 2 * c + 1 + 1) (n := (n : Int)) (by first | omega | (simp only [decide_eq_true_eq, gt_iff_lt] at *; omega)); omega))
          | (refine fin ?_ ?_ ?_ _)
        all_goals first
          | (simp [I8, ends, hw, htl]; done)
          | (clear fin
             simp only [rforeignM, tableM', *, reduceIte, Bool.false_eq_true, ite_true, ite_false] at hstep
             simp [I8, ends, hstep, checkE, rowsOf, rT, rF, rIs, rE_mk, rC, hcl, htl]; done)
    · have hnm : n = m := by simp at h; omega
      subst hnm
      have hM : schemaM xs = (tabsM xs n).1 := by simp only [schemaM, hm, Int.toNat_natCast]
      refine retx_of [6] rfl trivial (by simp [rowsOf_length, htl]) ?_ (by subst hr; simp [aS, A.closed, closedL]) trivial (by simp [ends])
      rw [← hr, hM]; simp [aS]
end Go.Proofs.YtampbaaiddbacaaDoor
