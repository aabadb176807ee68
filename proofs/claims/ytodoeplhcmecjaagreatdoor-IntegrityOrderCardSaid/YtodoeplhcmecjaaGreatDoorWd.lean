/- Validity does not depend on the order of rows: a proof over an abstract machine of our own (part Wd) -/
import Derived.Test.YtodoeplhcmecjaaGreatDoorWc
import Derived.Test.YtodoeplhcmecjaaGreatDoorWb
import Derived.Test.YtodoeplhcmecjaaGreatDoorLd
set_option linter.all false
namespace Go.Proofs.YtodoeplhcmecjaaGreatDoor
open Go.Am
attribute [local simp, local push_cast] num boo str ints aV aTab aInst aS aT aC
set_option linter.unusedVariables false
set_option maxRecDepth 100000
set_option maxHeartbeats 4000000
/-- The numbers of a tape are of 64 bits. -/
def TapeOk (xs : List Int) : Prop := ∀ x ∈ xs, i64 x
/-- A tape from which p numbers were drawn, also such as are behind its end. -/
def pos (p : Nat) : Int := p
def tapeO (xs : List Int) (p : Nat) : Ob := .var [.d (.sl 1 (rowsOf rI xs)), .d (.lit (.int .i64 (pos p)))]
attribute [local simp, local push_cast] tapeO
/-- The number that is drawn. -/
def drawn (xs : List Int) (p : Nat) (n : Int) : Int := xs.getD p 0 % n
theorem drawn_range (xs : List Int) (p : Nat) {n : Int} (hn : 0 < n) : 0 ≤ drawn xs p n ∧ drawn xs p n < n :=
  ⟨Int.emod_nonneg _ (by omega), Int.emod_lt_of_pos _ hn⟩
theorem tmod_fix (a n : Int) (hn : 0 < n) : (if a.tmod n < 0 then a.tmod n + n else a.tmod n) = a % n := by
  have h1 := Int.emod_nonneg a (show n ≠ 0 by omega)
  have h2 := Int.emod_lt_of_pos a hn
  have h3 := Int.tmod_eq_emod (a := a) (b := n)
  by_cases h : 0 ≤ a ∨ n ∣ a
  · rw [if_pos h] at h3
    rw [if_neg (by omega)]; omega
  · rw [if_neg h] at h3
    have h4 : a % n ≠ 0 := fun h5 => h (.inr (Int.dvd_of_emod_eq_zero h5))
    rw [if_pos (by omega)]; omega
theorem c_next {xs : List Int} {n : Int} {p : Nat} (hx : TapeOk xs) (hn : 0 < n) (hn2 : n ≤ 1000000) (hp : p ≤ 4000000000000000000) :
    ACall Tryz.prog 21 [.ptr 1000 0, num n] [(1000, tapeO xs p)] (num (drawn xs p n)) [(1000, tapeO xs (p + 1))] := by
  refine enterq mixed ttok Tryz.func21 Tryz.ntmps21 Tryz.results21 ?_
  generalize hr : num (drawn xs p n) = R
  simp -implicitDefEqProofs only [argT, tapeO, rI, ↓steps, push_cast, simprocAttr, tte]
  have hd : (default : Int) = 0 := rfl
  have e1 : IntKind.i64.wrap (pos p + 1) = pos (p + 1) := by rw [pos, wrap_eq (by omega) (by omega)]; rfl
  have e0 : pos p = p := rfl
  refine bcase_intro (fun h0 => ?_) fun h0 => ?_
  · exact absurd (of_decide_eq_true h0) (by omega)
  refine ⟨drawx_intro (by kernel_rfl), ?_⟩
  refine bcase_intro (fun h1 => ?_) fun h1 => ?_
  · have h1' : p < xs.length := by have := of_decide_eq_true h1; omega
    have e3 : (pos p).toNat = p := by rw [e0]; simp
    have hfix := tmod_fix (xs.getD p 0) n hn
    have hb1 := Int.emod_nonneg (xs.getD p 0) (show n ≠ 0 by omega)
    have hb2 := Int.emod_lt_of_pos (xs.getD p 0) hn
    refine ⟨⟨by omega, by omega⟩, by omega, drawx_intro (by kernel_rfl), ?_⟩
    rw [hd, e3]
    refine bcase_intro (fun h2 => ?_) fun h2 => ?_
    · rw [if_pos (of_decide_eq_true h2)] at hfix
      rw [wrap_eq (n := (xs.getD p 0).tmod n + n) (by omega) (by omega), hfix]
      rw [e1]
      refine retx_of [0] rfl (by simp) (by simp [rowsOf_length] <;> omega) ?_ (by first | rfl | simp [ends] | (subst_vars; simp [ends])) (by simp [ends]) (by simp [ends])
      rw [← hr]; rfl
    · rw [if_neg (of_decide_eq_false h2)] at hfix
      rw [hfix]
      rw [e1]
      refine retx_of [0] rfl (by simp) (by simp [rowsOf_length] <;> omega) ?_ (by first | rfl | simp [ends] | (subst_vars; simp [ends])) (by simp [ends]) (by simp [ends])
      rw [← hr]; rfl
  · have h1' : xs.length ≤ p := by have := of_decide_eq_false h1; omega
    rw [e1]
    refine retx_of [0] rfl (by simp) (by simp [rowsOf_length] <;> omega) ?_ (by first | rfl | simp [ends] | (subst_vars; simp [ends])) (by simp [ends]) (by simp [ends])
    rw [← hr]; simp [drawn, List.getElem?_eq_none h1'] <;> rfl
end Go.Proofs.YtodoeplhcmecjaaGreatDoor
namespace Go.Proofs.YtodoeplhcmecjaaGreatDoor
open Go.Am
attribute [local simp, local push_cast] num boo str ints aV aTab aInst aS aT aC tapeO rS
set_option linter.unusedVariables false
set_option maxRecDepth 100000
set_option maxHeartbeats 4000000
/-- A letter and a number. -/
def nameOf (l : ByteArray) (n : Int) : ByteArray := l ++ ⟨#[UInt8.ofNat (IntKind.u8.wrap (IntKind.i64.wrap (48 + n.tmod 10))).toNat]⟩
theorem c_mname (l : ByteArray) (n : Int) (hl : l.size ≤ 1000) : ACall Tryz.prog 23 [str l, num n] [] (str (nameOf l n)) [] := by
  refine enterq mixed ttok Tryz.func23 Tryz.ntmps23 Tryz.results23 ?_
  generalize hr : str (nameOf l n) = R
  simp -implicitDefEqProofs only [argT, ↓steps, push_cast, simprocAttr, tte]
  have hb : (⟨#[UInt8.ofNat (IntKind.u8.wrap (IntKind.i64.wrap (48 + n.tmod 10))).toNat]⟩ : ByteArray).size = 1 := rfl
  refine ⟨by omega, ?_⟩
  refine retx_of [0] rfl (by simp) (by simp [rowsOf_length] <;> omega) ?_ (by first | rfl | simp [ends] | (subst_vars; simp [ends])) (by simp [ends]) (by simp [ends])
  exact hr
def intsL : List Int := [0, 1, 2, -1, 5, 7, -7, 100, 1000000000000, -1000000000000, 999999999999, 1000000]
def textsL : List ByteArray := [⟨#[]⟩, ⟨#[97]⟩, ⟨#[98]⟩, ⟨#[97, 98]⟩, ⟨#[48]⟩, ⟨#[32]⟩, ⟨#[97, 98, 99, 100, 101, 102, 103, 104, 105, 106, 107, 108, 109, 110, 111, 112, 113, 114, 115, 116, 117, 118, 119, 120]⟩]
def mkI (n : Int) : Val := ⟨1, n, ByteArray.empty⟩
def mkT (s : ByteArray) : Val := ⟨3, 0, s⟩
def valsM (k : Int) : List Val :=
  default :: if k = 1 then intsL.map mkI else if k = 2 then [boolV 0, boolV 1] else if k = 3 then textsL.map mkT else []
theorem valsM_len {k : Int} (hk : k = 1 ∨ k = 2 ∨ k = 3) : 3 ≤ (valsM k).length ∧ (valsM k).length ≤ 13 := by
  rcases hk with rfl | rfl | rfl <;> decide
theorem c_mvalues (k : Int) : ACall Tryz.prog 44 [num k] [] (.d (.sl 3 (rowsOf rV (valsM k)))) [] := by
  refine enterq mixed ttok Tryz.func44 Tryz.ntmps44 Tryz.results44 ?_
  generalize hr : A.d (.sl 3 (rowsOf rV (valsM k))) = R
  simp -implicitDefEqProofs only [argT, ↓steps, push_cast, simprocAttr, tte]
  refine bcase_intro (fun h1 => ?_) fun h1 => ?_
  · have h1' : k = 1 := by simpa using h1
    refine loop_count mixed ttok 5 [] [] (by simp only [pickT, ends, push_cast, simprocAttr]; rfl) (by simp only [pickO, consO_some, ends, push_cast, simprocAttr]; rfl) intsL.length (fun _ => True) (fun n => [(3, .vec 9 (n + 1)), (4, .vec 13 intsL.length)]) (fun n => [(9, .vec 57 3 (rowsOf rV (default :: (intsL.take n).map mkI)) 0), (13, .vec 2 1 (rowsOf rI intsL) 0)]) trivial ?_ ?_
    · exact Weak.keepL (by simp [cst, intsL, ends]) (by simp [cst, intsL, rowsOf, rI, rV, default, ends]) (by simp [cst, ends])
    intro I hI n hn hi
    have hl0 : intsL.length ≤ 12 := by decide
    have hl2 : (default :: (intsL.take n).map mkI).length = n + 1 := by simp; omega
    have hl3 : ((intsL.take n).map mkI).length = n := by simp; omega
    simp -implicitDefEqProofs only [cst, ↓steps, push_cast, simprocAttr, tte]
    refine bcase_intro (fun h => ?_) fun h => ?_
    · simp only [decide_eq_true_eq] at h
      have h' : n < intsL.length := by omega
      have hw := wrap_succ h' (by omega)
      have ht : (intsL.take (n + 1)).map mkI = (intsL.take n).map mkI ++ [⟨1, intsL.getD n default, ByteArray.empty⟩] := by rw [take_snoc _ _ h', List.map_append]; rfl
      refine ⟨⟨by omega, h⟩, h', ⟨hl3.symm, by rw [hl3]; omega⟩, ?_⟩
      exact cnt_again hI n rfl h' trivial (by simp [hw, ht, hl3, Nat.min_eq_left hn, rowsOf_append, ends]) (by simp [hw, ht, hl3, Nat.min_eq_left hn, rowsOf_append, ends]) (by simp [hw, ht, hl3, Nat.min_eq_left hn, rowsOf_append, ends]) (by simp [hw, ht, hl3, Nat.min_eq_left hn, rowsOf_append, ends])
    · simp only [decide_eq_false_iff_not] at h
      obtain rfl : n = intsL.length := by omega
      refine retx_of [3] rfl (by simp) (by simp [rowsOf_length] <;> omega) ?_ (by first | rfl | simp [ends] | (subst_vars; simp [ends])) (by simp [ends]) (by simp [ends])
      rw [← hr, valsM, if_pos h1', List.take_length]
  have h1' : ¬ k = 1 := by simpa using h1
  refine bcase_intro (fun h2 => ?_) fun h2 => ?_
  · have h2' : k = 2 := by simpa using h2
    refine callq [[]] [] (c_rbool 0) ?_
    simp -implicitDefEqProofs only [↓steps, push_cast, simprocAttr, tte]
    refine callq [[]] [] (c_rbool 1) ?_
    simp -implicitDefEqProofs only [↓steps, push_cast, simprocAttr, tte]
    refine retx_of [3] rfl (by simp) (by simp [rowsOf_length] <;> omega) ?_ (by first | rfl | simp [ends] | (subst_vars; simp [ends])) (by simp [ends]) (by simp [ends])
    rw [← hr, valsM, if_neg h1', if_pos h2']; rfl
  have h2' : ¬ k = 2 := by simpa using h2
  refine bcase_intro (fun h3 => ?_) fun h3 => ?_
  · have h3' : k = 3 := by simpa using h3
    refine loop_count mixed ttok 7 [] [] (by simp only [pickT, ends, push_cast, simprocAttr]; rfl) (by simp only [pickO, consO_some, ends, push_cast, simprocAttr]; rfl) textsL.length (fun _ => True) (fun n => [(3, .vec 9 (n + 1)), (6, .vec 37 textsL.length)]) (fun n => [(9, .vec 57 3 (rowsOf rV (default :: (textsL.take n).map mkT)) 0), (37, .vec 9 1 (rowsOf rS textsL) 0)]) trivial ?_ ?_
    · exact Weak.keepL (by simp [cst, textsL, ends]) (by simp [cst, textsL, rowsOf, rS, rV, default, ends]) (by simp [cst, ends])
    intro I hI n hn hi
    have hl0 : textsL.length ≤ 12 := by decide
    have hl2 : (default :: (textsL.take n).map mkT).length = n + 1 := by simp; omega
    have hl3 : ((textsL.take n).map mkT).length = n := by simp; omega
    simp -implicitDefEqProofs only [cst, ↓steps, push_cast, simprocAttr, tte]
    refine bcase_intro (fun h => ?_) fun h => ?_
    · simp only [decide_eq_true_eq] at h
      have h' : n < textsL.length := by omega
      have hw := wrap_succ h' (by omega)
      have ht : (textsL.take (n + 1)).map mkT = (textsL.take n).map mkT ++ [⟨3, 0, textsL.getD n default⟩] := by rw [take_snoc _ _ h', List.map_append]; rfl
      refine ⟨⟨by omega, h⟩, h', ⟨hl3.symm, by rw [hl3]; omega⟩, ?_⟩
      exact cnt_again hI n rfl h' trivial (by simp [hw, ht, hl3, Nat.min_eq_left hn, rowsOf_append, ends]) (by simp [hw, ht, hl3, Nat.min_eq_left hn, rowsOf_append, ends]) (by simp [hw, ht, hl3, Nat.min_eq_left hn, rowsOf_append, ends]) (by simp [hw, ht, hl3, Nat.min_eq_left hn, rowsOf_append, ends])
    · simp only [decide_eq_false_iff_not] at h
      obtain rfl : n = textsL.length := by omega
      refine retx_of [3] rfl (by simp) (by simp [rowsOf_length] <;> omega) ?_ (by first | rfl | simp [ends] | (subst_vars; simp [ends])) (by simp [ends]) (by simp [ends])
      rw [← hr, valsM, if_neg h1', if_neg h2', if_pos h3', List.take_length]
  have h3' : ¬ k = 3 := by simpa using h3
  refine retx_of [3] rfl (by simp) (by simp [rowsOf_length] <;> omega) ?_ (by first | rfl | simp [ends] | (subst_vars; simp [ends])) (by simp [ends]) (by simp [ends])
  rw [← hr, valsM, if_neg h1', if_neg h2', if_neg h3']; rfl
end Go.Proofs.YtodoeplhcmecjaaGreatDoor
namespace Go.Proofs.YtodoeplhcmecjaaGreatDoor
open Go.Am
attribute [local simp, local push_cast] num boo str ints aV aTab aInst aS aT aC tapeO
set_option linter.unusedVariables false
set_option maxRecDepth 100000
set_option maxHeartbeats 4000000
/-- A value of a type; null, where it is permitted. -/
def valueM (xs : List Int) (k : Int) (nl : Bool) (p : Nat) : Val :=
  if nl = true then (valsM k).getD (drawn xs p (valsM k).length).toNat default else (valsM k).getD (1 + drawn xs p ((valsM k).length - 1)).toNat default
theorem c_mvalue {xs : List Int} {k : Int} {nl : Bool} {p : Nat} (hx : TapeOk xs) (hk : k = 1 ∨ k = 2 ∨ k = 3) (hp : p ≤ 4000000000000000000) :
    ACall Tryz.prog 75 [.ptr 1000 0, num k, boo nl] [(1000, tapeO xs p)] (aV (valueM xs k nl p)) [(1000, tapeO xs (p + 1))] := by
  refine enterq mixed ttok Tryz.func75 Tryz.ntmps75 Tryz.results75 ?_
  generalize hr : aV (valueM xs k nl p) = R
  simp -implicitDefEqProofs only [argT, ↓steps, push_cast, simprocAttr, tte]
  refine callq [[]] [] (c_mvalues k) ?_
  have hl := valsM_len hk
  simp -implicitDefEqProofs only [↓steps, push_cast, simprocAttr, tte]
  refine bcase_intro (fun h => ?_) fun h => ?_
  · refine callq [[], []] [(1000, 1000)] (c_next (n := ((valsM k).length : Int)) (p := p) hx (by omega) (by omega) hp) ?_
    have hd := drawn_range xs p (n := ((valsM k).length : Int)) (by omega)
    simp -implicitDefEqProofs only [↓steps, push_cast, simprocAttr, tte]
    refine ⟨by omega, ?_⟩
    refine retx_of [0, 0, 0] rfl (by simp) (by simp [rowsOf_length] <;> omega) ?_ (by first | rfl | simp [ends] | (subst_vars; simp [ends])) (by simp [ends]) (by simp [ends])
    rw [← hr, valueM, if_pos h]; rfl
  · have e1 : IntKind.i64.wrap (((valsM k).length : Int) - 1) = ((valsM k).length : Int) - 1 := wrap_eq (by omega) (by omega)
    simp only [e1]
    refine callq [[], []] [(1000, 1000)] (c_next (n := ((valsM k).length : Int) - 1) (p := p) hx (by omega) (by omega) hp) ?_
    have hd := drawn_range xs p (n := ((valsM k).length : Int) - 1) (by omega)
    have e2 : IntKind.i64.wrap (1 + drawn xs p (((valsM k).length : Int) - 1)) = 1 + drawn xs p (((valsM k).length : Int) - 1) := wrap_eq (by omega) (by omega)
    simp -implicitDefEqProofs only [↓steps, push_cast, simprocAttr, tte, e2]
    refine ⟨by omega, ?_⟩
    refine retx_of [0, 0, 0] rfl (by simp) (by simp [rowsOf_length] <;> omega) ?_ (by first | rfl | simp [ends] | (subst_vars; simp [ends])) (by simp [ends]) (by simp [ends])
    rw [← hr, valueM, if_neg (by rw [h]; decide)]; rfl
/-- Constant, by the value. -/
def constM (v : Val) (t : Int) : Ex :=
  if v.kind = 1 then .mk 2 0 v.num ByteArray.empty 0 [] else if v.kind = 2 then .mk 3 0 v.num ByteArray.empty 0 [] else if v.kind = 3 then .mk 4 0 0 v.text 0 [] else .mk 1 t 0 ByteArray.empty 0 []
theorem c_rconst (v : Val) (t : Int) : ACall Tryz.prog 73 [aV v, num t] [] (aE (constM v t)) [] := by
  refine enterq mixed ttok Tryz.func73 Tryz.ntmps73 Tryz.results73 ?_
  generalize hr : aE (constM v t) = R
  simp -implicitDefEqProofs only [argT, ↓steps, push_cast, simprocAttr, tte]
  refine bcase_intro (fun h => ?_) (fun h => bcase_intro (fun h2 => ?_) (fun h2 => bcase_intro (fun h3 => ?_) (fun h3 => ?_)))
  all_goals
    refine retx_of [0, 0, 0, 0, 0, 6] rfl (by simp) (by simp [rowsOf_length] <;> omega) ?_ (by first | rfl | simp [ends] | (subst_vars; simp [ends])) (by simp [ends]) (by simp [ends])
    rw [← hr]
    simp only [beq_iff_eq, beq_eq_false_iff_ne] at *
    simp [constM, *, aE_eq, Ex.op, Ex.type, Ex.num, Ex.text, Ex.col, Ex.kids, rowsOf]
/-- The columns of a type, among the first n. -/
def colsU (types : List Int) (typ : Int) (n : Nat) : List Int := ((List.range n).filter fun c => types.getD c 0 = typ).map fun (c : Nat) => (c : Int)
def cols (types : List Int) (typ : Int) : List Int := colsU types typ types.length
theorem colsU_succ (types : List Int) (typ : Int) (n : Nat) : colsU types typ (n + 1) = if types.getD n 0 = typ then colsU types typ n ++ [(n : Int)] else colsU types typ n := by
  simp only [colsU, List.range_succ, List.filter_append, List.map_append]
  split <;> rename_i h
  · rw [List.filter_cons_of_pos (by simpa using h)]; simp
  · rw [List.filter_cons_of_neg (by simpa using h)]; simp
theorem colsU_length (types : List Int) (typ : Int) (n : Nat) : (colsU types typ n).length ≤ n := by
  induction n with
  | zero => simp [colsU]
  | succ n ih => rw [colsU_succ]; split <;> (try simp only [List.length_append, List.length_cons, List.length_nil]) <;> omega
/-- A column of a type, or a constant. -/
def pickE (xs types : List Int) (k : Int) (p : Nat) : Ex × Nat :=
  if drawn xs p ((cols types k).length + 2) < (cols types k).length then (.mk 5 0 0 ByteArray.empty ((cols types k).getD (drawn xs p ((cols types k).length + 2)).toNat default) [], p + 1)
  else (constM (valueM xs k true (p + 1)) k, p + 2)
theorem c_mpick {xs types : List Int} {k : Int} {p : Nat} (hx : TapeOk xs) (ht : types.length ≤ 1000) (hk : k = 1 ∨ k = 2 ∨ k = 3) (hp : p ≤ 3000000000000000000) :
    ACall Tryz.prog 42 [.ptr 1000 0, ints types, num k] [(1000, tapeO xs p)] (aE (pickE xs types k p).1) [(1000, tapeO xs (pickE xs types k p).2)] := by
  refine enterq mixed ttok Tryz.func42 Tryz.ntmps42 Tryz.results42 ?_
  generalize hr : aE (pickE xs types k p).1 = R
  generalize hr2 : tapeO xs (pickE xs types k p).2 = R2
  simp -implicitDefEqProofs only [argT, ↓steps, push_cast, simprocAttr, tte]
  refine loop_count mixed ttok 8 [0, 1, 2, 6] [6, 1000] (by simp only [pickT, ends, push_cast, simprocAttr]; rfl) (by simp only [pickO, consO_some, ends, push_cast, simprocAttr]; rfl) types.length (fun _ => True) (fun n => [(7, .vec 500 (colsU types k n).length)]) (fun n => [(500, .vec 3 1 (rowsOf rI (colsU types k n)) 0)]) trivial ?_ ?_
  · exact (Weak.nilL 7 500 3 1 rfl rfl).trans (Weak.keepL (by simp [cst, colsU, ends]) (by simp [cst, colsU, rowsOf, ends]) (by simp [cst, ends]))
  intro I hI n hn hi
  have hl := colsU_length types k n
  have hs := colsU_succ types k n
  have hd0 : (default : Int) = 0 := rfl
  simp -implicitDefEqProofs only [cst, ↓steps, push_cast, simprocAttr, tte]
  refine bcase_intro (fun h => ?_) fun h => ?_
  · simp only [decide_eq_true_eq] at h
    have h' : n < types.length := by omega
    have hw := wrap_succ h' (by omega)
    refine ⟨(by first | omega | trivial | (refine ⟨?_, ?_⟩ <;> first | omega | trivial | (refine ⟨?_, ?_⟩ <;> first | omega | trivial | (refine ⟨?_, ?_⟩ <;> first | omega | trivial | rfl)))), ?_⟩
    refine bcase_intro (fun g => ?_) fun g => ?_
    · rw [hd0] at g
      rw [if_pos (by simpa using g)] at hs
      refine ⟨by omega, ?_⟩
      exact cnt_again hI n rfl h' trivial (by simp [hw, hs, rowsOf_append, ends]) (by simp [hw, hs, rowsOf_append, ends]) (by simp [hw, hs, rowsOf_append, ends]) (by simp [hw, hs, rowsOf_append, ends])
    · rw [hd0] at g
      rw [if_neg (by simpa using g)] at hs
      exact cnt_again hI n rfl h' trivial (by simp [hw, hs, ends]) (by simp [hw, hs, ends]) (by simp [hw, hs, ends]) (by simp [hw, hs, ends])
  · simp only [decide_eq_false_iff_not] at h
    obtain rfl : n = types.length := by omega
    clear hI
    rw [show colsU types k types.length = cols types k from rfl] at hl ⊢
    have e1 : IntKind.i64.wrap (((cols types k).length : Int) + 2) = ((cols types k).length : Int) + 2 := wrap_eq (by omega) (by omega)
    simp only [e1]
    refine callq [[], []] [(1000, 1000)] (c_next (n := ((cols types k).length : Int) + 2) (p := p) hx (by omega) (by omega) (by omega)) ?_
    have hd := drawn_range xs p (n := ((cols types k).length : Int) + 2) (by omega)
    simp -implicitDefEqProofs only [↓steps, push_cast, simprocAttr, tte]
    refine bcase_intro (fun g => ?_) fun g => ?_
    · have g' := of_decide_eq_true g
      refine ⟨⟨by omega, by omega⟩, by omega, ?_⟩
      refine retx_of [0, 0, 0, 0, 0, 6] rfl (by simp) (by simp) ?_ (by first | simp [ends] | (subst_vars; simp [ends])) ?_ (by simp [ends])
      · rw [← hr, pickE, if_pos g']; simp [aE_eq, Ex.op, Ex.type, Ex.num, Ex.text, Ex.col, Ex.kids, rowsOf]
      · rw [← hr2, pickE, if_pos g']; simp [ends]
    · have g' := of_decide_eq_false g
      refine callq [[], [], []] [(1000, 1000)] (c_mvalue (k := k) (nl := true) (p := p + 1) hx hk (by omega)) ?_
      simp -implicitDefEqProofs only [↓steps, push_cast, simprocAttr, tte]
      refine callq [[], []] [] (c_rconst (valueM xs k true (p + 1)) k) ?_
      simp -implicitDefEqProofs only [↓steps, push_cast, simprocAttr, tte]
      refine retx_of [0, 0, 0, 0, 0, 6] rfl (by simp) (by simp) ?_ (by first | simp [ends] | (subst_vars; simp [ends])) ?_ (by simp [ends])
      · rw [← hr, pickE, if_neg g']; simp [aE_eq]
      · rw [← hr2, pickE, if_neg g']; simp [ends]
end Go.Proofs.YtodoeplhcmecjaaGreatDoor
namespace Go.Proofs.YtodoeplhcmecjaaGreatDoor
open Go.Am
attribute [local simp, local push_cast] num boo str ints aV aTab aInst aS aT aC tapeO
set_option linter.unusedVariables false
set_option maxRecDepth 100000
set_option maxHeartbeats 4000000
theorem bq31 : ((3 : Int) == 1) = false := rfl
theorem bq21 : ((2 : Int) == 1) = false := rfl
theorem bq23 : ((2 : Int) == 3) = false := rfl
attribute [local simp, local push_cast] bq31 bq21 bq23
/-- A function's end: what it hands over, an object of its own among it. -/
theorem ret_ren {p : Prop} {a : A} {t : List (Nat × A)} {o os' : List (Nat × Ob)} {R : A} (x y : Nat) (hp : p) (hxy : x ≠ y) (hx : x < 1000) (hy : lookO o y = none) (hr : a.ren (ren1to x y) = R)
    (hc : R.closed (inO os') = true) (ho : keepO (lookO (renO x y o)) (inO os') os') (hin : keepIn (inO os') (renO x y o)) : retx (some (p, a)) ⟨t, o⟩ R os' := by
  refine ⟨hp, ?_⟩
  have h1 := Weak.ren (t := [(0, a)]) (o := o) x y hxy hx hy
  have h2 : Weak (SL.mk (renT x y [(0, a)]) (renO x y o)).st (SL.mk [(0, R)] os').st := Weak.keepL ⟨⟨by simp only [renT, lookT, if_true]; exact hr, hc⟩, trivial⟩ ho hin
  exact h1.trans h2
abbrev Kn (k : Int) : Prop := k = 1 ∨ k = 2 ∨ k = 3
def bin (op : Int) (l : List Ex) : Ex := .mk op 0 0 ByteArray.empty 0 l
theorem aE_bin (op : Int) (l : List Ex) : aE (bin op l) = .agg [.d (.lit (.int .i64 op)), .d (.lit (.int .i64 0)), .d (.lit (.int .i64 0)), .d (.lit (.string ByteArray.empty)), .d (.lit (.int .i64 0)), .d (.sl 6 (rowsOf rE l))] := by
  simp [bin, aE_eq, Ex.op, Ex.type, Ex.num, Ex.text, Ex.col, Ex.kids]
def twoM (f : Int → Nat → Ex × Nat) (x : Int) (p : Nat) : List Ex × Nat := ([(f x p).1, (f x (f x p).2).1], (f x (f x p).2).2)
/-- More expressions of a type, behind each other. -/
def moreM (f : Int → Nat → Ex × Nat) (x : Int) (p : Nat) : Nat → List Ex × Nat
  | 0 => ([], p)
  | m + 1 => ((moreM f x p m).1 ++ [(f x (moreM f x p m).2).1], (f x (moreM f x p m).2).2)
def mkE (op : Int) (r : List Ex × Nat) : Ex × Nat := (bin op r.1, r.2)
def oneM (f : Int → Nat → Ex × Nat) (x : Int) (p : Nat) : List Ex × Nat := ([(f x p).1], (f x p).2)
def threeM (f : Int → Nat → Ex × Nat) (k : Int) (p : Nat) : List Ex × Nat :=
  ([(f 2 p).1, (f k (f 2 p).2).1, (f k (f k (f 2 p).2).2).1], (f k (f k (f 2 p).2).2).2)
def inE (xs : List Int) (f : Int → Nat → Ex × Nat) (x : Int) (p : Nat) : List Ex × Nat :=
  ((twoM f x p).1 ++ (moreM f x ((twoM f x p).2 + 1) (drawn xs (twoM f x p).2 3).toNat).1, (moreM f x ((twoM f x p).2 + 1) (drawn xs (twoM f x p).2 3).toNat).2)
def boolE (xs : List Int) (f : Int → Nat → Ex × Nat) (x : Int) (p : Nat) : Ex × Nat :=
  if drawn xs p 6 = 0 then mkE (22 + drawn xs (p + 1) 2) (twoM f 2 (p + 2))
  else if drawn xs p 6 = 1 then mkE (24 + drawn xs (p + 1) 2) (oneM f 2 (p + 2))
  else if drawn xs p 6 = 2 then mkE 21 (oneM f x (p + 1))
  else if drawn xs p 6 = 3 then mkE 28 (inE xs f x (p + 1))
  else mkE (14 + drawn xs (p + 1) 7) (twoM f x (p + 2))
def stepM (xs types : List Int) (f : Int → Nat → Ex × Nat) (k : Int) (p : Nat) : Ex × Nat :=
  if drawn xs p 4 = 0 then pickE xs types k (p + 1)
  else if drawn xs (p + 1) 4 = 0 then mkE 26 (threeM f k (p + 2))
  else if drawn xs (p + 1) 4 = 1 then mkE 27 (twoM f k (p + 2))
  else if k = 1 then
    if drawn xs (p + 1) 4 = 2 then mkE (6 + drawn xs (p + 2) 5) (twoM f 1 (p + 3))
    else if drawn xs (p + 2) 2 = 0 then mkE 11 (oneM f 1 (p + 3)) else mkE 13 (oneM f 3 (p + 3))
  else if k = 3 then mkE 12 (twoM f 3 (p + 2))
  else boolE xs f (1 + drawn xs (p + 2) 3) (p + 3)
def exprM (xs types : List Int) : Nat → Int → Nat → Ex × Nat
  | 0, k, p => pickE xs types k p
  | 1, k, p => pickE xs types k p
  | d + 2, k, p => stepM xs types (exprM xs types (d + 1)) k p
/-- Expressions of a depth: the contract. -/
def CE (xs types : List Int) (D : Int) (f : Int → Nat → Ex × Nat) (w : Nat) : Prop :=
  ∀ (k : Int) (p : Nat), Kn k → p + w ≤ 1000000000000000000 → ACall Tryz.prog 24 [.ptr 1000 0, ints types, num k, num D] [(1000, tapeO xs p)] (aE (f k p).1) [(1000, tapeO xs (f k p).2)]
theorem c_two {xs types : List Int} {D : Int} {f : Int → Nat → Ex × Nat} {w p : Nat} {op x : Int} (hx : Kn x) (hD : 2 ≤ D) (hD2 : D ≤ 100) (H : CE xs types (D - 1) f w) (hf : ∀ k q, (f k q).2 ≤ q + w) (hp : p + 2 * w ≤ 1000000000000000000) :
    ACall Tryz.prog 43 [num op, num x, .ptr 1000 0, .ptr 1001 0, .ptr 1002 0] [(1000, .var [.ptr 1003 0]), (1001, .var [ints types]), (1002, .var [num D]), (1003, tapeO xs p)]
      (.agg [.d (.lit (.int .i64 op)), .d (.lit (.int .i64 0)), .d (.lit (.int .i64 0)), .d (.lit (.string ByteArray.empty)), .d (.lit (.int .i64 0)), .vec 1004 2])
      [(1000, .var [.ptr 1003 0]), (1001, .var [ints types]), (1002, .var [num D]), (1003, tapeO xs (twoM f x p).2), (1004, .vec 64 6 (rowsOf rE (twoM f x p).1) 0)] := by
  refine enterq mixed ttok Tryz.func43 Tryz.ntmps43 Tryz.results43 ?_
  have hDw : IntKind.i64.wrap (D - 1) = D - 1 := wrap_eq (by omega) (by omega)
  have b1 := hf x p
  have b2 := hf x (f x p).2
  simp -implicitDefEqProofs only [argT, hDw, ↓steps, push_cast, simprocAttr, tte]
  refine callq [[], [1], [], []] [(1000, 1003)] (H x p hx (by omega)) ?_
  simp -implicitDefEqProofs only [hDw, ↓steps, push_cast, simprocAttr, tte]
  refine callq [[], [1], [], []] [(1000, 1003)] (H x (f x p).2 hx (by omega)) ?_
  simp -implicitDefEqProofs only [↓steps, push_cast, simprocAttr, tte]
  refine ⟨drawx_intro (by kernel_rfl), ?_⟩
  refine ret_ren 23 1004 trivial (by decide) (by decide) rfl (by simp [A.ren, renL, ren1to]) (by simp [A.closed, closedL, inO, lookO]) ?_ ?_
  · simp [twoM, renO, Ob.ren, A.ren, renL, ren1to, rE_eq, ends]
  · simp [renO, ren1to, ends]
theorem c_mexpr3 {xs types : List Int} {D : Int} {f : Int → Nat → Ex × Nat} {w p : Nat} (hx : TapeOk xs) (ht : types.length ≤ 1000) (hD : 2 ≤ D) (hD2 : D ≤ 100) (H : CE xs types (D - 1) f w) (hf : ∀ k q, (f k q).2 ≤ q + w)
    (hp : p + (10 + 5 * w) ≤ 1000000000000000000) :
    ACall Tryz.prog 24 [.ptr 1000 0, ints types, num 3, num D] [(1000, tapeO xs p)] (aE (stepM xs types f 3 p).1) [(1000, tapeO xs (stepM xs types f 3 p).2)] := by
  refine enterq mixed ttok Tryz.func24 Tryz.ntmps24 Tryz.results24 ?_
  generalize hr : aE (stepM xs types f 3 p).1 = R
  generalize hr2 : tapeO xs (stepM xs types f 3 p).2 = R2
  have hD1 : decide (D ≤ 1) = false := decide_eq_false (by omega)
  have hDw : IntKind.i64.wrap (D - 1) = D - 1 := wrap_eq (by omega) (by omega)
  simp -implicitDefEqProofs only [argT, hD1, hDw, ↓steps, push_cast, simprocAttr, tte]
  refine callq [[], []] [(1000, 1000)] (c_next (n := 4) (p := p) hx (by omega) (by omega) (by omega)) ?_
  simp -implicitDefEqProofs only [hD1, hDw, ↓steps, push_cast, simprocAttr, tte]
  refine bcase_intro (fun h0 => ?_) fun h0 => ?_
  · have h0' : drawn xs p 4 = 0 := by simpa using h0
    have hM : stepM xs types f 3 p = pickE xs types 3 (p + 1) := by rw [stepM, if_pos h0']
    refine callq [[], [1], []] [(1000, 1000)] (c_mpick (types := types) (k := 3) (p := p + 1) hx ht (by decide) (by omega)) ?_
    simp -implicitDefEqProofs only [↓steps, push_cast, simprocAttr, tte]
    refine retx_of [0, 0, 0, 0, 0, 6] rfl (by trivial) (by simp [rowsOf_length, twoM, moreM]) ?_ (by first | simp [ends] | (subst_vars; simp [ends])) ?_ (by simp [ends])
    · rw [← hr, hM]; simp [aE_eq]
    · rw [← hr2, hM]; simp [ends]
  have h0' : ¬ drawn xs p 4 = 0 := by simpa using h0
  refine callq [[], []] [(1000, 1000)] (c_next (n := 4) (p := p + 1) hx (by omega) (by omega) (by omega)) ?_
  simp -implicitDefEqProofs only [hDw, ↓steps, push_cast, simprocAttr, tte]
  have hn := drawn_range xs (p + 1) (n := 4) (by omega)
  refine bcase_intro (fun h1 => ?_) fun h1 => ?_
  · have h1' : drawn xs (p + 1) 4 = 0 := by simpa using h1
    have hM : stepM xs types f 3 p = mkE 26 (threeM f 3 (p + 2)) := by rw [stepM, if_neg h0', if_pos h1']
    have b1 := hf 2 (p + 2)
    have b2 := hf 3 (f 2 (p + 2)).2
    have b3 := hf 3 (f 3 (f 2 (p + 2)).2).2
    refine callq [[], [1], [], []] [(1000, 1000)] (H 2 (p + 2) (by decide) (by omega)) ?_
    simp -implicitDefEqProofs only [hDw, ↓steps, push_cast, simprocAttr, tte]
    refine callq [[], [1], [], []] [(1000, 1000)] (H 3 (f 2 (p + 2)).2 (by decide) (by omega)) ?_
    simp -implicitDefEqProofs only [hDw, ↓steps, push_cast, simprocAttr, tte]
    refine callq [[], [1], [], []] [(1000, 1000)] (H 3 (f 3 (f 2 (p + 2)).2).2 (by decide) (by omega)) ?_
    simp -implicitDefEqProofs only [↓steps, push_cast, simprocAttr, tte]
    refine ⟨drawx_intro (by kernel_rfl), ?_⟩
    refine retx_of [0, 0, 0, 0, 0, 6] rfl (by trivial) (by simp [rowsOf_length, twoM, moreM]) ?_ (by first | simp [ends] | (subst_vars; simp [ends])) ?_ (by simp [ends])
    · rw [← hr, hM]; simp [mkE, aE_bin, oneM, twoM, threeM, inE, rE_eq, rowsOf_cons, rowsOf_nil]
    · rw [← hr2, hM]; simp [mkE, oneM, twoM, threeM, inE, ends]
  have h1' : ¬ drawn xs (p + 1) 4 = 0 := by simpa using h1
  refine bcase_intro (fun h2 => ?_) fun h2 => ?_
  · have h2' : drawn xs (p + 1) 4 = 1 := by simpa using h2
    have hM : stepM xs types f 3 p = mkE 27 (twoM f 3 (p + 2)) := by rw [stepM, if_neg h0', if_neg h1', if_pos h2']
    refine callq [[], [], [], [], []] [(1000, 4), (1001, 5), (1002, 7), (1003, 1000), (1004, 600)] (c_two (op := 27) (x := 3) (p := p + 2) (by decide) hD hD2 H hf (by omega)) ?_
    simp -implicitDefEqProofs only [↓steps, push_cast, simprocAttr, tte]
    refine retx_of [0, 0, 0, 0, 0, 6] rfl (by trivial) (by simp [rowsOf_length, twoM, moreM]) ?_ (by first | simp [ends] | (subst_vars; simp [ends])) ?_ (by simp [ends])
    · rw [← hr, hM]; simp [mkE, aE_bin, oneM, twoM, threeM, inE, rE_eq, rowsOf_cons, rowsOf_nil]
    · rw [← hr2, hM]; simp [mkE, oneM, twoM, threeM, inE, ends]
  have h2' : ¬ drawn xs (p + 1) 4 = 1 := by simpa using h2
  have hM : stepM xs types f 3 p = mkE 12 (twoM f 3 (p + 2)) := by rw [stepM, if_neg h0', if_neg h1', if_neg h2', if_neg (by decide), if_pos rfl]
  refine callq [[], [], [], [], []] [(1000, 4), (1001, 5), (1002, 7), (1003, 1000), (1004, 600)] (c_two (op := 12) (x := 3) (p := p + 2) (by decide) hD hD2 H hf (by omega)) ?_
  simp -implicitDefEqProofs only [↓steps, push_cast, simprocAttr, tte]
  refine retx_of [0, 0, 0, 0, 0, 6] rfl (by trivial) (by simp [rowsOf_length, twoM, moreM]) ?_ (by first | simp [ends] | (subst_vars; simp [ends])) ?_ (by simp [ends])
  · rw [← hr, hM]; simp [mkE, aE_bin, oneM, twoM, threeM, inE, rE_eq, rowsOf_cons, rowsOf_nil]
  · rw [← hr2, hM]; simp [mkE, oneM, twoM, threeM, inE, ends]
end Go.Proofs.YtodoeplhcmecjaaGreatDoor
namespace Go.Proofs.YtodoeplhcmecjaaGreatDoor
open Go.Am
attribute [local simp, local push_cast] num boo str ints aV aTab aInst aS aT aC tapeO bq31 bq21 bq23
set_option linter.unusedVariables false
set_option maxRecDepth 100000
set_option maxHeartbeats 4000000
theorem c_mexpr1 {xs types : List Int} {D : Int} {f : Int → Nat → Ex × Nat} {w p : Nat} (hx : TapeOk xs) (ht : types.length ≤ 1000) (hD : 2 ≤ D) (hD2 : D ≤ 100) (H : CE xs types (D - 1) f w) (hf : ∀ k q, (f k q).2 ≤ q + w)
    (hp : p + (10 + 5 * w) ≤ 1000000000000000000) :
    ACall Tryz.prog 24 [.ptr 1000 0, ints types, num 1, num D] [(1000, tapeO xs p)] (aE (stepM xs types f 1 p).1) [(1000, tapeO xs (stepM xs types f 1 p).2)] := by
  refine enterq mixed ttok Tryz.func24 Tryz.ntmps24 Tryz.results24 ?_
  generalize hr : aE (stepM xs types f 1 p).1 = R
  generalize hr2 : tapeO xs (stepM xs types f 1 p).2 = R2
  have hD1 : decide (D ≤ 1) = false := decide_eq_false (by omega)
  have hDw : IntKind.i64.wrap (D - 1) = D - 1 := wrap_eq (by omega) (by omega)
  simp -implicitDefEqProofs only [argT, hD1, hDw, ↓steps, push_cast, simprocAttr, tte]
  refine callq [[], []] [(1000, 1000)] (c_next (n := 4) (p := p) hx (by omega) (by omega) (by omega)) ?_
  simp -implicitDefEqProofs only [hD1, hDw, ↓steps, push_cast, simprocAttr, tte]
  refine bcase_intro (fun h0 => ?_) fun h0 => ?_
  · have h0' : drawn xs p 4 = 0 := by simpa using h0
    have hM : stepM xs types f 1 p = pickE xs types 1 (p + 1) := by rw [stepM, if_pos h0']
    refine callq [[], [1], []] [(1000, 1000)] (c_mpick (types := types) (k := 1) (p := p + 1) hx ht (by decide) (by omega)) ?_
    simp -implicitDefEqProofs only [↓steps, push_cast, simprocAttr, tte]
    refine retx_of [0, 0, 0, 0, 0, 6] rfl (by trivial) (by simp [rowsOf_length, twoM, moreM]) ?_ (by first | simp [ends] | (subst_vars; simp [ends])) ?_ (by simp [ends])
    · rw [← hr, hM]; simp [aE_eq]
    · rw [← hr2, hM]; simp [ends]
  have h0' : ¬ drawn xs p 4 = 0 := by simpa using h0
  refine callq [[], []] [(1000, 1000)] (c_next (n := 4) (p := p + 1) hx (by omega) (by omega) (by omega)) ?_
  simp -implicitDefEqProofs only [hDw, ↓steps, push_cast, simprocAttr, tte]
  have hn := drawn_range xs (p + 1) (n := 4) (by omega)
  refine bcase_intro (fun h1 => ?_) fun h1 => ?_
  · have h1' : drawn xs (p + 1) 4 = 0 := by simpa using h1
    have hM : stepM xs types f 1 p = mkE 26 (threeM f 1 (p + 2)) := by rw [stepM, if_neg h0', if_pos h1']
    have b1 := hf 2 (p + 2)
    have b2 := hf 1 (f 2 (p + 2)).2
    have b3 := hf 1 (f 1 (f 2 (p + 2)).2).2
    refine callq [[], [1], [], []] [(1000, 1000)] (H 2 (p + 2) (by decide) (by omega)) ?_
    simp -implicitDefEqProofs only [hDw, ↓steps, push_cast, simprocAttr, tte]
    refine callq [[], [1], [], []] [(1000, 1000)] (H 1 (f 2 (p + 2)).2 (by decide) (by omega)) ?_
    simp -implicitDefEqProofs only [hDw, ↓steps, push_cast, simprocAttr, tte]
    refine callq [[], [1], [], []] [(1000, 1000)] (H 1 (f 1 (f 2 (p + 2)).2).2 (by decide) (by omega)) ?_
    simp -implicitDefEqProofs only [↓steps, push_cast, simprocAttr, tte]
    refine ⟨drawx_intro (by kernel_rfl), ?_⟩
    refine retx_of [0, 0, 0, 0, 0, 6] rfl (by trivial) (by simp [rowsOf_length, twoM, moreM]) ?_ (by first | simp [ends] | (subst_vars; simp [ends])) ?_ (by simp [ends])
    · rw [← hr, hM]; simp [mkE, aE_bin, oneM, twoM, threeM, inE, rE_eq, rowsOf_cons, rowsOf_nil]
    · rw [← hr2, hM]; simp [mkE, oneM, twoM, threeM, inE, ends]
  have h1' : ¬ drawn xs (p + 1) 4 = 0 := by simpa using h1
  refine bcase_intro (fun h2 => ?_) fun h2 => ?_
  · have h2' : drawn xs (p + 1) 4 = 1 := by simpa using h2
    have hM : stepM xs types f 1 p = mkE 27 (twoM f 1 (p + 2)) := by rw [stepM, if_neg h0', if_neg h1', if_pos h2']
    refine callq [[], [], [], [], []] [(1000, 4), (1001, 5), (1002, 7), (1003, 1000), (1004, 600)] (c_two (op := 27) (x := 1) (p := p + 2) (by decide) hD hD2 H hf (by omega)) ?_
    simp -implicitDefEqProofs only [↓steps, push_cast, simprocAttr, tte]
    refine retx_of [0, 0, 0, 0, 0, 6] rfl (by trivial) (by simp [rowsOf_length, twoM, moreM]) ?_ (by first | simp [ends] | (subst_vars; simp [ends])) ?_ (by simp [ends])
    · rw [← hr, hM]; simp [mkE, aE_bin, oneM, twoM, threeM, inE, rE_eq, rowsOf_cons, rowsOf_nil]
    · rw [← hr2, hM]; simp [mkE, oneM, twoM, threeM, inE, ends]
  have h2' : ¬ drawn xs (p + 1) 4 = 1 := by simpa using h2
  have hS : stepM xs types f 1 p = if drawn xs (p + 1) 4 = 2 then mkE (6 + drawn xs (p + 2) 5) (twoM f 1 (p + 3))
    else if drawn xs (p + 2) 2 = 0 then mkE 11 (oneM f 1 (p + 3)) else mkE 13 (oneM f 3 (p + 3)) := by rw [stepM, if_neg h0', if_neg h1', if_neg h2', if_pos rfl]
  refine bcase_intro (fun h3 => ?_) fun h3 => ?_
  · have h3' : drawn xs (p + 1) 4 = 2 := by simpa using h3
    have hM : stepM xs types f 1 p = mkE (6 + drawn xs (p + 2) 5) (twoM f 1 (p + 3)) := by rw [hS, if_pos h3']
    refine callq [[], []] [(1000, 1000)] (c_next (n := 5) (p := p + 2) hx (by omega) (by omega) (by omega)) ?_
    have h5 := drawn_range xs (p + 2) (n := 5) (by omega)
    have w6 : IntKind.i64.wrap (6 + drawn xs (p + 2) 5) = 6 + drawn xs (p + 2) 5 := wrap_eq (by omega) (by omega)
    simp -implicitDefEqProofs only [w6, ↓steps, push_cast, simprocAttr, tte]
    refine callq [[], [], [], [], []] [(1000, 4), (1001, 5), (1002, 7), (1003, 1000), (1004, 600)] (c_two (op := 6 + drawn xs (p + 2) 5) (x := 1) (p := p + 3) (by decide) hD hD2 H hf (by omega)) ?_
    simp -implicitDefEqProofs only [↓steps, push_cast, simprocAttr, tte]
    refine retx_of [0, 0, 0, 0, 0, 6] rfl (by trivial) (by simp [rowsOf_length, twoM, moreM]) ?_ (by first | simp [ends] | (subst_vars; simp [ends])) ?_ (by simp [ends])
    · rw [← hr, hM]; simp [mkE, aE_bin, oneM, twoM, threeM, inE, rE_eq, rowsOf_cons, rowsOf_nil]
    · rw [← hr2, hM]; simp [mkE, oneM, twoM, threeM, inE, ends]
  have h3' : ¬ drawn xs (p + 1) 4 = 2 := by simpa using h3
  refine callq [[], []] [(1000, 1000)] (c_next (n := 2) (p := p + 2) hx (by omega) (by omega) (by omega)) ?_
  simp -implicitDefEqProofs only [hDw, ↓steps, push_cast, simprocAttr, tte]
  refine bcase_intro (fun h4 => ?_) fun h4 => ?_
  · have h4' : drawn xs (p + 2) 2 = 0 := by simpa using h4
    have hM : stepM xs types f 1 p = mkE 11 (oneM f 1 (p + 3)) := by rw [hS, if_neg h3', if_pos h4']
    refine callq [[], [1], [], []] [(1000, 1000)] (H 1 (p + 3) (by decide) (by omega)) ?_
    simp -implicitDefEqProofs only [↓steps, push_cast, simprocAttr, tte]
    refine retx_of [0, 0, 0, 0, 0, 6] rfl (by trivial) (by simp [rowsOf_length, twoM, moreM]) ?_ (by first | simp [ends] | (subst_vars; simp [ends])) ?_ (by simp [ends])
    · rw [← hr, hM]; simp [mkE, aE_bin, oneM, twoM, threeM, inE, rE_eq, rowsOf_cons, rowsOf_nil]
    · rw [← hr2, hM]; simp [mkE, oneM, twoM, threeM, inE, ends]
  have h4' : ¬ drawn xs (p + 2) 2 = 0 := by simpa using h4
  have hM : stepM xs types f 1 p = mkE 13 (oneM f 3 (p + 3)) := by rw [hS, if_neg h3', if_neg h4']
  refine callq [[], [1], [], []] [(1000, 1000)] (H 3 (p + 3) (by decide) (by omega)) ?_
  simp -implicitDefEqProofs only [↓steps, push_cast, simprocAttr, tte]
  refine retx_of [0, 0, 0, 0, 0, 6] rfl (by trivial) (by simp [rowsOf_length, twoM, moreM]) ?_ (by first | simp [ends] | (subst_vars; simp [ends])) ?_ (by simp [ends])
  · rw [← hr, hM]; simp [mkE, aE_bin, oneM, twoM, threeM, inE, rE_eq, rowsOf_cons, rowsOf_nil]
  · rw [← hr2, hM]; simp [mkE, oneM, twoM, threeM, inE, ends]
end Go.Proofs.YtodoeplhcmecjaaGreatDoor
namespace Go.Proofs.YtodoeplhcmecjaaGreatDoor
open Go.Am
attribute [local simp, local push_cast] num boo str ints aV aTab aInst aS aT aC tapeO bq31 bq21 bq23
set_option linter.unusedVariables false
set_option maxRecDepth 100000
set_option maxHeartbeats 4000000
theorem moreM_len (f : Int → Nat → Ex × Nat) (x : Int) (p : Nat) : ∀ m, (moreM f x p m).1.length = m
  | 0 => rfl
  | m + 1 => by simp [moreM, moreM_len f x p m]
theorem moreM_le {f : Int → Nat → Ex × Nat} {w : Nat} (hf : ∀ k q, (f k q).2 ≤ q + w) (x : Int) (p : Nat) : ∀ m, (moreM f x p m).2 ≤ p + m * w
  | 0 => by simp [moreM]
  | m + 1 => by
    have h1 := moreM_le hf x p m
    have h2 := hf x (moreM f x p m).2
    simp only [moreM, Nat.add_mul]; omega
theorem c_mexpr2 {xs types : List Int} {D : Int} {f : Int → Nat → Ex × Nat} {w p : Nat} (hx : TapeOk xs) (ht : types.length ≤ 1000) (hD : 2 ≤ D) (hD2 : D ≤ 100) (H : CE xs types (D - 1) f w) (hf : ∀ k q, (f k q).2 ≤ q + w)
    (hp : p + (10 + 5 * w) ≤ 1000000000000000000) :
    ACall Tryz.prog 24 [.ptr 1000 0, ints types, num 2, num D] [(1000, tapeO xs p)] (aE (stepM xs types f 2 p).1) [(1000, tapeO xs (stepM xs types f 2 p).2)] := by
  refine enterq mixed ttok Tryz.func24 Tryz.ntmps24 Tryz.results24 ?_
  generalize hr : aE (stepM xs types f 2 p).1 = R
  generalize hr2 : tapeO xs (stepM xs types f 2 p).2 = R2
  have hD1 : decide (D ≤ 1) = false := decide_eq_false (by omega)
  have hDw : IntKind.i64.wrap (D - 1) = D - 1 := wrap_eq (by omega) (by omega)
  simp -implicitDefEqProofs only [argT, hD1, hDw, ↓steps, push_cast, simprocAttr, tte]
  refine callq [[], []] [(1000, 1000)] (c_next (n := 4) (p := p) hx (by omega) (by omega) (by omega)) ?_
  simp -implicitDefEqProofs only [hD1, hDw, ↓steps, push_cast, simprocAttr, tte]
  refine bcase_intro (fun h0 => ?_) fun h0 => ?_
  · have h0' : drawn xs p 4 = 0 := by simpa using h0
    have hM : stepM xs types f 2 p = pickE xs types 2 (p + 1) := by rw [stepM, if_pos h0']
    refine callq [[], [1], []] [(1000, 1000)] (c_mpick (types := types) (k := 2) (p := p + 1) hx ht (by decide) (by omega)) ?_
    simp -implicitDefEqProofs only [↓steps, push_cast, simprocAttr, tte]
    refine retx_of [0, 0, 0, 0, 0, 6] rfl (by trivial) (by simp [rowsOf_length, twoM, moreM]) ?_ (by first | simp [ends] | (subst_vars; simp [ends])) ?_ (by simp [ends])
    · rw [← hr, hM]; simp [aE_eq]
    · rw [← hr2, hM]; simp [ends]
  have h0' : ¬ drawn xs p 4 = 0 := by simpa using h0
  refine callq [[], []] [(1000, 1000)] (c_next (n := 4) (p := p + 1) hx (by omega) (by omega) (by omega)) ?_
  simp -implicitDefEqProofs only [hDw, ↓steps, push_cast, simprocAttr, tte]
  have hn := drawn_range xs (p + 1) (n := 4) (by omega)
  refine bcase_intro (fun h1 => ?_) fun h1 => ?_
  · have h1' : drawn xs (p + 1) 4 = 0 := by simpa using h1
    have hM : stepM xs types f 2 p = mkE 26 (threeM f 2 (p + 2)) := by rw [stepM, if_neg h0', if_pos h1']
    have b1 := hf 2 (p + 2)
    have b2 := hf 2 (f 2 (p + 2)).2
    have b3 := hf 2 (f 2 (f 2 (p + 2)).2).2
    refine callq [[], [1], [], []] [(1000, 1000)] (H 2 (p + 2) (by decide) (by omega)) ?_
    simp -implicitDefEqProofs only [hDw, ↓steps, push_cast, simprocAttr, tte]
    refine callq [[], [1], [], []] [(1000, 1000)] (H 2 (f 2 (p + 2)).2 (by decide) (by omega)) ?_
    simp -implicitDefEqProofs only [hDw, ↓steps, push_cast, simprocAttr, tte]
    refine callq [[], [1], [], []] [(1000, 1000)] (H 2 (f 2 (f 2 (p + 2)).2).2 (by decide) (by omega)) ?_
    simp -implicitDefEqProofs only [↓steps, push_cast, simprocAttr, tte]
    refine ⟨drawx_intro (by kernel_rfl), ?_⟩
    refine retx_of [0, 0, 0, 0, 0, 6] rfl (by trivial) (by simp [rowsOf_length, twoM, moreM]) ?_ (by first | simp [ends] | (subst_vars; simp [ends])) ?_ (by simp [ends])
    · rw [← hr, hM]; simp [mkE, aE_bin, oneM, twoM, threeM, inE, rE_eq, rowsOf_cons, rowsOf_nil]
    · rw [← hr2, hM]; simp [mkE, oneM, twoM, threeM, inE, ends]
  have h1' : ¬ drawn xs (p + 1) 4 = 0 := by simpa using h1
  refine bcase_intro (fun h2 => ?_) fun h2 => ?_
  · have h2' : drawn xs (p + 1) 4 = 1 := by simpa using h2
    have hM : stepM xs types f 2 p = mkE 27 (twoM f 2 (p + 2)) := by rw [stepM, if_neg h0', if_neg h1', if_pos h2']
    refine callq [[], [], [], [], []] [(1000, 4), (1001, 5), (1002, 7), (1003, 1000), (1004, 600)] (c_two (op := 27) (x := 2) (p := p + 2) (by decide) hD hD2 H hf (by omega)) ?_
    simp -implicitDefEqProofs only [↓steps, push_cast, simprocAttr, tte]
    refine retx_of [0, 0, 0, 0, 0, 6] rfl (by trivial) (by simp [rowsOf_length, twoM, moreM]) ?_ (by first | simp [ends] | (subst_vars; simp [ends])) ?_ (by simp [ends])
    · rw [← hr, hM]; simp [mkE, aE_bin, oneM, twoM, threeM, inE, rE_eq, rowsOf_cons, rowsOf_nil]
    · rw [← hr2, hM]; simp [mkE, oneM, twoM, threeM, inE, ends]
  have h2' : ¬ drawn xs (p + 1) 4 = 1 := by simpa using h2
  have hS : stepM xs types f 2 p = boolE xs f (1 + drawn xs (p + 2) 3) (p + 3) := by rw [stepM, if_neg h0', if_neg h1', if_neg h2', if_neg (by decide), if_neg (by decide)]
  refine callq [[], []] [(1000, 1000)] (c_next (n := 3) (p := p + 2) hx (by omega) (by omega) (by omega)) ?_
  have h3r := drawn_range xs (p + 2) (n := 3) (by omega)
  have w1 : IntKind.i64.wrap (1 + drawn xs (p + 2) 3) = 1 + drawn xs (p + 2) 3 := wrap_eq (by omega) (by omega)
  simp -implicitDefEqProofs only [w1, ↓steps, push_cast, simprocAttr, tte]
  generalize hxx : 1 + drawn xs (p + 2) 3 = x at hS
  have hKx : Kn x := by unfold Kn; omega
  refine callq [[], []] [(1000, 1000)] (c_next (n := 6) (p := p + 3) hx (by omega) (by omega) (by omega)) ?_
  simp -implicitDefEqProofs only [hDw, ↓steps, push_cast, simprocAttr, tte]
  refine bcase_intro (fun h3 => ?_) fun h3 => ?_
  · have h3' : drawn xs (p + 3) 6 = 0 := by simpa using h3
    have hM : stepM xs types f 2 p = mkE (22 + drawn xs (p + 4) 2) (twoM f 2 (p + 5)) := by rw [hS, boolE, if_pos h3']
    refine callq [[], []] [(1000, 1000)] (c_next (n := 2) (p := p + 4) hx (by omega) (by omega) (by omega)) ?_
    have h5 := drawn_range xs (p + 4) (n := 2) (by omega)
    have w6 : IntKind.i64.wrap (22 + drawn xs (p + 4) 2) = 22 + drawn xs (p + 4) 2 := wrap_eq (by omega) (by omega)
    simp -implicitDefEqProofs only [w6, ↓steps, push_cast, simprocAttr, tte]
    refine callq [[], [], [], [], []] [(1000, 4), (1001, 5), (1002, 7), (1003, 1000), (1004, 600)] (c_two (op := 22 + drawn xs (p + 4) 2) (x := 2) (p := p + 5) (by decide) hD hD2 H hf (by omega)) ?_
    simp -implicitDefEqProofs only [↓steps, push_cast, simprocAttr, tte]
    refine retx_of [0, 0, 0, 0, 0, 6] rfl (by trivial) (by simp [rowsOf_length, twoM, moreM]) ?_ (by first | simp [ends] | (subst_vars; simp [ends])) ?_ (by simp [ends])
    · rw [← hr, hM]; simp [mkE, aE_bin, oneM, twoM, threeM, inE, rE_eq, rowsOf_cons, rowsOf_nil]
    · rw [← hr2, hM]; simp [mkE, oneM, twoM, threeM, inE, ends]
  have h3' : ¬ drawn xs (p + 3) 6 = 0 := by simpa using h3
  refine bcase_intro (fun h4 => ?_) fun h4 => ?_
  · have h4' : drawn xs (p + 3) 6 = 1 := by simpa using h4
    have hM : stepM xs types f 2 p = mkE (24 + drawn xs (p + 4) 2) (oneM f 2 (p + 5)) := by rw [hS, boolE, if_neg h3', if_pos h4']
    refine callq [[], []] [(1000, 1000)] (c_next (n := 2) (p := p + 4) hx (by omega) (by omega) (by omega)) ?_
    have h5 := drawn_range xs (p + 4) (n := 2) (by omega)
    obtain h6 | h6 : drawn xs (p + 4) 2 = 0 ∨ drawn xs (p + 4) 2 = 1 := by omega
    all_goals
      simp -implicitDefEqProofs only [hDw, h6, ↓steps, push_cast, simprocAttr, tte]
      refine callq [[], [1], [], []] [(1000, 1000)] (H 2 (p + 5) (by decide) (by omega)) ?_
      simp -implicitDefEqProofs only [↓steps, push_cast, simprocAttr, tte]
      refine ⟨drawx_intro (by kernel_rfl), ?_⟩
      rw [h6] at hM
      refine retx_of [0, 0, 0, 0, 0, 6] rfl (by trivial) (by simp [rowsOf_length, twoM, moreM]) ?_ (by first | simp [ends] | (subst_vars; simp [ends])) ?_ (by simp [ends])
      · rw [← hr, hM]; simp [mkE, aE_bin, oneM, twoM, threeM, inE, rE_eq, rowsOf_cons, rowsOf_nil]
      · rw [← hr2, hM]; simp [mkE, oneM, twoM, threeM, inE, ends]
  have h4' : ¬ drawn xs (p + 3) 6 = 1 := by simpa using h4
  refine bcase_intro (fun h5 => ?_) fun h5 => ?_
  · have h5' : drawn xs (p + 3) 6 = 2 := by simpa using h5
    have hM : stepM xs types f 2 p = mkE 21 (oneM f x (p + 4)) := by rw [hS, boolE, if_neg h3', if_neg h4', if_pos h5']
    refine callq [[], [1], [], []] [(1000, 1000)] (H x (p + 4) hKx (by omega)) ?_
    simp -implicitDefEqProofs only [↓steps, push_cast, simprocAttr, tte]
    refine retx_of [0, 0, 0, 0, 0, 6] rfl (by trivial) (by simp [rowsOf_length, twoM, moreM]) ?_ (by first | simp [ends] | (subst_vars; simp [ends])) ?_ (by simp [ends])
    · rw [← hr, hM]; simp [mkE, aE_bin, oneM, twoM, threeM, inE, rE_eq, rowsOf_cons, rowsOf_nil]
    · rw [← hr2, hM]; simp [mkE, oneM, twoM, threeM, inE, ends]
  have h5' : ¬ drawn xs (p + 3) 6 = 2 := by simpa using h5
  refine bcase_intro (fun h6 => ?_) fun h6 => ?_
  · have h6' : drawn xs (p + 3) 6 = 3 := by simpa using h6
    have hM : stepM xs types f 2 p = mkE 28 (inE xs f x (p + 4)) := by rw [hS, boolE, if_neg h3', if_neg h4', if_neg h5', if_pos h6']
    refine callq [[], [], [], [], []] [(1000, 4), (1001, 5), (1002, 7), (1003, 1000), (1004, 600)] (c_two (op := 28) (x := x) (p := p + 4) hKx hD hD2 H hf (by omega)) ?_
    have b0 : (twoM f x (p + 4)).2 ≤ p + 4 + 2 * w := by have := hf x (p + 4); have := hf x (f x (p + 4)).2; simp only [twoM]; omega
    simp -implicitDefEqProofs only [↓steps, push_cast, simprocAttr, tte]
    have hI0 : inE xs f x (p + 4) = ((twoM f x (p + 4)).1 ++ (moreM f x ((twoM f x (p + 4)).2 + 1) (drawn xs (twoM f x (p + 4)).2 3).toNat).1, (moreM f x ((twoM f x (p + 4)).2 + 1) (drawn xs (twoM f x (p + 4)).2 3).toNat).2) := rfl
    have hl2 : (twoM f x (p + 4)).1.length = 2 := rfl
    generalize (twoM f x (p + 4)).2 = q at b0 hI0 ⊢
    generalize (twoM f x (p + 4)).1 = l2 at hl2 hI0 ⊢
    refine callq [[], []] [(1000, 1000)] (c_next (n := 3) (p := q) hx (by omega) (by omega) (by omega)) ?_
    have h9 := drawn_range xs q (n := 3) (by omega)
    obtain ⟨N, hN⟩ : ∃ N : Nat, drawn xs q 3 = N := ⟨(drawn xs q 3).toNat, by omega⟩
    have hN2 : N ≤ 2 := by omega
    simp -implicitDefEqProofs only [hN, ↓steps, push_cast, simprocAttr, tte]
    rw [hN, Int.toNat_natCast] at hI0
    refine loop_gen mixed ttok (fun m : Nat => (⟨[(16, .d (.lit (.int .i64 ((N : Int) - (m : Int))))), (13, .d (.lit (.int .i64 x))), (15, .ptr 15 0), (4, .ptr 4 0), (5, .ptr 5 0), (7, .ptr 7 0), (8, .ptr 8 0)],
      [(4, .var [.ptr 1000 0]), (5, .var [ints types]), (7, .var [num D]), (8, .var [.d (.lit (.int .i64 0)), .d (.lit (.int .i64 0)), .d (.lit (.int .i64 0)), .d (.lit (.string ByteArray.empty)), .d (.lit (.int .i64 0)), .snil]),
       (15, .var [.d (.lit (.int .i64 28)), .d (.lit (.int .i64 0)), .d (.lit (.int .i64 0)), .d (.lit (.string ByteArray.empty)), .d (.lit (.int .i64 0)), .vec 600 (2 + m)]),
       (600, .vec 64 6 (rowsOf rE (l2 ++ (moreM f x (q + 1) m).1)) 0), (1000, tapeO xs (moreM f x (q + 1) m).2)]⟩ : SL)) (fun m => N - m) (fun m => m ≤ N) 0 (Nat.zero_le _) ?_ ?_
    · exact Weak.keepL (by simp [ends]) (by simp [moreM, ends]) (by simp [ends])
    intro I hI m hm
    have bm := moreM_le hf x (q + 1) m
    have hml := moreM_len f x (q + 1) m
    have hmw : m * w ≤ 2 * w := Nat.mul_le_mul_right _ (by omega)
    have hlen : (l2 ++ (moreM f x (q + 1) m).1).length = 2 + m := by simp [hl2, hml]
    simp -implicitDefEqProofs only [hDw, ↓steps, push_cast, simprocAttr, tte]
    refine bcase_intro (fun k1 => ?_) fun k1 => ?_
    · have k1' : m < N := by have := of_decide_eq_true k1; omega
      refine callq [[], [1], [], []] [(1000, 1000)] (H x (moreM f x (q + 1) m).2 hKx (by omega)) ?_
      simp -implicitDefEqProofs only [↓steps, push_cast, simprocAttr, tte]
      have hw : IntKind.i64.wrap ((N : Int) - (m : Int) - 1) = (N : Int) - ((m + 1 : Nat) : Int) := by rw [wrap_eq (by omega) (by omega)]; omega
      refine ⟨⟨by omega, by omega⟩, drawx_intro (by kernel_rfl), ?_⟩
      refine gen_again hI (m + 1) k1' (by show N - (m + 1) < N - m; omega) (Weak.keepL (by simp [hw, ends]) ?_ (by simp [ends]))
      simp [moreM, hml, hl2, rE_eq, rowsOf_append, rowsOf_cons, rowsOf_nil, Nat.add_assoc, ends]
    · have k1' : m = N := by have := of_decide_eq_false k1; omega
      subst k1'
      refine retx_of [0, 0, 0, 0, 0, 6] rfl (by trivial) (by simp [rowsOf_length, hml, hl2]) ?_ (by first | simp [ends] | (subst_vars; simp [ends])) ?_ (by simp [ends])
      · rw [← hr, hM, hI0]; simp [mkE, aE_bin]
      · rw [← hr2, hM, hI0]; simp [mkE, ends]
  have h6' : ¬ drawn xs (p + 3) 6 = 3 := by simpa using h6
  have hM : stepM xs types f 2 p = mkE (14 + drawn xs (p + 4) 7) (twoM f x (p + 5)) := by rw [hS, boolE, if_neg h3', if_neg h4', if_neg h5', if_neg h6']
  refine callq [[], []] [(1000, 1000)] (c_next (n := 7) (p := p + 4) hx (by omega) (by omega) (by omega)) ?_
  have h7 := drawn_range xs (p + 4) (n := 7) (by omega)
  have w6 : IntKind.i64.wrap (14 + drawn xs (p + 4) 7) = 14 + drawn xs (p + 4) 7 := wrap_eq (by omega) (by omega)
  simp -implicitDefEqProofs only [w6, ↓steps, push_cast, simprocAttr, tte]
  refine callq [[], [], [], [], []] [(1000, 4), (1001, 5), (1002, 7), (1003, 1000), (1004, 600)] (c_two (op := 14 + drawn xs (p + 4) 7) (x := x) (p := p + 5) hKx hD hD2 H hf (by omega)) ?_
  simp -implicitDefEqProofs only [↓steps, push_cast, simprocAttr, tte]
  refine retx_of [0, 0, 0, 0, 0, 6] rfl (by trivial) (by simp [rowsOf_length, twoM, moreM]) ?_ (by first | simp [ends] | (subst_vars; simp [ends])) ?_ (by simp [ends])
  · rw [← hr, hM]; simp [mkE, aE_bin, oneM, twoM, threeM, inE, rE_eq, rowsOf_cons, rowsOf_nil]
  · rw [← hr2, hM]; simp [mkE, oneM, twoM, threeM, inE, ends]
end Go.Proofs.YtodoeplhcmecjaaGreatDoor
