/- Instances that are made to be valid are valid: a proof over an abstract machine of our own (part Wd) -/
import Derived.Test.YtodoeplhcmecjaaGreatDoorWc
import Derived.Test.YtodoeplhcmecjaaGreatDoorWb
import Derived.Test.YtodoeplhcmecjaaGreatDoorLd
set_option linter.all false
namespace Go.Proofs.YtodoeplhcmecjaaGreatDoor
open Go.Am
attribute [local simp, local push_cast] num boo str ints aV aTab aInst aS aT aC
set_option linter.unusedVariables false
set_option maxRecDepth 100000
set_option maxHeartbeats 4000000
/-- The numbers of a tape are of 64 bits. -/
def TapeOk (xs : List Int) : Prop := ∀ x ∈ xs, i64 x
/-- A tape from which p numbers were drawn, also such as are behind its end. -/
def pos (p : Nat) : Int := p
def tapeO (xs : List Int) (p : Nat) : Ob := .var [.d (.sl 1 (rowsOf rI xs)), .d (.lit (.int .i64 (pos p)))]
attribute [local simp, local push_cast] tapeO
/-- The number that is drawn. -/
def drawn (xs : List Int) (p : Nat) (n : Int) : Int := xs.getD p 0 % n
theorem drawn_range (xs : List Int) (p : Nat) {n : Int} (hn : 0 < n) : 0 ≤ drawn xs p n ∧ drawn xs p n < n :=
  ⟨Int.emod_nonneg _ (by omega), Int.emod_lt_of_pos _ hn⟩
theorem tmod_fix (a n : Int) (hn : 0 < n) : (if a.tmod n < 0 then a.tmod n + n else a.tmod n) = a % n := by
  have h1 := Int.emod_nonneg a (show n ≠ 0 by omega)
  have h2 := Int.emod_lt_of_pos a hn
  have h3 := Int.tmod_eq_emod (a := a) (b := n)
  by_cases h : 0 ≤ a ∨ n ∣ a
  · rw [if_pos h] at h3
    rw [if_neg (by omega)]; omega
  · rw [if_neg h] at h3
    have h4 : a % n ≠ 0 := fun h5 => h (.inr (Int.dvd_of_emod_eq_zero h5))
    rw [if_pos (by omega)]; omega
theorem c_next {xs : List Int} {n : Int} {p : Nat} (hx : TapeOk xs) (hn : 0 < n) (hn2 : n ≤ 1000000) (hp : p ≤ 4000000000000000000) :
    ACall Tryz.prog 21 [.ptr 1000 0, num n] [(1000, tapeO xs p)] (num (drawn xs p n)) [(1000, tapeO xs (p + 1))] := by
  refine enterq mixed ttok Tryz.func21 Tryz.ntmps21 Tryz.results21 ?_
  generalize hr : num (drawn xs p n) = R
  simp -implicitDefEqProofs only [argT, tapeO, rI, ↓steps, push_cast, simprocAttr, tte]
  have hd : (default : Int) = 0 := rfl
  have e1 : IntKind.i64.wrap (pos p + 1) = pos (p + 1) := by rw [pos, wrap_eq (by omega) (by omega)]; rfl
  have e0 : pos p = p := rfl
  refine bcase_intro (fun h0 => ?_) fun h0 => ?_
  · exact absurd (of_decide_eq_true h0) (by omega)
  refine ⟨drawx_intro (by kernel_rfl), ?_⟩
  refine bcase_intro (fun h1 => ?_) fun h1 => ?_
  · have h1' : p < xs.length := by have := of_decide_eq_true h1; omega
    have e3 : (pos p).toNat = p := by rw [e0]; simp
    have hfix := tmod_fix (xs.getD p 0) n hn
    have hb1 := Int.emod_nonneg (xs.getD p 0) (show n ≠ 0 by omega)
    have hb2 := Int.emod_lt_of_pos (xs.getD p 0) hn
    refine ⟨⟨by omega, by omega⟩, by omega, drawx_intro (by kernel_rfl), ?_⟩
    rw [hd, e3]
    refine bcase_intro (fun h2 => ?_) fun h2 => ?_
    · rw [if_pos (of_decide_eq_true h2)] at hfix
      rw [wrap_eq (n := (xs.getD p 0).tmod n + n) (by omega) (by omega), hfix]
      rw [e1]
      refine retx_of [0] rfl (by simp) (by simp [rowsOf_length] <;> omega) ?_ (by first | rfl | simp [ends] | (subst_vars; simp [ends])) (by simp [ends]) (by simp [ends])
      rw [← hr]; rfl
    · rw [if_neg (of_decide_eq_false h2)] at hfix
      rw [hfix]
      rw [e1]
      refine retx_of [0] rfl (by simp) (by simp [rowsOf_length] <;> omega) ?_ (by first | rfl | simp [ends] | (subst_vars; simp [ends])) (by simp [ends]) (by simp [ends])
      rw [← hr]; rfl
  · have h1' : xs.length ≤ p := by have := of_decide_eq_false h1; omega
    rw [e1]
    refine retx_of [0] rfl (by simp) (by simp [rowsOf_length] <;> omega) ?_ (by first | rfl | simp [ends] | (subst_vars; simp [ends])) (by simp [ends]) (by simp [ends])
    rw [← hr]; simp [drawn, List.getElem?_eq_none h1'] <;> rfl
end Go.Proofs.YtodoeplhcmecjaaGreatDoor
namespace Go.Proofs.YtodoeplhcmecjaaGreatDoor
open Go.Am
attribute [local simp, local push_cast] num boo str ints aV aTab aInst aS aT aC tapeO rS
set_option linter.unusedVariables false
set_option maxRecDepth 100000
set_option maxHeartbeats 4000000
/-- A letter and a number. -/
def nameOf (l : ByteArray) (n : Int) : ByteArray := l ++ ⟨#[UInt8.ofNat (IntKind.u8.wrap (IntKind.i64.wrap (48 + n.tmod 10))).toNat]⟩
theorem c_mname (l : ByteArray) (n : Int) (hl : l.size ≤ 1000) : ACall Tryz.prog 23 [str l, num n] [] (str (nameOf l n)) [] := by
  refine enterq mixed ttok Tryz.func23 Tryz.ntmps23 Tryz.results23 ?_
  generalize hr : str (nameOf l n) = R
  simp -implicitDefEqProofs only [argT, ↓steps, push_cast, simprocAttr, tte]
  have hb : (⟨#[UInt8.ofNat (IntKind.u8.wrap (IntKind.i64.wrap (48 + n.tmod 10))).toNat]⟩ : ByteArray).size = 1 := rfl
  refine ⟨by omega, ?_⟩
  refine retx_of [0] rfl (by simp) (by simp [rowsOf_length] <;> omega) ?_ (by first | rfl | simp [ends] | (subst_vars; simp [ends])) (by simp [ends]) (by simp [ends])
  exact hr
def intsL : List Int := [0, 1, 2, -1, 5, 7, -7, 100, 1000000000000, -1000000000000, 999999999999, 1000000]
def textsL : List ByteArray := [⟨#[]⟩, ⟨#[97]⟩, ⟨#[98]⟩, ⟨#[97, 98]⟩, ⟨#[48]⟩, ⟨#[32]⟩, ⟨#[97, 98, 99, 100, 101, 102, 103, 104, 105, 106, 107, 108, 109, 110, 111, 112, 113, 114, 115, 116, 117, 118, 119, 120]⟩]
def mkI (n : Int) : Val := ⟨1, n, ByteArray.empty⟩
def mkT (s : ByteArray) : Val := ⟨3, 0, s⟩
def valsM (k : Int) : List Val :=
  default :: if k = 1 then intsL.map mkI else if k = 2 then [boolV 0, boolV 1] else if k = 3 then textsL.map mkT else []
theorem valsM_len {k : Int} (hk : k = 1 ∨ k = 2 ∨ k = 3) : 3 ≤ (valsM k).length ∧ (valsM k).length ≤ 13 := by
  rcases hk with rfl | rfl | rfl <;> decide
theorem c_mvalues (k : Int) : ACall Tryz.prog 44 [num k] [] (.d (.sl 3 (rowsOf rV (valsM k)))) [] := by
  refine enterq mixed ttok Tryz.func44 Tryz.ntmps44 Tryz.results44 ?_
  generalize hr : A.d (.sl 3 (rowsOf rV (valsM k))) = R
  simp -implicitDefEqProofs only [argT, ↓steps, push_cast, simprocAttr, tte]
  refine bcase_intro (fun h1 => ?_) fun h1 => ?_
  · have h1' : k = 1 := by simpa using h1
    refine loop_count mixed ttok 5 [] [] (by simp only [pickT, ends, push_cast, simprocAttr]; rfl) (by simp only [pickO, consO_some, ends, push_cast, simprocAttr]; rfl) intsL.length (fun _ => True) (fun n => [(3, .vec 9 (n + 1)), (4, .vec 13 intsL.length)]) (fun n => [(9, .vec 57 3 (rowsOf rV (default :: (intsL.take n).map mkI)) 0), (13, .vec 2 1 (rowsOf rI intsL) 0)]) trivial ?_ ?_
    · exact Weak.keepL (by simp [cst, intsL, ends]) (by simp [cst, intsL, rowsOf, rI, rV, default, ends]) (by simp [cst, ends])
    intro I hI n hn hi
    have hl0 : intsL.length ≤ 12 := by decide
    have hl2 : (default :: (intsL.take n).map mkI).length = n + 1 := by simp; omega
    have hl3 : ((intsL.take n).map mkI).length = n := by simp; omega
    simp -implicitDefEqProofs only [cst, ↓steps, push_cast, simprocAttr, tte]
    refine bcase_intro (fun h => ?_) fun h => ?_
    · simp only [decide_eq_true_eq] at h
      have h' : n < intsL.length := by omega
      have hw := wrap_succ h' (by omega)
      have ht : (intsL.take (n + 1)).map mkI = (intsL.take n).map mkI ++ [⟨1, intsL.getD n default, ByteArray.empty⟩] := by rw [take_snoc _ _ h', List.map_append]; rfl
      refine ⟨⟨by omega, h⟩, h', ⟨hl3.symm, by rw [hl3]; omega⟩, ?_⟩
      exact cnt_again hI n rfl h' trivial (by simp [hw, ht, hl3, Nat.min_eq_left hn, rowsOf_append, ends]) (by simp [hw, ht, hl3, Nat.min_eq_left hn, rowsOf_append, ends]) (by simp [hw, ht, hl3, Nat.min_eq_left hn, rowsOf_append, ends]) (by simp [hw, ht, hl3, Nat.min_eq_left hn, rowsOf_append, ends])
    · simp only [decide_eq_false_iff_not] at h
      obtain rfl : n = intsL.length := by omega
      refine retx_of [3] rfl (by simp) (by simp [rowsOf_length] <;> omega) ?_ (by first | rfl | simp [ends] | (subst_vars; simp [ends])) (by simp [ends]) (by simp [ends])
      rw [← hr, valsM, if_pos h1', List.take_length]
  have h1' : ¬ k = 1 := by simpa using h1
  refine bcase_intro (fun h2 => ?_) fun h2 => ?_
  · have h2' : k = 2 := by simpa using h2
    refine callq [[]] [] (c_rbool 0) ?_
    simp -implicitDefEqProofs only [↓steps, push_cast, simprocAttr, tte]
    refine callq [[]] [] (c_rbool 1) ?_
    simp -implicitDefEqProofs only [↓steps, push_cast, simprocAttr, tte]
    refine retx_of [3] rfl (by simp) (by simp [rowsOf_length] <;> omega) ?_ (by first | rfl | simp [ends] | (subst_vars; simp [ends])) (by simp [ends]) (by simp [ends])
    rw [← hr, valsM, if_neg h1', if_pos h2']; rfl
  have h2' : ¬ k = 2 := by simpa using h2
  refine bcase_intro (fun h3 => ?_) fun h3 => ?_
  · have h3' : k = 3 := by simpa using h3
    refine loop_count mixed ttok 7 [] [] (by simp only [pickT, ends, push_cast, simprocAttr]; rfl) (by simp only [pickO, consO_some, ends, push_cast, simprocAttr]; rfl) textsL.length (fun _ => True) (fun n => [(3, .vec 9 (n + 1)), (6, .vec 37 textsL.length)]) (fun n => [(9, .vec 57 3 (rowsOf rV (default :: (textsL.take n).map mkT)) 0), (37, .vec 9 1 (rowsOf rS textsL) 0)]) trivial ?_ ?_
    · exact Weak.keepL (by simp [cst, textsL, ends]) (by simp [cst, textsL, rowsOf, rS, rV, default, ends]) (by simp [cst, ends])
    intro I hI n hn hi
    have hl0 : textsL.length ≤ 12 := by decide
    have hl2 : (default :: (textsL.take n).map mkT).length = n + 1 := by simp; omega
    have hl3 : ((textsL.take n).map mkT).length = n := by simp; omega
    simp -implicitDefEqProofs only [cst, ↓steps, push_cast, simprocAttr, tte]
    refine bcase_intro (fun h => ?_) fun h => ?_
    · simp only [decide_eq_true_eq] at h
      have h' : n < textsL.length := by omega
      have hw := wrap_succ h' (by omega)
      have ht : (textsL.take (n + 1)).map mkT = (textsL.take n).map mkT ++ [⟨3, 0, textsL.getD n default⟩] := by rw [take_snoc _ _ h', List.map_append]; rfl
      refine ⟨⟨by omega, h⟩, h', ⟨hl3.symm, by rw [hl3]; omega⟩, ?_⟩
      exact cnt_again hI n rfl h' trivial (by simp [hw, ht, hl3, Nat.min_eq_left hn, rowsOf_append, ends]) (by simp [hw, ht, hl3, Nat.min_eq_left hn, rowsOf_append, ends]) (by simp [hw, ht, hl3, Nat.min_eq_left hn, rowsOf_append, ends]) (by simp [hw, ht, hl3, Nat.min_eq_left hn, rowsOf_append, ends])
    · simp only [decide_eq_false_iff_not] at h
      obtain rfl : n = textsL.length := by omega
      refine retx_of [3] rfl (by simp) (by simp [rowsOf_length] <;> omega) ?_ (by first | rfl | simp [ends] | (subst_vars; simp [ends])) (by simp [ends]) (by simp [ends])
      rw [← hr, valsM, if_neg h1', if_neg h2', if_pos h3', List.take_length]
  have h3' : ¬ k = 3 := by simpa using h3
  refine retx_of [3] rfl (by simp) (by simp [rowsOf_length] <;> omega) ?_ (by first | rfl | simp [ends] | (subst_vars; simp [ends])) (by simp [ends]) (by simp [ends])
  rw [← hr, valsM, if_neg h1', if_neg h2', if_neg h3']; rfl
end Go.Proofs.YtodoeplhcmecjaaGreatDoor
namespace Go.Proofs.YtodoeplhcmecjaaGreatDoor
open Go.Am
attribute [local simp, local push_cast] num boo str ints aV aTab aInst aS aT aC tapeO
set_option linter.unusedVariables false
set_option maxRecDepth 100000
set_option maxHeartbeats 4000000
/-- Constant, by the value. -/
def constM (v : Val) (t : Int) : Ex :=
  if v.kind = 1 then .mk 2 0 v.num ByteArray.empty 0 [] else if v.kind = 2 then .mk 3 0 v.num ByteArray.empty 0 [] else if v.kind = 3 then .mk 4 0 0 v.text 0 [] else .mk 1 t 0 ByteArray.empty 0 []
theorem c_rconst (v : Val) (t : Int) : ACall Tryz.prog 73 [aV v, num t] [] (aE (constM v t)) [] := by
  refine enterq mixed ttok Tryz.func73 Tryz.ntmps73 Tryz.results73 ?_
  generalize hr : aE (constM v t) = R
  simp -implicitDefEqProofs only [argT, ↓steps, push_cast, simprocAttr, tte]
  refine bcase_intro (fun h => ?_) (fun h => bcase_intro (fun h2 => ?_) (fun h2 => bcase_intro (fun h3 => ?_) (fun h3 => ?_)))
  all_goals
    refine retx_of [0, 0, 0, 0, 0, 6] rfl (by simp) (by simp [rowsOf_length] <;> omega) ?_ (by first | rfl | simp [ends] | (subst_vars; simp [ends])) (by simp [ends]) (by simp [ends])
    rw [← hr]
    simp only [beq_iff_eq, beq_eq_false_iff_ne] at *
    simp [constM, *, aE_eq, Ex.op, Ex.type, Ex.num, Ex.text, Ex.col, Ex.kids, rowsOf]
/-- The columns of a type, among the first n. -/
def colsU (types : List Int) (typ : Int) (n : Nat) : List Int := ((List.range n).filter fun c => types.getD c 0 = typ).map fun (c : Nat) => (c : Int)
def cols (types : List Int) (typ : Int) : List Int := colsU types typ types.length
end Go.Proofs.YtodoeplhcmecjaaGreatDoor
namespace Go.Proofs.YtodoeplhcmecjaaGreatDoor
open Go.Am
attribute [local simp, local push_cast] num boo str ints aV aTab aInst aS aT aC tapeO
set_option linter.unusedVariables false
set_option maxRecDepth 100000
set_option maxHeartbeats 4000000
theorem bq31 : ((3 : Int) == 1) = false := rfl
theorem bq21 : ((2 : Int) == 1) = false := rfl
theorem bq23 : ((2 : Int) == 3) = false := rfl
attribute [local simp, local push_cast] bq31 bq21 bq23
end Go.Proofs.YtodoeplhcmecjaaGreatDoor
namespace Go.Proofs.YtodoeplhcmecjaaGreatDoor
open Go.Am
attribute [local simp, local push_cast] num boo str ints aV aTab aInst aS aT aC tapeO bq31 bq21 bq23
set_option linter.unusedVariables false
set_option maxRecDepth 100000
set_option maxHeartbeats 4000000
end Go.Proofs.YtodoeplhcmecjaaGreatDoor
namespace Go.Proofs.YtodoeplhcmecjaaGreatDoor
open Go.Am
attribute [local simp, local push_cast] num boo str ints aV aTab aInst aS aT aC tapeO bq31 bq21 bq23
set_option linter.unusedVariables false
set_option maxRecDepth 100000
set_option maxHeartbeats 4000000
end Go.Proofs.YtodoeplhcmecjaaGreatDoor
