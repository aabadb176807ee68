/- Instances made from a tape have few rows, as the tape says: a proof over an abstract machine of our own (part Wc) -/
import Derived.Test.YtampbaaiddbacaaGreatDoorWa
import Derived.Test.YtampbaaiddbacaaGreatDoorWb
import Derived.Test.YtampbaaiddbacaaGreatDoorLd
set_option linter.all false
namespace Go.Proofs.YtampbaaiddbacaaGreatDoor
open Go.Am
attribute [local simp, local push_cast] num boo str ints aV aTab aInst aS aT aC
set_option linter.unusedVariables false
set_option maxRecDepth 100000
set_option maxHeartbeats 4000000
/-- A value as a result. -/
theorem ret_v {p : Prop} {k n : Int} {s : ByteArray} {t : List (Nat × A)} {o : List (Nat × Ob)} {R : A} (hp : p) (hr : aV ⟨k, n, s⟩ = R) (ho : keepIn (inO []) o) :
    retx (some (p, .agg [.d (.lit (.int .i64 k)), .d (.lit (.int .i64 n)), .d (.lit (.string s))])) ⟨t, o⟩ R [] := by
  subst hr
  exact retx_of [0, 0, 0] rfl hp (by simp) rfl rfl trivial ho
theorem tabN : Tab.tab 3 = some [.lit (.int .i64 0), .lit (.int .i64 0), .lit (.string ByteArray.empty)] := rfl
def nullV : Val := ⟨0, 0, ByteArray.empty⟩
def boolV (n : Int) : Val := if n ≠ 0 ∧ n ≠ 1 then nullV else ⟨2, n, ByteArray.empty⟩
def ofV (b : Bool) : Val := ⟨2, if b then 1 else 0, ByteArray.empty⟩
def truthM (v : Val) : Int := if v.kind ≠ 2 then 2 else if v.num = 1 then 1 else 0
theorem c_bool (n : Int) : ACall Tryz.prog 222 [num n] [] (aV (boolV n)) [] := by
  refine enterq mixed ttok Tryz.func222 Tryz.ntmps222 Tryz.results222 ?_
  generalize hr : aV (boolV n) = R
  simp -implicitDefEqProofs only [argT, tabN, ↓steps, push_cast, simprocAttr, tte]
  refine bcase_intro (fun h1 => ?_) fun h1 => ?_
  · refine bcase_intro (fun h2 => ?_) fun h2 => ?_
    · exact ret_v (by first | trivial | (simp; done) | (simp; omega)) (by rw [← hr] <;> first | rfl | (simp [boolV, nullV]; done) | (simp_all [boolV, nullV]; done)) (by simp [ends])
    · exact ret_v (by first | trivial | (simp; done) | (simp; omega)) (by rw [← hr] <;> first | rfl | (simp [boolV, nullV]; done) | (simp_all [boolV, nullV]; done)) (by simp [ends])
  · exact ret_v (by first | trivial | (simp; done) | (simp; omega)) (by rw [← hr] <;> first | rfl | (simp [boolV, nullV]; done) | (simp_all [boolV, nullV]; done)) (by simp [ends])
theorem c_truth (b : Bool) : ACall Tryz.prog 230 [boo b] [] (aV (ofV b)) [] := by
  refine enterq mixed ttok Tryz.func230 Tryz.ntmps230 Tryz.results230 ?_
  generalize hr : aV (ofV b) = R
  simp -implicitDefEqProofs only [argT, ↓steps, push_cast, simprocAttr, tte]
  refine bcase_intro (fun h1 => ?_) fun h1 => ?_
  · refine callq [[0]] [] (c_bool 1) ?_
    simp -implicitDefEqProofs only [aV, ↓steps, push_cast, simprocAttr, tte]
    exact ret_v (by first | trivial | (simp; done) | (simp; omega)) (by rw [← hr] <;> first | rfl | (simp [ofV, boolV]; done) | (simp_all [ofV, boolV]; done)) (by simp [ends])
  · refine callq [[0]] [] (c_bool 0) ?_
    simp -implicitDefEqProofs only [aV, ↓steps, push_cast, simprocAttr, tte]
    exact ret_v (by first | trivial | (simp; done) | (simp; omega)) (by rw [← hr] <;> first | rfl | (simp [ofV, boolV]; done) | (simp_all [ofV, boolV]; done)) (by simp [ends])
theorem c_etruth (b : Bool) : ACall Tryz.prog 218 [boo b] [] (aV (ofV b)) [] := by
  refine enterq mixed ttok Tryz.func218 Tryz.ntmps218 Tryz.results218 ?_
  generalize hr : aV (ofV b) = R
  simp -implicitDefEqProofs only [argT, ↓steps, push_cast, simprocAttr, tte]
  refine bcase_intro (fun h1 => ?_) fun h1 => ?_
  · refine callq [[0]] [] (c_bool 1) ?_
    simp -implicitDefEqProofs only [aV, ↓steps, push_cast, simprocAttr, tte]
    exact ret_v (by first | trivial | (simp; done) | (simp; omega)) (by rw [← hr] <;> first | rfl | (simp [ofV, boolV]; done) | (simp_all [ofV, boolV]; done)) (by simp [ends])
  · refine callq [[0]] [] (c_bool 0) ?_
    simp -implicitDefEqProofs only [aV, ↓steps, push_cast, simprocAttr, tte]
    exact ret_v (by first | trivial | (simp; done) | (simp; omega)) (by rw [← hr] <;> first | rfl | (simp [ofV, boolV]; done) | (simp_all [ofV, boolV]; done)) (by simp [ends])
theorem c_Truth (v : Val) : ACall Tryz.prog 170 [aV v] [] (num (truthM v)) [] := by
  refine enterq mixed ttok Tryz.func170 Tryz.ntmps170 Tryz.results170 ?_
  generalize hr : num (truthM v) = R
  simp -implicitDefEqProofs only [argT, ↓steps, push_cast, simprocAttr, tte]
  refine bcase_intro (fun h1 => ?_) fun h1 => ?_
  · exact ret_d trivial (by rw [← hr]; simp at h1; simp [truthM, h1, num]) (by simp [ends])
  refine bcase_intro (fun h2 => ?_) fun h2 => ?_
  · exact ret_d trivial (by rw [← hr]; simp at h1 h2; simp [truthM, h1, h2, num]) (by simp [ends])
  · exact ret_d trivial (by rw [← hr]; simp at h1 h2; simp [truthM, h1, h2, num]) (by simp [ends])
def notM (v : Val) : Val := if truthM v = 2 then nullV else ofV (truthM v == 0)
theorem c_not (v : Val) : ACall Tryz.prog 216 [aV v] [] (aV (notM v)) [] := by
  refine enterq mixed ttok Tryz.func216 Tryz.ntmps216 Tryz.results216 ?_
  generalize hr : aV (notM v) = R
  simp -implicitDefEqProofs only [argT, tabN, ↓steps, push_cast, simprocAttr, tte]
  refine callq [[0, 0, 0]] [] (c_Truth v) ?_
  have ht : truthM v = 0 ∨ truthM v = 1 ∨ truthM v = 2 := by unfold truthM; split <;> (try split) <;> simp
  simp -implicitDefEqProofs only [tabN, ↓steps, push_cast, simprocAttr, tte]
  unfold notM at hr
  generalize truthM v = x at ht hr
  refine bcase_intro (fun h1 => ?_) fun h1 => ?_
  · have hw : IntKind.i64.wrap (1 - x) = 1 - x := wrap_eq (by omega) (by omega)
    simp only [hw]
    refine callq [[0]] [] (c_bool (1 - x)) ?_
    simp -implicitDefEqProofs only [aV, ↓steps, push_cast, simprocAttr, tte]
    rcases ht with rfl | rfl | rfl
    · exact ret_v (by first | trivial | (simp; done) | (simp; omega)) (by rw [← hr] <;> first | rfl | (simp [ofV, boolV]; done) | (simp_all [ofV, boolV]; done)) (by simp [ends])
    · exact ret_v (by first | trivial | (simp; done) | (simp; omega)) (by rw [← hr] <;> first | rfl | (simp [ofV, boolV]; done) | (simp_all [ofV, boolV]; done)) (by simp [ends])
    · simp at h1
  · have hx : x = 2 := by simpa using h1
    subst hx
    exact ret_v (by first | trivial | (simp; done) | (simp; omega)) (by rw [← hr] <;> first | rfl | (simp [nullV]; done) | (simp_all [nullV]; done)) (by simp [ends])
end Go.Proofs.YtampbaaiddbacaaGreatDoor
namespace Go.Proofs.YtampbaaiddbacaaGreatDoor
open Go.Am
attribute [local simp, local push_cast] num boo str ints aV aTab aInst aS aT aC
set_option linter.unusedVariables false
set_option maxRecDepth 100000
set_option maxHeartbeats 4000000
def andM (a b : Val) : Val := if truthM a = 0 ∨ truthM b = 0 then ofV false else if truthM a = 2 ∨ truthM b = 2 then nullV else ofV true
def orM (a b : Val) : Val := if truthM a = 1 ∨ truthM b = 1 then ofV true else if truthM a = 2 ∨ truthM b = 2 then nullV else ofV false
theorem c_and (a b : Val) : ACall Tryz.prog 220 [aV a, aV b] [] (aV (andM a b)) [] := by
  refine enterq mixed ttok Tryz.func220 Tryz.ntmps220 Tryz.results220 ?_
  generalize hr : aV (andM a b) = R
  simp -implicitDefEqProofs only [argT, tabN, ↓steps, push_cast, simprocAttr, tte]
  refine callq [[0, 0, 0]] [] (c_Truth a) ?_
  simp -implicitDefEqProofs only [tabN, ↓steps, push_cast, simprocAttr, tte]
  refine callq [[0, 0, 0]] [] (c_Truth b) ?_
  simp -implicitDefEqProofs only [tabN, ↓steps, push_cast, simprocAttr, tte]
  refine ⟨drawx_intro (by kernel_rfl), ?_⟩
  unfold andM at hr
  generalize truthM a = x at hr
  generalize truthM b = y at hr
  refine bcase_intro (fun h1 => ?_) fun h1 => ?_
  · refine callq [[0]] [] (c_bool 0) ?_
    simp -implicitDefEqProofs only [aV, ↓steps, push_cast, simprocAttr, tte]
    exact ret_v (by first | trivial | (simp; done) | (simp; omega)) (by rw [← hr] <;> first | rfl | (simp [ofV, boolV]; done) | (simp_all [ofV, boolV]; done)) (by simp [ends])
  refine bcase_intro (fun h2 => ?_) fun h2 => ?_
  · refine callq [[0]] [] (c_bool 0) ?_
    simp -implicitDefEqProofs only [aV, ↓steps, push_cast, simprocAttr, tte]
    exact ret_v (by first | trivial | (simp; done) | (simp; omega)) (by rw [← hr] <;> first | rfl | (simp [ofV, boolV]; done) | (simp_all [ofV, boolV]; done)) (by simp [ends])
  refine bcase_intro (fun h3 => ?_) fun h3 => ?_
  · exact ret_v (by first | trivial | (simp; done) | (simp; omega)) (by rw [← hr] <;> first | rfl | (simp [nullV]; done) | (simp_all [nullV]; done)) (by simp [ends])
  refine bcase_intro (fun h4 => ?_) fun h4 => ?_
  · exact ret_v (by first | trivial | (simp; done) | (simp; omega)) (by rw [← hr] <;> first | rfl | (simp [nullV]; done) | (simp_all [nullV]; done)) (by simp [ends])
  · refine callq [[0]] [] (c_bool 1) ?_
    simp -implicitDefEqProofs only [aV, ↓steps, push_cast, simprocAttr, tte]
    exact ret_v (by first | trivial | (simp; done) | (simp; omega)) (by rw [← hr] <;> first | rfl | (simp [ofV, boolV]; done) | (simp_all [ofV, boolV]; done)) (by simp [ends])
theorem c_or2 (a b : Val) : ACall Tryz.prog 221 [aV a, aV b] [] (aV (orM a b)) [] := by
  refine enterq mixed ttok Tryz.func221 Tryz.ntmps221 Tryz.results221 ?_
  generalize hr : aV (orM a b) = R
  simp -implicitDefEqProofs only [argT, tabN, ↓steps, push_cast, simprocAttr, tte]
  refine callq [[0, 0, 0]] [] (c_Truth a) ?_
  simp -implicitDefEqProofs only [tabN, ↓steps, push_cast, simprocAttr, tte]
  refine callq [[0, 0, 0]] [] (c_Truth b) ?_
  simp -implicitDefEqProofs only [tabN, ↓steps, push_cast, simprocAttr, tte]
  refine ⟨drawx_intro (by kernel_rfl), ?_⟩
  unfold orM at hr
  generalize truthM a = x at hr
  generalize truthM b = y at hr
  refine bcase_intro (fun h1 => ?_) fun h1 => ?_
  · refine callq [[0]] [] (c_bool 1) ?_
    simp -implicitDefEqProofs only [aV, ↓steps, push_cast, simprocAttr, tte]
    exact ret_v (by first | trivial | (simp; done) | (simp; omega)) (by rw [← hr] <;> first | rfl | (simp [ofV, boolV]; done) | (simp_all [ofV, boolV]; done)) (by simp [ends])
  refine bcase_intro (fun h2 => ?_) fun h2 => ?_
  · refine callq [[0]] [] (c_bool 1) ?_
    simp -implicitDefEqProofs only [aV, ↓steps, push_cast, simprocAttr, tte]
    exact ret_v (by first | trivial | (simp; done) | (simp; omega)) (by rw [← hr] <;> first | rfl | (simp [ofV, boolV]; done) | (simp_all [ofV, boolV]; done)) (by simp [ends])
  refine bcase_intro (fun h3 => ?_) fun h3 => ?_
  · exact ret_v (by first | trivial | (simp; done) | (simp; omega)) (by rw [← hr] <;> first | rfl | (simp [nullV]; done) | (simp_all [nullV]; done)) (by simp [ends])
  refine bcase_intro (fun h4 => ?_) fun h4 => ?_
  · exact ret_v (by first | trivial | (simp; done) | (simp; omega)) (by rw [← hr] <;> first | rfl | (simp [nullV]; done) | (simp_all [nullV]; done)) (by simp [ends])
  · refine callq [[0]] [] (c_bool 0) ?_
    simp -implicitDefEqProofs only [aV, ↓steps, push_cast, simprocAttr, tte]
    exact ret_v (by first | trivial | (simp; done) | (simp; omega)) (by rw [← hr] <;> first | rfl | (simp [ofV, boolV]; done) | (simp_all [ofV, boolV]; done)) (by simp [ends])
def cmpI (x y : Int) : Int := if x < y then -1 else if x > y then 1 else 0
def cmpS (x y : ByteArray) : Int := if Op.bytesLess x.toList y.toList then -1 else if x.toList = y.toList then 0 else 1
def cmpM (a b : Val) : Int := if cmpI a.kind b.kind ≠ 0 then cmpI a.kind b.kind else if cmpI a.num b.num ≠ 0 then cmpI a.num b.num else cmpS a.text b.text
theorem c_isNaN (x : Int) : ACall Tryz.prog 242 [num x] [] (boo false) [] := by
  refine enterq mixed ttok Tryz.func242 Tryz.ntmps242 Tryz.results242 ?_
  generalize hr : boo false = R
  simp -implicitDefEqProofs only [argT, ↓steps, push_cast, simprocAttr, tte]
  exact ret_d trivial (by rw [← hr]; rfl) (by simp [ends])
theorem c_isNaN64 (x : Int) : ACall Tryz.prog 243 [num x] [] (boo false) [] := by
  refine enterq mixed ttok Tryz.func243 Tryz.ntmps243 Tryz.results243 ?_
  generalize hr : boo false = R
  simp -implicitDefEqProofs only [argT, ↓steps, push_cast, simprocAttr, tte]
  exact ret_d trivial (by rw [← hr]; rfl) (by simp [ends])
theorem c_isNaNs (x : ByteArray) : ACall Tryz.prog 244 [str x] [] (boo false) [] := by
  refine enterq mixed ttok Tryz.func244 Tryz.ntmps244 Tryz.results244 ?_
  generalize hr : boo false = R
  simp -implicitDefEqProofs only [argT, ↓steps, push_cast, simprocAttr, tte]
  exact ret_d trivial (by rw [← hr]; simp [boo]) (by simp [ends])
theorem c_cmpI (x y : Int) : ACall Tryz.prog 235 [num x, num y] [] (num (cmpI x y)) [] := by
  refine enterq mixed ttok Tryz.func235 Tryz.ntmps235 Tryz.results235 ?_
  generalize hr : num (cmpI x y) = R
  simp -implicitDefEqProofs only [argT, ↓steps, push_cast, simprocAttr, tte]
  refine callq [[0]] [] (c_isNaN x) ?_
  simp -implicitDefEqProofs only [↓steps, push_cast, simprocAttr, tte]
  refine callq [[0]] [] (c_isNaN y) ?_
  simp -implicitDefEqProofs only [↓steps, push_cast, simprocAttr, tte]
  unfold cmpI at hr
  refine bcase_intro (fun h1 => ?_) fun h1 => ?_
  · exact ret_d trivial (by rw [← hr]; simp_all [num]) (by simp [ends])
  refine bcase_intro (fun h2 => ?_) fun h2 => ?_
  · exact ret_d trivial (by rw [← hr]; simp at h1 h2; rw [if_neg (by omega), if_pos (by omega)]; rfl) (by simp [ends])
  · exact ret_d trivial (by rw [← hr]; simp at h1 h2; rw [if_neg (by omega), if_neg (by omega)]; rfl) (by simp [ends])
theorem c_cmpI64 (x y : Int) : ACall Tryz.prog 236 [num x, num y] [] (num (cmpI x y)) [] := by
  refine enterq mixed ttok Tryz.func236 Tryz.ntmps236 Tryz.results236 ?_
  generalize hr : num (cmpI x y) = R
  simp -implicitDefEqProofs only [argT, ↓steps, push_cast, simprocAttr, tte]
  refine callq [[0]] [] (c_isNaN64 x) ?_
  simp -implicitDefEqProofs only [↓steps, push_cast, simprocAttr, tte]
  refine callq [[0]] [] (c_isNaN64 y) ?_
  simp -implicitDefEqProofs only [↓steps, push_cast, simprocAttr, tte]
  unfold cmpI at hr
  refine bcase_intro (fun h1 => ?_) fun h1 => ?_
  · exact ret_d trivial (by rw [← hr]; simp_all [num]) (by simp [ends])
  refine bcase_intro (fun h2 => ?_) fun h2 => ?_
  · exact ret_d trivial (by rw [← hr]; simp at h1 h2; rw [if_neg (by omega), if_pos (by omega)]; rfl) (by simp [ends])
  · exact ret_d trivial (by rw [← hr]; simp at h1 h2; rw [if_neg (by omega), if_neg (by omega)]; rfl) (by simp [ends])
theorem c_cmpS (x y : ByteArray) : ACall Tryz.prog 237 [str x, str y] [] (num (cmpS x y)) [] := by
  refine enterq mixed ttok Tryz.func237 Tryz.ntmps237 Tryz.results237 ?_
  generalize hr : num (cmpS x y) = R
  simp -implicitDefEqProofs only [argT, ↓steps, push_cast, simprocAttr, tte]
  refine callq [[0]] [] (c_isNaNs x) ?_
  simp -implicitDefEqProofs only [↓steps, push_cast, simprocAttr, tte]
  refine callq [[0]] [] (c_isNaNs y) ?_
  simp -implicitDefEqProofs only [↓steps, push_cast, simprocAttr, tte]
  unfold cmpS at hr
  refine bcase_intro (fun h1 => ?_) fun h1 => ?_
  · exact ret_d trivial (by rw [← hr]; simp_all [num]) (by simp [ends])
  refine bcase_intro (fun h2 => ?_) fun h2 => ?_
  · exact ret_d trivial (by rw [← hr]; rw [h1]; simp [h1] at h2; simp [h2, num]) (by simp [ends])
  · exact ret_d trivial (by rw [← hr]; rw [h1]; simp [h1] at h2; simp [h2, num]) (by simp [ends])
def firstN : List Int → Int
  | [] => 0
  | x :: l => if x ≠ 0 then x else firstN l
theorem c_cor (l : List Int) (hl : l.length ≤ 1000) : ACall Tryz.prog 234 [ints l] [] (num (firstN l)) [] := by
  refine enterq mixed ttok Tryz.func234 Tryz.ntmps234 Tryz.results234 ?_
  generalize hr : num (firstN l) = R
  simp -implicitDefEqProofs only [argT, ↓steps, push_cast, simprocAttr, tte]
  refine loop_count mixed ttok 8 [3, 6, 7] [] (by simp only [pickT, ends, push_cast, simprocAttr]; rfl) (by simp only [pickO, consO_some, ends, push_cast, simprocAttr]; rfl) l.length (fun n => firstN (l.drop n) = firstN l) (fun _ => []) (fun _ => []) rfl ?_ ?_
  · exact Weak.keepL (by simp [cst, ends]) (by simp [cst, ends]) (by simp [cst, ends])
  intro I hI n hn hi
  simp -implicitDefEqProofs only [cst, ↓steps, push_cast, simprocAttr, tte]
  refine bcase_intro (fun h => ?_) fun h => ?_
  · simp only [decide_eq_true_eq] at h
    have h' : n < l.length := by omega
    have hw := wrap_succ h' (by omega)
    rw [drop_cons _ n h', firstN] at hi
    refine ⟨(by first | omega | trivial | (refine ⟨?_, ?_⟩ <;> first | omega | trivial | (refine ⟨?_, ?_⟩ <;> first | omega | trivial | (refine ⟨?_, ?_⟩ <;> first | omega | trivial | rfl)))), ?_⟩
    refine bcase_intro (fun h2 => ?_) fun h2 => ?_
    · exact ret_d trivial (by rw [← hr, ← hi, if_pos (by simpa using h2)]; rfl) (by simp [ends])
    · rw [if_neg (by simpa using h2)] at hi
      exact cnt_again hI n rfl h' hi (by simp [hw, ends]) (by simp [hw, ends]) (by simp [hw, ends]) (by simp [hw, ends])
  · have hn' : n = l.length := by simp at h; omega
    subst hn'
    rw [List.drop_length] at hi
    exact ret_d trivial (by rw [← hr, ← hi]; rfl) (by simp [ends])
theorem c_compare (a b : Val) : ACall Tryz.prog 231 [aV a, aV b] [] (num (cmpM a b)) [] := by
  refine enterq mixed ttok Tryz.func231 Tryz.ntmps231 Tryz.results231 ?_
  generalize hr : num (cmpM a b) = R
  simp -implicitDefEqProofs only [argT, ↓steps, push_cast, simprocAttr, tte]
  refine callq [[0], [0]] [] (c_cmpI a.kind b.kind) ?_
  simp -implicitDefEqProofs only [↓steps, push_cast, simprocAttr, tte]
  refine callq [[0], [0]] [] (c_cmpI64 a.num b.num) ?_
  simp -implicitDefEqProofs only [↓steps, push_cast, simprocAttr, tte]
  refine callq [[0], [0]] [] (c_cmpS a.text b.text) ?_
  simp -implicitDefEqProofs only [↓steps, push_cast, simprocAttr, tte]
  refine callq [[1]] [] (c_cor [cmpI a.kind b.kind, cmpI a.num b.num, cmpS a.text b.text] (by simp)) ?_
  simp -implicitDefEqProofs only [↓steps, push_cast, simprocAttr, tte]
  refine ⟨drawx_intro (by kernel_rfl), ?_⟩
  have he : firstN [cmpI a.kind b.kind, cmpI a.num b.num, cmpS a.text b.text] = cmpM a b := by
    simp only [firstN, cmpM]
    repeat' split
    all_goals simp_all
  rw [he]
  exact ret_d trivial (by rw [← hr]; rfl) (by simp [ends])
end Go.Proofs.YtampbaaiddbacaaGreatDoor
namespace Go.Proofs.YtampbaaiddbacaaGreatDoor
open Go.Am
attribute [local simp, local push_cast] num boo str ints aV aTab aInst aS aT aC
set_option linter.unusedVariables false
set_option maxRecDepth 100000
set_option maxHeartbeats 4000000
def sameM (a b : Val) : Bool := (a.kind == b.kind && a.num == b.num) && (a.text.toList == b.text.toList)
theorem c_same (a b : Val) : ACall Tryz.prog 219 [aV a, aV b] [] (boo (sameM a b)) [] := by
  refine enterq mixed ttok Tryz.func219 Tryz.ntmps219 Tryz.results219 ?_
  generalize hr : boo (sameM a b) = R
  simp -implicitDefEqProofs only [argT, ↓steps, push_cast, simprocAttr, tte]
  exact ret_d trivial (by rw [← hr]; simp [sameM, boo, Bool.and_assoc]) (by simp [ends])
def equalM (a b : Val) : Val := if a.kind = 0 ∨ b.kind = 0 then nullV else ofV (sameM a b)
def lessM (a b : Val) : Val := if a.kind = 0 ∨ b.kind = 0 then nullV else ofV (decide (cmpM a b < 0))
theorem c_equal (a b : Val) : ACall Tryz.prog 215 [aV a, aV b] [] (aV (equalM a b)) [] := by
  refine enterq mixed ttok Tryz.func215 Tryz.ntmps215 Tryz.results215 ?_
  generalize hr : aV (equalM a b) = R
  simp -implicitDefEqProofs only [argT, tabN, ↓steps, push_cast, simprocAttr, tte]
  unfold equalM at hr
  refine bcase_intro (fun h1 => ?_) fun h1 => ?_
  · exact ret_v (by first | trivial | (simp; done) | (simp; omega)) (by rw [← hr] <;> first | rfl | (simp [nullV]; done) | (simp_all [nullV]; done)) (by simp [ends])
  refine bcase_intro (fun h2 => ?_) fun h2 => ?_
  · exact ret_v (by first | trivial | (simp; done) | (simp; omega)) (by rw [← hr] <;> first | rfl | (simp [nullV]; done) | (simp_all [nullV]; done)) (by simp [ends])
  refine callq [[0, 0, 0], [0, 0, 0]] [] (c_same a b) ?_
  simp -implicitDefEqProofs only [↓steps, push_cast, simprocAttr, tte]
  refine callq [[0]] [] (c_truth (sameM a b)) ?_
  simp -implicitDefEqProofs only [aV, ↓steps, push_cast, simprocAttr, tte]
  simp at h1 h2
  exact ret_v (by first | trivial | (simp; done) | (simp; omega)) (by rw [← hr] <;> first | rfl | (simp [h1, h2]; done) | (simp_all [h1, h2]; done)) (by simp [ends])
theorem c_less (a b : Val) : ACall Tryz.prog 217 [aV a, aV b] [] (aV (lessM a b)) [] := by
  refine enterq mixed ttok Tryz.func217 Tryz.ntmps217 Tryz.results217 ?_
  generalize hr : aV (lessM a b) = R
  simp -implicitDefEqProofs only [argT, tabN, ↓steps, push_cast, simprocAttr, tte]
  unfold lessM at hr
  refine bcase_intro (fun h1 => ?_) fun h1 => ?_
  · exact ret_v (by first | trivial | (simp; done) | (simp; omega)) (by rw [← hr] <;> first | rfl | (simp [nullV]; done) | (simp_all [nullV]; done)) (by simp [ends])
  refine bcase_intro (fun h2 => ?_) fun h2 => ?_
  · exact ret_v (by first | trivial | (simp; done) | (simp; omega)) (by rw [← hr] <;> first | rfl | (simp [nullV]; done) | (simp_all [nullV]; done)) (by simp [ends])
  refine callq [[0, 0, 0], [0, 0, 0]] [] (c_compare a b) ?_
  simp -implicitDefEqProofs only [↓steps, push_cast, simprocAttr, tte]
  refine callq [[0]] [] (c_truth (decide (cmpM a b < 0))) ?_
  simp -implicitDefEqProofs only [aV, ↓steps, push_cast, simprocAttr, tte]
  simp at h1 h2
  exact ret_v (by first | trivial | (simp; done) | (simp; omega)) (by rw [← hr] <;> first | rfl | (simp [h1, h2]; done) | (simp_all [h1, h2]; done)) (by simp [ends])
theorem toList_inj {x y : ByteArray} (h : x.toList = y.toList) : x = y := by
  cases x; cases y
  simpa [ByteArray.toList_eq] using h
end Go.Proofs.YtampbaaiddbacaaGreatDoor
namespace Go.Proofs.YtampbaaiddbacaaGreatDoor
open Go.Am
attribute [local simp, local push_cast] num boo str ints aV aTab aInst aS aT aC
set_option linter.unusedVariables false
set_option maxRecDepth 100000
set_option maxHeartbeats 4000000
def okN (a : Int) : Prop := -1000000000000 ≤ a ∧ a ≤ 1000000000000
def absI (a : Int) : Int := if a < 0 then -a else a
def numM (op a b : Int) : Int × Bool :=
  if op = 6 then (a + b, true) else if op = 7 then (a - b, true)
  else if op = 8 then (if a ≠ 0 ∧ b ≠ 0 ∧ absI a > (1000000000000 : Int).tdiv (absI b) then (0, false) else (a * b, true))
  else if op = 9 then (if b ≠ 0 then (a.tdiv b, true) else (0, false))
  else if op = 10 then (if b ≠ 0 then (a.tmod b, true) else (0, false)) else (0, false)
theorem absI_pos {a : Int} (h : a ≠ 0) : 0 < absI a := by unfold absI; split <;> omega
theorem abs_max {a : Int} (h : okN a) : (if -a > a then -a else a) = absI a := by unfold okN at h; unfold absI; split <;> split <;> omega
theorem tdiv_le {a b : Int} (ha : 0 ≤ a) (hb : 0 < b) : 0 ≤ a.tdiv b ∧ a.tdiv b ≤ a := by
  rw [Int.tdiv_eq_ediv_of_nonneg ha]
  exact ⟨Int.ediv_nonneg ha (Int.le_of_lt hb), Int.ediv_le_self _ ha⟩
theorem mul_ok {a b : Int} (ha : okN a) (hb : okN b) (h : ¬ (a ≠ 0 ∧ b ≠ 0 ∧ absI a > (1000000000000 : Int).tdiv (absI b))) : okN (a * b) := by
  by_cases h1 : a = 0
  · subst h1; simp [okN]
  by_cases h2 : b = 0
  · subst h2; simp [okN]
  have h3 : absI a ≤ (1000000000000 : Int).tdiv (absI b) := by
    have : ¬ absI a > (1000000000000 : Int).tdiv (absI b) := fun h4 => h ⟨h1, h2, h4⟩
    omega
  have hp := absI_pos h2
  rw [Int.tdiv_eq_ediv_of_nonneg (by decide), Int.le_ediv_iff_mul_le hp] at h3
  have e : a * b = absI a * absI b ∨ a * b = -(absI a * absI b) := by
    unfold absI
    split <;> split
    · left; simp [Int.neg_mul, Int.mul_neg]
    · right; simp [Int.neg_mul]
    · right; simp [Int.mul_neg]
    · left; rfl
  have hq : 0 ≤ absI a * absI b := Int.mul_nonneg (Int.le_of_lt (absI_pos h1)) (Int.le_of_lt hp)
  unfold okN
  omega
theorem tdiv_ok {a b : Int} (ha : okN a) (hb : b ≠ 0) : okN (a.tdiv b) := by
  have h := Int.natAbs_tdiv_le_natAbs a b
  unfold okN at *
  omega
theorem wrapN {a : Int} (h : -9000000000000 ≤ a ∧ a ≤ 9000000000000) : IntKind.i64.wrap a = a := wrap_eq (by omega) (by omega)
theorem c_numbers (op a b : Int) (ha : okN a) (hb : okN b) : ACall Tryz.prog 229 [num op, num a, num b] [] (.tup [num (numM op a b).1, boo (numM op a b).2]) [] := by
  refine enterq mixed ttok Tryz.func229 Tryz.ntmps229 Tryz.results229 ?_
  generalize hr : A.tup [num (numM op a b).1, boo (numM op a b).2] = R
  have ha' := ha
  have hb' := hb
  unfold okN at ha' hb'
  have w1 := wrapN (a := a + b) (by omega)
  have w2 := wrapN (a := a - b) (by omega)
  have w3 := wrapN (a := -a) (by omega)
  have w4 := wrapN (a := -b) (by omega)
  have e3 : (0 : Int) - a = -a := by omega
  have e4 : (0 : Int) - b = -b := by omega
  unfold numM at hr
  simp -implicitDefEqProofs only [argT, w1, w2, w3, w4, e3, e4, abs_max ha, abs_max hb, ↓steps, push_cast, simprocAttr, tte]
  refine bcase_intro (fun h6 => ?_) fun h6 => ?_
  · exact ret_d2 trivial (by rw [← hr, if_pos (by simpa using h6)]; rfl) (by simp [ends])
  rw [if_neg (by simpa using h6)] at hr
  refine bcase_intro (fun h7 => ?_) fun h7 => ?_
  · exact ret_d2 trivial (by rw [← hr, if_pos (by simpa using h7)]; rfl) (by simp [ends])
  rw [if_neg (by simpa using h7)] at hr
  refine bcase_intro (fun h8 => ?_) fun h8 => ?_
  · rw [if_pos (by simpa using h8)] at hr
    by_cases hz : a ≠ 0 ∧ b ≠ 0
    · have hp := absI_pos hz.2
      have hd := tdiv_le (a := 1000000000000) (by decide) hp
      have w5 := wrapN (a := (1000000000000 : Int).tdiv (absI b)) (by omega)
      refine bcase_intro (fun h1 => ?_) fun h1 => ?_
      · refine bcase_intro (fun h2 => ?_) fun h2 => ?_
        · refine ⟨by omega, ?_⟩
          simp only [w5]
          refine bcase_intro (fun h3 => ?_) fun h3 => ?_
          · simp only [decide_eq_true_eq] at h3
            exact ret_d2 trivial (by rw [← hr, if_pos ⟨hz.1, hz.2, h3⟩]; rfl) (by simp [ends])
          · simp only [decide_eq_false_iff_not] at h3
            have hn : ¬ (a ≠ 0 ∧ b ≠ 0 ∧ absI a > (1000000000000 : Int).tdiv (absI b)) := fun h => h3 h.2.2
            have hm := mul_ok ha hb hn
            unfold okN at hm
            have w6 := wrapN (a := a * b) (by omega)
            simp only [w6]
            exact ret_d2 trivial (by rw [← hr, if_neg hn]; rfl) (by simp [ends])
        · simp at h2; omega
      · simp at h1; omega
    · have hn : ¬ (a ≠ 0 ∧ b ≠ 0 ∧ absI a > (1000000000000 : Int).tdiv (absI b)) := fun h => hz ⟨h.1, h.2.1⟩
      have hm := mul_ok ha hb hn
      unfold okN at hm
      have w6 := wrapN (a := a * b) (by omega)
      rw [if_neg hn] at hr
      refine bcase_intro (fun h1 => ?_) fun h1 => ?_
      · refine bcase_intro (fun h2 => ?_) fun h2 => ?_
        · simp at h1 h2; omega
        · simp only [w6]
          exact ret_d2 trivial (by rw [← hr]; rfl) (by simp [ends])
      · simp only [w6]
        exact ret_d2 trivial (by rw [← hr]; rfl) (by simp [ends])
  rw [if_neg (by simpa using h8)] at hr
  refine bcase_intro (fun h9 => ?_) fun h9 => ?_
  · rw [if_pos (by simpa using h9)] at hr
    refine bcase_intro (fun h1 => ?_) fun h1 => ?_
    · have h1' : b ≠ 0 := by simpa using h1
      have hm := tdiv_ok ha h1'
      unfold okN at hm
      have w6 := wrapN (a := a.tdiv b) (by omega)
      simp only [w6]
      exact ⟨h1', ret_d2 trivial (by rw [← hr, if_pos h1']; rfl) (by simp [ends])⟩
    · have h1' : ¬ b ≠ 0 := by simpa using h1
      exact ret_d2 trivial (by rw [← hr, if_neg h1']; rfl) (by simp [ends])
  rw [if_neg (by simpa using h9)] at hr
  refine bcase_intro (fun h10 => ?_) fun h10 => ?_
  · rw [if_pos (by simpa using h10)] at hr
    refine bcase_intro (fun h1 => ?_) fun h1 => ?_
    · have h1' : b ≠ 0 := by simpa using h1
      exact ⟨h1', ret_d2 trivial (by rw [← hr, if_pos h1']; rfl) (by simp [ends])⟩
    · have h1' : ¬ b ≠ 0 := by simpa using h1
      exact ret_d2 trivial (by rw [← hr, if_neg h1']; rfl) (by simp [ends])
  rw [if_neg (by simpa using h10)] at hr
  exact ret_d2 trivial (by rw [← hr]; rfl) (by simp [ends])
end Go.Proofs.YtampbaaiddbacaaGreatDoor
namespace Go.Proofs.YtampbaaiddbacaaGreatDoor
open Go.Am
end Go.Proofs.YtampbaaiddbacaaGreatDoor
namespace Go.Proofs.YtampbaaiddbacaaGreatDoor
open Go.Am
attribute [local simp, local push_cast] num boo str ints aV aTab aInst aS aT aC
set_option linter.unusedVariables false
set_option maxRecDepth 100000
set_option maxHeartbeats 4000000
def validV (v : Val) : Val := if validM v = true then v else nullV
def arithM (op : Int) (a b : Val) : Val :=
  if validM a = false ∨ validM b = false ∨ a.kind ≠ b.kind then nullV
  else if a.kind = 1 then (if (numM op a.num b.num).2 = true then validV ⟨1, (numM op a.num b.num).1, ByteArray.empty⟩ else nullV)
  else if a.kind = 3 ∧ op = 12 then validV ⟨3, 0, a.text ++ b.text⟩ else nullV
theorem empty_list : ByteArray.empty.toList = [] := by rw [ByteArray.toList_eq]; rfl
theorem valid_num {v : Val} (h : validM v = true) (hk : v.kind = 1) : okN v.num := by
  unfold validM at h
  rw [if_neg (by omega), if_pos hk] at h
  simp only [Bool.and_eq_true, decide_eq_true_eq] at h
  exact ⟨h.1.1, h.1.2⟩
theorem valid_text {v : Val} (h : validM v = true) (hk : v.kind = 3) : v.text.size ≤ 24 := by
  unfold validM at h
  rw [if_neg (by omega), if_neg (by omega), if_neg (by omega), if_pos hk] at h
  simp only [textM, Bool.and_eq_true, decide_eq_true_eq] at h
  exact h.2.1
theorem valid_null : validM nullV = true := by simp [validM, nullV, empty_list]
theorem c_arith (op : Int) (a b : Val) : ACall Tryz.prog 214 [num op, aV a, aV b] [] (aV (arithM op a b)) [] := by
  refine enterq mixed ttok Tryz.func214 Tryz.ntmps214 Tryz.results214 ?_
  generalize hr : aV (arithM op a b) = R
  simp -implicitDefEqProofs only [argT, tabN, ↓steps, push_cast, simprocAttr, tte]
  refine callq [[0, 0, 0]] [] (c_valid a) ?_
  simp -implicitDefEqProofs only [tabN, ↓steps, push_cast, simprocAttr, tte]
  unfold arithM at hr
  refine bcase_intro (fun h1 => ?_) fun h1 => ?_
  · rw [if_pos (.inl (by simpa using h1))] at hr
    exact ret_v (by first | trivial | (simp; done) | (simp; omega)) (by rw [← hr] <;> first | rfl | (simp [nullV]; done) | (simp_all [nullV]; done)) (by simp [ends])
  refine callq [[0, 0, 0]] [] (c_valid b) ?_
  simp -implicitDefEqProofs only [tabN, ↓steps, push_cast, simprocAttr, tte]
  simp only [Bool.not_eq_false'] at h1
  refine bcase_intro (fun h2 => ?_) fun h2 => ?_
  · rw [if_pos (.inr (.inl (by simpa using h2)))] at hr
    exact ret_v (by first | trivial | (simp; done) | (simp; omega)) (by rw [← hr] <;> first | rfl | (simp [nullV]; done) | (simp_all [nullV]; done)) (by simp [ends])
  simp only [Bool.not_eq_false'] at h2
  refine bcase_intro (fun h3 => ?_) fun h3 => ?_
  · rw [if_pos (.inr (.inr (by simpa using h3)))] at hr
    exact ret_v (by first | trivial | (simp; done) | (simp; omega)) (by rw [← hr] <;> first | rfl | (simp [nullV]; done) | (simp_all [nullV]; done)) (by simp [ends])
  have hk : a.kind = b.kind := by simpa using h3
  rw [if_neg (by simp [h1, h2, hk])] at hr
  refine bcase_intro (fun h4 => ?_) fun h4 => ?_
  · have hk1 : a.kind = 1 := by simpa using h4
    rw [if_pos hk1] at hr
    refine callq [[0], [0], [0]] [] (c_numbers op a.num b.num (valid_num h1 hk1) (valid_num h2 (by omega))) ?_
    simp -implicitDefEqProofs only [tabN, ↓steps, push_cast, simprocAttr, tte]
    refine bcase_intro (fun h5 => ?_) fun h5 => ?_
    · rw [if_neg (by simpa using h5)] at hr
      exact ret_v (by first | trivial | (simp; done) | (simp; omega)) (by rw [← hr] <;> first | rfl | (simp [nullV]; done) | (simp_all [nullV]; done)) (by simp [ends])
    rw [if_pos (by simpa using h5)] at hr
    refine callq [[0, 0, 0]] [] (c_valid ⟨1, (numM op a.num b.num).1, ByteArray.empty⟩) ?_
    simp -implicitDefEqProofs only [tabN, ↓steps, push_cast, simprocAttr, tte]
    unfold validV at hr
    refine bcase_intro (fun h6 => ?_) fun h6 => ?_
    · rw [if_neg (by simpa using h6)] at hr
      exact ret_v (by first | trivial | (simp; done) | (simp; omega)) (by rw [← hr] <;> first | rfl | (simp [nullV]; done) | (simp_all [nullV]; done)) (by simp [ends])
    · rw [if_pos (by simpa using h6)] at hr
      exact ret_v (by first | trivial | (simp; done) | (simp; omega)) (by rw [← hr] <;> first | rfl | (simp [nullV]; done) | (simp_all [nullV]; done)) (by simp [ends])
  have hk1 : ¬ a.kind = 1 := by simpa using h4
  rw [if_neg hk1] at hr
  have hnul : ACall Tryz.prog 165 [aV ⟨0, 0, ByteArray.empty⟩] [] (boo true) [] := valid_null ▸ c_valid nullV
  by_cases h5 : a.kind = 3 ∧ op = 12
  · rw [if_pos h5] at hr
    obtain ⟨h5a, h5b⟩ := h5
    have t1 := valid_text h1 h5a
    have t2 := valid_text h2 (by omega)
    refine bcase_intro (fun h6 => ?_) fun h6 => ?_
    · refine bcase_intro (fun h7 => ?_) fun h7 => ?_
      · refine ⟨by omega, ?_⟩
        refine callq [[0, 0, 0]] [] (c_valid ⟨3, 0, a.text ++ b.text⟩) ?_
        simp -implicitDefEqProofs only [tabN, ↓steps, push_cast, simprocAttr, tte]
        unfold validV at hr
        refine bcase_intro (fun h8 => ?_) fun h8 => ?_
        · rw [if_neg (by simpa using h8)] at hr
          exact ret_v (by first | trivial | (simp; done) | (simp; omega)) (by rw [← hr] <;> first | rfl | (simp [nullV]; done) | (simp_all [nullV]; done)) (by simp [ends])
        · rw [if_pos (by simpa using h8)] at hr
          exact ret_v (by first | trivial | (simp; done) | (simp; omega)) (by rw [← hr] <;> first | rfl | (simp [nullV]; done) | (simp_all [nullV]; done)) (by simp [ends])
      · simp at h7; omega
    · simp at h6; omega
  rw [if_neg h5] at hr
  refine bcase_intro (fun h6 => ?_) fun h6 => ?_
  · refine bcase_intro (fun h7 => ?_) fun h7 => ?_
    · simp at h6 h7; omega
    · refine callq [[0, 0, 0]] [] (hnul) ?_
      simp -implicitDefEqProofs only [nullV, tabN, ↓steps, push_cast, simprocAttr, tte]
      exact ret_v (by first | trivial | (simp; done) | (simp; omega)) (by rw [← hr] <;> first | rfl | (simp [nullV]; done) | (simp_all [nullV]; done)) (by simp [ends])
  · refine callq [[0, 0, 0]] [] (hnul) ?_
    simp -implicitDefEqProofs only [nullV, tabN, ↓steps, push_cast, simprocAttr, tte]
    exact ret_v (by first | trivial | (simp; done) | (simp; omega)) (by rw [← hr] <;> first | rfl | (simp [nullV]; done) | (simp_all [nullV]; done)) (by simp [ends])
end Go.Proofs.YtampbaaiddbacaaGreatDoor
namespace Go.Proofs.YtampbaaiddbacaaGreatDoor
open Go.Am
attribute [local simp, local push_cast] num boo str ints aV aTab aInst aS aT aC
set_option linter.unusedVariables false
set_option maxRecDepth 100000
set_option maxHeartbeats 4000000
def aRow (l : List Val) : A := .d (.sl 3 (rowsOf rV l))
attribute [local simp, local push_cast] aRow
def inM (v : Val) : Val → List Val → Val
  | out, [] => out
  | out, x :: l => inM v (orM out (equalM v x)) l
/-- What an operation makes of the values of its operands. -/
def applyM (op : Int) (l : List Val) : Val :=
  if op = 6 ∨ op = 7 ∨ op = 8 ∨ op = 9 ∨ op = 10 ∨ op = 12 then arithM op (l.getD 0 default) (l.getD 1 default)
  else if op = 11 then arithM 7 ⟨1, 0, ByteArray.empty⟩ (l.getD 0 default)
  else if op = 13 then (if (l.getD 0 default).kind = 3 then ⟨1, (l.getD 0 default).text.size, ByteArray.empty⟩ else nullV)
  else if op = 14 then equalM (l.getD 0 default) (l.getD 1 default)
  else if op = 15 then notM (equalM (l.getD 0 default) (l.getD 1 default))
  else if op = 16 then lessM (l.getD 0 default) (l.getD 1 default)
  else if op = 17 then notM (lessM (l.getD 1 default) (l.getD 0 default))
  else if op = 18 then lessM (l.getD 1 default) (l.getD 0 default)
  else if op = 19 then notM (lessM (l.getD 0 default) (l.getD 1 default))
  else if op = 20 then ofV (sameM (l.getD 0 default) (l.getD 1 default))
  else if op = 21 then ofV ((l.getD 0 default).kind == 0)
  else if op = 22 then andM (l.getD 0 default) (l.getD 1 default)
  else if op = 23 then orM (l.getD 0 default) (l.getD 1 default)
  else if op = 24 then notM (l.getD 0 default)
  else if op = 25 then ofV (truthM (l.getD 0 default) == 1)
  else if op = 27 then (if (l.getD 0 default).kind = 0 then l.getD 1 default else l.getD 0 default)
  else if op = 28 then inM (l.getD 0 default) (ofV false) (l.drop 1)
  else nullV
theorem inM_snoc (v : Val) : ∀ (r : List Val) (out x : Val), inM v out (r ++ [x]) = orM (inM v out r) (equalM v x)
  | [], out, x => rfl
  | y :: r, out, x => by simp only [List.cons_append, inM, inM_snoc v r]
theorem c_bool0 : ACall Tryz.prog 222 [num 0] [] (aV (ofV false)) [] := by
  have : boolV 0 = ofV false := by simp [boolV, ofV]
  rw [← this]; exact c_bool 0
theorem len2 {n : Nat} (h : (n : Int) = 2) : 2 ≤ n := by omega
theorem len1 {n : Nat} (h : (n : Int) = 1) : 1 ≤ n := by omega
theorem c_apply (op : Int) (l : List Val) (hk : kidsR op l.length = true) (hll : l.length ≤ 1000) : ACall Tryz.prog 197 [num op, aRow l] [] (aV (applyM op l)) [] := by
  refine enterq mixed ttok Tryz.func197 Tryz.ntmps197 Tryz.results197 ?_
  generalize hr : aV (applyM op l) = R
  simp -implicitDefEqProofs only [argT, tabN, ↓steps, push_cast, simprocAttr, tte]
  refine bcase_intro (fun h6 => ?_) fun h6 => ?_
  · have e : op = 6 := by simpa using h6
    subst e
    have hl : 2 ≤ l.length := len2 (by simpa [kidsR] using hk)
    refine bcase_intro (fun _ => ?_) (fun h => absurd h (by decide))
    refine ⟨by omega, by omega, ?_⟩
    refine callq [[0], [0, 0, 0], [0, 0, 0]] [] (c_arith 6 (l.getD 0 default) (l.getD 1 default)) ?_
    simp -implicitDefEqProofs only [tabN, aV, ↓steps, push_cast, simprocAttr, tte]
    refine ⟨drawx_intro (by kernel_rfl), ?_⟩
    exact ret_v (by first | trivial | (simp; done) | (simp; omega)) (by rw [← hr] <;> first | rfl | (simp [applyM]; done) | (simp_all [applyM]; done)) (by simp [ends])
  refine bcase_intro (fun h7 => ?_) fun h7 => ?_
  · have e : op = 7 := by simpa using h7
    subst e
    have hl : 2 ≤ l.length := len2 (by simpa [kidsR] using hk)
    refine bcase_intro (fun _ => ?_) (fun h => absurd h (by decide))
    refine ⟨by omega, by omega, ?_⟩
    refine callq [[0], [0, 0, 0], [0, 0, 0]] [] (c_arith 7 (l.getD 0 default) (l.getD 1 default)) ?_
    simp -implicitDefEqProofs only [tabN, aV, ↓steps, push_cast, simprocAttr, tte]
    refine ⟨drawx_intro (by kernel_rfl), ?_⟩
    exact ret_v (by first | trivial | (simp; done) | (simp; omega)) (by rw [← hr] <;> first | rfl | (simp [applyM]; done) | (simp_all [applyM]; done)) (by simp [ends])
  refine bcase_intro (fun h8 => ?_) fun h8 => ?_
  · have e : op = 8 := by simpa using h8
    subst e
    have hl : 2 ≤ l.length := len2 (by simpa [kidsR] using hk)
    refine bcase_intro (fun _ => ?_) (fun h => absurd h (by decide))
    refine ⟨by omega, by omega, ?_⟩
    refine callq [[0], [0, 0, 0], [0, 0, 0]] [] (c_arith 8 (l.getD 0 default) (l.getD 1 default)) ?_
    simp -implicitDefEqProofs only [tabN, aV, ↓steps, push_cast, simprocAttr, tte]
    refine ⟨drawx_intro (by kernel_rfl), ?_⟩
    exact ret_v (by first | trivial | (simp; done) | (simp; omega)) (by rw [← hr] <;> first | rfl | (simp [applyM]; done) | (simp_all [applyM]; done)) (by simp [ends])
  refine bcase_intro (fun h9 => ?_) fun h9 => ?_
  · have e : op = 9 := by simpa using h9
    subst e
    have hl : 2 ≤ l.length := len2 (by simpa [kidsR] using hk)
    refine bcase_intro (fun _ => ?_) (fun h => absurd h (by decide))
    refine ⟨by omega, by omega, ?_⟩
    refine callq [[0], [0, 0, 0], [0, 0, 0]] [] (c_arith 9 (l.getD 0 default) (l.getD 1 default)) ?_
    simp -implicitDefEqProofs only [tabN, aV, ↓steps, push_cast, simprocAttr, tte]
    refine ⟨drawx_intro (by kernel_rfl), ?_⟩
    exact ret_v (by first | trivial | (simp; done) | (simp; omega)) (by rw [← hr] <;> first | rfl | (simp [applyM]; done) | (simp_all [applyM]; done)) (by simp [ends])
  refine bcase_intro (fun h10 => ?_) fun h10 => ?_
  · have e : op = 10 := by simpa using h10
    subst e
    have hl : 2 ≤ l.length := len2 (by simpa [kidsR] using hk)
    refine bcase_intro (fun _ => ?_) (fun h => absurd h (by decide))
    refine ⟨by omega, by omega, ?_⟩
    refine callq [[0], [0, 0, 0], [0, 0, 0]] [] (c_arith 10 (l.getD 0 default) (l.getD 1 default)) ?_
    simp -implicitDefEqProofs only [tabN, aV, ↓steps, push_cast, simprocAttr, tte]
    refine ⟨drawx_intro (by kernel_rfl), ?_⟩
    exact ret_v (by first | trivial | (simp; done) | (simp; omega)) (by rw [← hr] <;> first | rfl | (simp [applyM]; done) | (simp_all [applyM]; done)) (by simp [ends])
  refine bcase_intro (fun h12 => ?_) fun h12 => ?_
  · have e : op = 12 := by simpa using h12
    subst e
    have hl : 2 ≤ l.length := len2 (by simpa [kidsR] using hk)
    refine ⟨by omega, by omega, ?_⟩
    refine callq [[0], [0, 0, 0], [0, 0, 0]] [] (c_arith 12 (l.getD 0 default) (l.getD 1 default)) ?_
    simp -implicitDefEqProofs only [tabN, aV, ↓steps, push_cast, simprocAttr, tte]
    refine ⟨drawx_intro (by kernel_rfl), ?_⟩
    exact ret_v (by first | trivial | (simp; done) | (simp; omega)) (by rw [← hr] <;> first | rfl | (simp [applyM]; done) | (simp_all [applyM]; done)) (by simp [ends])
  refine bcase_intro (fun h11 => ?_) fun h11 => ?_
  · have e : op = 11 := by simpa using h11
    subst e
    have hl : 1 ≤ l.length := len1 (by simpa [kidsR] using hk)
    refine ⟨by omega, ?_⟩
    refine callq [[0], [0, 0, 0], [0, 0, 0]] [] (c_arith 7 ⟨1, 0, ByteArray.empty⟩ (l.getD 0 default)) ?_
    simp -implicitDefEqProofs only [tabN, aV, ↓steps, push_cast, simprocAttr, tte]
    exact ret_v (by first | trivial | (simp; done) | (simp; omega)) (by rw [← hr] <;> first | rfl | (simp [applyM]; done) | (simp_all [applyM]; done)) (by simp [ends])
  refine bcase_intro (fun h13 => ?_) fun h13 => ?_
  · have e : op = 13 := by simpa using h13
    subst e
    have hl : 1 ≤ l.length := len1 (by simpa [kidsR] using hk)
    refine ⟨by omega, ?_⟩
    refine bcase_intro (fun g => ?_) fun g => ?_
    · refine ⟨by omega, ?_⟩
      have g1 : (l.getD 0 default).kind = 3 := by simpa using g
      have hM : applyM 13 l = ⟨1, (l.getD 0 default).text.size, ByteArray.empty⟩ := if_pos g1
      rw [hM] at hr
      exact ret_v (by first | trivial | (simp; done) | (simp; omega)) (by rw [← hr] <;> first | rfl | (simp [applyM]; done) | (simp_all [applyM]; done)) (by simp [ends])
    · have g1 : ¬ (l.getD 0 default).kind = 3 := by simpa using g
      have hM : applyM 13 l = nullV := if_neg g1
      rw [hM] at hr
      exact ret_v (by first | trivial | (simp; done) | (simp; omega)) (by rw [← hr] <;> first | rfl | (simp [nullV]; done) | (simp_all [nullV]; done)) (by simp [ends])
  refine bcase_intro (fun h14 => ?_) fun h14 => ?_
  · have e : op = 14 := by simpa using h14
    subst e
    have hl : 2 ≤ l.length := len2 (by simpa [kidsR] using hk)
    refine ⟨by omega, by omega, ?_⟩
    refine callq [[0, 0, 0], [0, 0, 0]] [] (c_equal (l.getD 0 default) (l.getD 1 default)) ?_
    simp -implicitDefEqProofs only [tabN, aV, ↓steps, push_cast, simprocAttr, tte]
    refine ⟨drawx_intro (by kernel_rfl), ?_⟩
    exact ret_v (by first | trivial | (simp; done) | (simp; omega)) (by rw [← hr] <;> first | rfl | (simp [applyM]; done) | (simp_all [applyM]; done)) (by simp [ends])
  refine bcase_intro (fun h15 => ?_) fun h15 => ?_
  · have e : op = 15 := by simpa using h15
    subst e
    have hl : 2 ≤ l.length := len2 (by simpa [kidsR] using hk)
    refine ⟨by omega, by omega, ?_⟩
    refine callq [[0, 0, 0], [0, 0, 0]] [] (c_equal (l.getD 0 default) (l.getD 1 default)) ?_
    simp -implicitDefEqProofs only [tabN, aV, ↓steps, push_cast, simprocAttr, tte]
    refine callq [[0, 0, 0]] [] (c_not (equalM (l.getD 0 default) (l.getD 1 default))) ?_
    simp -implicitDefEqProofs only [tabN, aV, ↓steps, push_cast, simprocAttr, tte]
    refine ⟨drawx_intro (by kernel_rfl), ?_⟩
    exact ret_v (by first | trivial | (simp; done) | (simp; omega)) (by rw [← hr] <;> first | rfl | (simp [applyM]; done) | (simp_all [applyM]; done)) (by simp [ends])
  refine bcase_intro (fun h16 => ?_) fun h16 => ?_
  · have e : op = 16 := by simpa using h16
    subst e
    have hl : 2 ≤ l.length := len2 (by simpa [kidsR] using hk)
    refine ⟨by omega, by omega, ?_⟩
    refine callq [[0, 0, 0], [0, 0, 0]] [] (c_less (l.getD 0 default) (l.getD 1 default)) ?_
    simp -implicitDefEqProofs only [tabN, aV, ↓steps, push_cast, simprocAttr, tte]
    refine ⟨drawx_intro (by kernel_rfl), ?_⟩
    exact ret_v (by first | trivial | (simp; done) | (simp; omega)) (by rw [← hr] <;> first | rfl | (simp [applyM]; done) | (simp_all [applyM]; done)) (by simp [ends])
  refine bcase_intro (fun h17 => ?_) fun h17 => ?_
  · have e : op = 17 := by simpa using h17
    subst e
    have hl : 2 ≤ l.length := len2 (by simpa [kidsR] using hk)
    refine ⟨by omega, by omega, ?_⟩
    refine callq [[0, 0, 0], [0, 0, 0]] [] (c_less (l.getD 1 default) (l.getD 0 default)) ?_
    simp -implicitDefEqProofs only [tabN, aV, ↓steps, push_cast, simprocAttr, tte]
    refine callq [[0, 0, 0]] [] (c_not (lessM (l.getD 1 default) (l.getD 0 default))) ?_
    simp -implicitDefEqProofs only [tabN, aV, ↓steps, push_cast, simprocAttr, tte]
    refine ⟨drawx_intro (by kernel_rfl), ?_⟩
    exact ret_v (by first | trivial | (simp; done) | (simp; omega)) (by rw [← hr] <;> first | rfl | (simp [applyM]; done) | (simp_all [applyM]; done)) (by simp [ends])
  refine bcase_intro (fun h18 => ?_) fun h18 => ?_
  · have e : op = 18 := by simpa using h18
    subst e
    have hl : 2 ≤ l.length := len2 (by simpa [kidsR] using hk)
    refine ⟨by omega, by omega, ?_⟩
    refine callq [[0, 0, 0], [0, 0, 0]] [] (c_less (l.getD 1 default) (l.getD 0 default)) ?_
    simp -implicitDefEqProofs only [tabN, aV, ↓steps, push_cast, simprocAttr, tte]
    refine ⟨drawx_intro (by kernel_rfl), ?_⟩
    exact ret_v (by first | trivial | (simp; done) | (simp; omega)) (by rw [← hr] <;> first | rfl | (simp [applyM]; done) | (simp_all [applyM]; done)) (by simp [ends])
  refine bcase_intro (fun h19 => ?_) fun h19 => ?_
  · have e : op = 19 := by simpa using h19
    subst e
    have hl : 2 ≤ l.length := len2 (by simpa [kidsR] using hk)
    refine ⟨by omega, by omega, ?_⟩
    refine callq [[0, 0, 0], [0, 0, 0]] [] (c_less (l.getD 0 default) (l.getD 1 default)) ?_
    simp -implicitDefEqProofs only [tabN, aV, ↓steps, push_cast, simprocAttr, tte]
    refine callq [[0, 0, 0]] [] (c_not (lessM (l.getD 0 default) (l.getD 1 default))) ?_
    simp -implicitDefEqProofs only [tabN, aV, ↓steps, push_cast, simprocAttr, tte]
    refine ⟨drawx_intro (by kernel_rfl), ?_⟩
    exact ret_v (by first | trivial | (simp; done) | (simp; omega)) (by rw [← hr] <;> first | rfl | (simp [applyM]; done) | (simp_all [applyM]; done)) (by simp [ends])
  refine bcase_intro (fun h20 => ?_) fun h20 => ?_
  · have e : op = 20 := by simpa using h20
    subst e
    have hl : 2 ≤ l.length := len2 (by simpa [kidsR] using hk)
    refine ⟨by omega, by omega, ?_⟩
    refine callq [[0, 0, 0], [0, 0, 0]] [] (c_same (l.getD 0 default) (l.getD 1 default)) ?_
    simp -implicitDefEqProofs only [tabN, aV, ↓steps, push_cast, simprocAttr, tte]
    refine callq [[0]] [] (c_etruth (sameM (l.getD 0 default) (l.getD 1 default))) ?_
    simp -implicitDefEqProofs only [tabN, aV, ↓steps, push_cast, simprocAttr, tte]
    refine ⟨drawx_intro (by kernel_rfl), ?_⟩
    exact ret_v (by first | trivial | (simp; done) | (simp; omega)) (by rw [← hr] <;> first | rfl | (simp [applyM]; done) | (simp_all [applyM]; done)) (by simp [ends])
  refine bcase_intro (fun h21 => ?_) fun h21 => ?_
  · have e : op = 21 := by simpa using h21
    subst e
    have hl : 1 ≤ l.length := len1 (by simpa [kidsR] using hk)
    refine ⟨by omega, ?_⟩
    refine callq [[0]] [] (c_etruth ((l.getD 0 default).kind == 0)) ?_
    simp -implicitDefEqProofs only [tabN, aV, ↓steps, push_cast, simprocAttr, tte]
    exact ret_v (by first | trivial | (simp; done) | (simp; omega)) (by rw [← hr] <;> first | rfl | (simp [applyM]; done) | (simp_all [applyM]; done)) (by simp [ends])
  refine bcase_intro (fun h22 => ?_) fun h22 => ?_
  · have e : op = 22 := by simpa using h22
    subst e
    have hl : 2 ≤ l.length := len2 (by simpa [kidsR] using hk)
    refine ⟨by omega, by omega, ?_⟩
    refine callq [[0, 0, 0], [0, 0, 0]] [] (c_and (l.getD 0 default) (l.getD 1 default)) ?_
    simp -implicitDefEqProofs only [tabN, aV, ↓steps, push_cast, simprocAttr, tte]
    refine ⟨drawx_intro (by kernel_rfl), ?_⟩
    exact ret_v (by first | trivial | (simp; done) | (simp; omega)) (by rw [← hr] <;> first | rfl | (simp [applyM]; done) | (simp_all [applyM]; done)) (by simp [ends])
  refine bcase_intro (fun h23 => ?_) fun h23 => ?_
  · have e : op = 23 := by simpa using h23
    subst e
    have hl : 2 ≤ l.length := len2 (by simpa [kidsR] using hk)
    refine ⟨by omega, by omega, ?_⟩
    refine callq [[0, 0, 0], [0, 0, 0]] [] (c_or2 (l.getD 0 default) (l.getD 1 default)) ?_
    simp -implicitDefEqProofs only [tabN, aV, ↓steps, push_cast, simprocAttr, tte]
    refine ⟨drawx_intro (by kernel_rfl), ?_⟩
    exact ret_v (by first | trivial | (simp; done) | (simp; omega)) (by rw [← hr] <;> first | rfl | (simp [applyM]; done) | (simp_all [applyM]; done)) (by simp [ends])
  refine bcase_intro (fun h24 => ?_) fun h24 => ?_
  · have e : op = 24 := by simpa using h24
    subst e
    have hl : 1 ≤ l.length := len1 (by simpa [kidsR] using hk)
    refine ⟨by omega, ?_⟩
    refine callq [[0, 0, 0]] [] (c_not (l.getD 0 default)) ?_
    simp -implicitDefEqProofs only [tabN, aV, ↓steps, push_cast, simprocAttr, tte]
    exact ret_v (by first | trivial | (simp; done) | (simp; omega)) (by rw [← hr] <;> first | rfl | (simp [applyM]; done) | (simp_all [applyM]; done)) (by simp [ends])
  refine bcase_intro (fun h25 => ?_) fun h25 => ?_
  · have e : op = 25 := by simpa using h25
    subst e
    have hl : 1 ≤ l.length := len1 (by simpa [kidsR] using hk)
    refine ⟨by omega, ?_⟩
    refine callq [[0, 0, 0]] [] (c_Truth (l.getD 0 default)) ?_
    simp -implicitDefEqProofs only [tabN, aV, ↓steps, push_cast, simprocAttr, tte]
    refine callq [[0]] [] (c_etruth (truthM (l.getD 0 default) == 1)) ?_
    simp -implicitDefEqProofs only [tabN, aV, ↓steps, push_cast, simprocAttr, tte]
    exact ret_v (by first | trivial | (simp; done) | (simp; omega)) (by rw [← hr] <;> first | rfl | (simp [applyM]; done) | (simp_all [applyM]; done)) (by simp [ends])
  refine bcase_intro (fun h27 => ?_) fun h27 => ?_
  · have e : op = 27 := by simpa using h27
    subst e
    have hl : 2 ≤ l.length := len2 (by simpa [kidsR] using hk)
    refine ⟨by omega, ?_⟩
    refine bcase_intro (fun g => ?_) fun g => ?_
    · refine ⟨by omega, ?_⟩
      have g1 : (l.getD 0 default).kind = 0 := by simpa using g
      have hM : applyM 27 l = (l.getD 1 default) := if_pos g1
      rw [hM] at hr
      exact ret_v (by first | trivial | (simp; done) | (simp; omega)) (by rw [← hr] <;> first | rfl | (simp [applyM]; done) | (simp_all [applyM]; done)) (by simp [ends])
    · refine ⟨by omega, ?_⟩
      have g1 : ¬ (l.getD 0 default).kind = 0 := by simpa using g
      have hM : applyM 27 l = (l.getD 0 default) := if_neg g1
      rw [hM] at hr
      exact ret_v (by first | trivial | (simp; done) | (simp; omega)) (by rw [← hr] <;> first | rfl | (simp [applyM]; done) | (simp_all [applyM]; done)) (by simp [ends])
  refine bcase_intro (fun h28 => ?_) fun h28 => ?_
  · have e : op = 28 := by simpa using h28
    subst e
    have hl : 2 ≤ l.length := by have : (l.length : Int) ≥ 2 := by simpa [kidsR] using hk
                                 omega
    refine callq [[0]] [] (c_bool0) ?_
    simp -implicitDefEqProofs only [tabN, aV, ↓steps, push_cast, simprocAttr, tte]
    refine ⟨by omega, ?_⟩
    have hM : applyM 28 l = inM (l.getD 0 default) (ofV false) (l.drop 1) := rfl
    rw [hM] at hr
    have hdl : (l.drop 1).length ≤ 1000 := by simp; omega
    simp only [List.take_length]
    generalize l.drop 1 = r at hr hdl ⊢
    have hsn : ∀ n, n < r.length → inM (l.getD 0 default) (ofV false) (r.take (n + 1)) = orM (inM (l.getD 0 default) (ofV false) (r.take n)) (equalM (l.getD 0 default) (r.getD n default)) := fun n h => by
      rw [take_snoc _ _ h, inM_snoc]
    generalize hv0 : l.getD 0 default = v0 at hr hsn
    generalize ha : (fun n : Nat => inM v0 (ofV false) (r.take n)) = acc
    have ha0 : acc 0 = ofV false := by rw [← ha]; rfl
    have hsn : ∀ n, n < r.length → acc (n + 1) = orM (acc n) (equalM v0 (r.getD n default)) := fun n h => by rw [← ha]; exact hsn n h
    have haN : acc r.length = inM v0 (ofV false) r := by rw [← ha]; simp
    rw [← haN] at hr
    refine loop_count mixed ttok 170 [1, 4, 5, 168, 169] [4] (by simp only [pickT, ends, push_cast, simprocAttr]; rfl) (by simp only [pickO, consO_some, ends, push_cast, simprocAttr]; rfl) r.length (fun _ => True) (fun _ => []) (fun n => [(5, .var [.d (.lit (.int .i64 (acc n).kind)), .d (.lit (.int .i64 (acc n).num)), .d (.lit (.string (acc n).text))])]) trivial ?_ ?_
    · exact Weak.keepL (by simp [cst, ha0, ends]) (by simp [cst, ha0, ends]) (by simp [cst, ha0, ends])
    intro I hI n hn hi
    simp -implicitDefEqProofs only [cst, ↓steps, push_cast, simprocAttr, tte]
    refine bcase_intro (fun h => ?_) fun h => ?_
    · simp only [decide_eq_true_eq] at h
      have h' : n < r.length := by omega
      have hw := wrap_succ h' (by omega)
      refine ⟨(by first | omega | trivial | (refine ⟨?_, ?_⟩ <;> first | omega | trivial | (refine ⟨?_, ?_⟩ <;> first | omega | trivial | (refine ⟨?_, ?_⟩ <;> first | omega | trivial | rfl)))), by omega, ?_⟩
      rw [hv0]
      refine callq [[0, 0, 0], [0, 0, 0]] [] (c_equal v0 (r.getD n default)) ?_
      simp -implicitDefEqProofs only [tabN, aV, ↓steps, push_cast, simprocAttr, tte]
      refine callq [[0, 0, 0], [0, 0, 0]] [] (c_or2 (acc n) (equalM v0 (r.getD n default))) ?_
      simp -implicitDefEqProofs only [tabN, aV, ↓steps, push_cast, simprocAttr, tte]
      refine ⟨drawx_intro (by kernel_rfl), ?_⟩
      rw [← hsn n h']
      exact cnt_again hI n rfl h' trivial (by simp [hw, ends]) (by simp [hw, ends]) (by simp [hw, ends]) (by simp [hw, ends])
    · have hn' : n = r.length := by simp at h; omega
      subst hn'
      exact ret_v (by first | trivial | (simp; done) | (simp; omega)) (by rw [← hr] <;> first | rfl | (simp [nullV]; done) | (simp_all [nullV]; done)) (by simp [ends])
  · have hM : applyM op l = nullV := by
      simp only [beq_eq_false_iff_ne, ne_eq] at h6 h7 h8 h9 h10 h11 h12 h13 h14 h15 h16 h17 h18 h19 h20 h21 h22 h23 h24 h25 h27 h28
      simp only [applyM, *, or_self, if_false]
    rw [hM] at hr
    exact ret_v (by first | trivial | (simp; done) | (simp; omega)) (by rw [← hr] <;> first | rfl | (simp [nullV]; done) | (simp_all [nullV]; done)) (by simp [ends])
end Go.Proofs.YtampbaaiddbacaaGreatDoor
namespace Go.Proofs.YtampbaaiddbacaaGreatDoor
open Go.Am
attribute [local simp, local push_cast] num boo str ints aV aTab aInst aS aT aC aRow aOp
set_option linter.unusedVariables false
set_option maxRecDepth 100000
set_option maxHeartbeats 4000000
/-- The value of an expression whose operands have values. -/
def evalK (row : List Val) (e : Ex) (vs : List Val) : Val :=
  if countM e = false then nullV
  else if e.op = 2 then ⟨1, e.num, ByteArray.empty⟩ else if e.op = 3 then ⟨2, e.num, ByteArray.empty⟩ else if e.op = 4 then ⟨3, 0, e.text⟩
  else if e.op = 5 then (if 0 ≤ e.col ∧ e.col < row.length then row.getD e.col.toNat default else nullV)
  else if e.op = 26 then (if truthM (vs.getD 0 default) = 1 then vs.getD 1 default else vs.getD 2 default)
  else applyM e.op vs
mutual
def evalM (row : List Val) : Ex → Val
  | .mk a b c d g ks => evalK row (.mk a b c d g ks) (evalL row ks)
def evalL (row : List Val) : List Ex → List Val
  | [] => []
  | e :: l => evalM row e :: evalL row l
end
theorem evalL_eq (row : List Val) : ∀ l, evalL row l = l.map (evalM row)
  | [] => rfl
  | e :: l => by rw [evalL, evalL_eq row l]; rfl
theorem evalM_eq (row : List Val) (e : Ex) : evalM row e = evalK row e (e.kids.map (evalM row)) := by cases e; rw [evalM, evalL_eq]; rfl
def valsTo (row : List Val) (e : Ex) (n : Nat) : List Val := (e.kids.take n).map (evalM row)
theorem valsTo_succ (row : List Val) (e : Ex) (n : Nat) (h : n < e.kids.length) : valsTo row e (n + 1) = valsTo row e n ++ [evalM row (e.kids.getD n default)] := by
  rw [valsTo, take_snoc _ _ h, List.map_append]; rfl
theorem valsTo_length (row : List Val) (e : Ex) (n : Nat) (h : n ≤ e.kids.length) : (valsTo row e n).length = n := by simp [valsTo]; omega
theorem kids_op {e : Ex} (h : countM e = true) : kidsR e.op e.kids.length = true := by
  have : isOp e.op = true := by simp only [countM, Bool.and_eq_true] at h; exact h.1
  rw [kids_count this]; exact h
theorem getD_map {α β : Type} [Inhabited α] [Inhabited β] (f : α → β) (l : List α) (n : Nat) (h : n < l.length) : (l.map f).getD n default = f (l.getD n default) := by
  simp [List.getD_eq_getElem?_getD, h]
theorem c_eval (row : List Val) : ∀ e : Ex, Ok12 e → ACall Tryz.prog 171 [aE e, aRow row] [] (aV (evalM row e)) [] :=
  ex_ind (p := fun e => Ok12 e → ACall Tryz.prog 171 [aE e, aRow row] [] (aV (evalM row e)) []) fun e ih ho => by
  refine enterq mixed ttok Tryz.func171 Tryz.ntmps171 Tryz.results171 ?_
  generalize hr : aV (evalM row e) = R
  have hl := ho.kids
  rw [evalM_eq] at hr
  unfold evalK at hr
  simp -implicitDefEqProofs only [argT, tabN, ↓steps, push_cast, simprocAttr, tte]
  refine callq [[0, 0, 0, 0, 0, 6]] [] (c_known e) ?_
  simp -implicitDefEqProofs only [tabN, aOp, ↓steps, push_cast, simprocAttr, tte]
  refine bcase_intro (fun hc => ?_) fun hc => ?_
  · rw [if_pos (by simpa using hc)] at hr
    exact ret_v (by first | trivial | (simp; done) | (simp; omega)) (by rw [← hr] <;> first | rfl | (simp [nullV]; done) | (simp_all [nullV]; done)) (by simp [ends])
  have hc' : countM e = true := by simpa using hc
  rw [if_neg (by rw [hc']; decide)] at hr
  have hkk := kids_op hc'
  refine bcase_intro (fun h2 => ?_) fun h2 => ?_
  · rw [if_pos (by simpa using h2)] at hr
    exact ret_v (by first | trivial | (simp; done) | (simp; omega)) (by rw [← hr] <;> first | rfl | (simp [nullV]; done) | (simp_all [nullV]; done)) (by simp [ends])
  rw [if_neg (by simpa using h2)] at hr
  refine bcase_intro (fun h3 => ?_) fun h3 => ?_
  · rw [if_pos (by simpa using h3)] at hr
    exact ret_v (by first | trivial | (simp; done) | (simp; omega)) (by rw [← hr] <;> first | rfl | (simp [nullV]; done) | (simp_all [nullV]; done)) (by simp [ends])
  rw [if_neg (by simpa using h3)] at hr
  refine bcase_intro (fun h4 => ?_) fun h4 => ?_
  · rw [if_pos (by simpa using h4)] at hr
    exact ret_v (by first | trivial | (simp; done) | (simp; omega)) (by rw [← hr] <;> first | rfl | (simp [nullV]; done) | (simp_all [nullV]; done)) (by simp [ends])
  rw [if_neg (by simpa using h4)] at hr
  refine bcase_intro (fun h5 => ?_) fun h5 => ?_
  · rw [if_pos (by simpa using h5)] at hr
    refine bcase_intro (fun g1 => ?_) fun g1 => ?_
    · simp only [ge_iff_le, decide_eq_true_eq] at g1
      refine bcase_intro (fun g2 => ?_) fun g2 => ?_
      · simp only [decide_eq_true_eq] at g2
        rw [if_pos ⟨g1, g2⟩] at hr
        refine ⟨⟨g1, g2⟩, ?_⟩
        exact ret_v (by first | trivial | (simp; done) | (simp; omega)) (by rw [← hr] <;> first | rfl | (simp [nullV]; done) | (simp_all [nullV]; done)) (by simp [ends])
      · simp only [decide_eq_false_iff_not] at g2
        rw [if_neg (fun h => g2 h.2)] at hr
        exact ret_v (by first | trivial | (simp; done) | (simp; omega)) (by rw [← hr] <;> first | rfl | (simp [nullV]; done) | (simp_all [nullV]; done)) (by simp [ends])
    · simp only [ge_iff_le, decide_eq_false_iff_not] at g1
      rw [if_neg (fun h => g1 h.1)] at hr
      exact ret_v (by first | trivial | (simp; done) | (simp; omega)) (by rw [← hr] <;> first | rfl | (simp [nullV]; done) | (simp_all [nullV]; done)) (by simp [ends])
  rw [if_neg (by simpa using h5)] at hr
  refine bcase_intro (fun h26 => ?_) fun h26 => ?_
  · have e26 : e.op = 26 := by simpa using h26
    rw [if_pos e26] at hr
    have hl3 : e.kids.length = 3 := by
      rw [e26] at hkk
      have : (e.kids.length : Int) = 3 := by simpa [kidsR] using hkk
      omega
    rw [getD_map _ _ _ (by omega), getD_map _ _ _ (by omega), getD_map _ _ _ (by omega)] at hr
    have hg : ∀ n, n < 3 → e.kids.getD n default ∈ e.kids := fun n h => getD_mem (by omega)
    refine ⟨by omega, ?_⟩
    refine callq [[0, 0, 0, 0, 0, 6], [3]] [] (ih _ (hg 0 (by omega)) (ho.kid (hg 0 (by omega)))) ?_
    simp -implicitDefEqProofs only [tabN, aV, ↓steps, push_cast, simprocAttr, tte]
    refine callq [[0, 0, 0]] [] (c_Truth (evalM row (e.kids.getD 0 default))) ?_
    simp -implicitDefEqProofs only [tabN, aV, ↓steps, push_cast, simprocAttr, tte]
    refine bcase_intro (fun g => ?_) fun g => ?_
    · rw [if_pos (by simpa using g)] at hr
      refine ⟨by omega, ?_⟩
      refine callq [[0, 0, 0, 0, 0, 6], [3]] [] (ih _ (hg 1 (by omega)) (ho.kid (hg 1 (by omega)))) ?_
      simp -implicitDefEqProofs only [tabN, aV, ↓steps, push_cast, simprocAttr, tte]
      exact ret_v (by first | trivial | (simp; done) | (simp; omega)) (by rw [← hr] <;> first | rfl | (simp [nullV]; done) | (simp_all [nullV]; done)) (by simp [ends])
    · rw [if_neg (by simpa using g)] at hr
      refine ⟨by omega, ?_⟩
      refine callq [[0, 0, 0, 0, 0, 6], [3]] [] (ih _ (hg 2 (by omega)) (ho.kid (hg 2 (by omega)))) ?_
      simp -implicitDefEqProofs only [tabN, aV, ↓steps, push_cast, simprocAttr, tte]
      exact ret_v (by first | trivial | (simp; done) | (simp; omega)) (by rw [← hr] <;> first | rfl | (simp [nullV]; done) | (simp_all [nullV]; done)) (by simp [ends])
  rw [if_neg (by simpa using h26)] at hr
  refine loop_count mixed ttok 80 [1, 2, 4, 78, 79] [2, 4] (by simp only [pickT, ends, push_cast, simprocAttr]; rfl) (by simp only [pickO, consO_some, ends, push_cast, simprocAttr]; rfl) e.kids.length (fun _ => True) (fun n => [(8, .vec 500 n)]) (fun n => [(500, .vec 45 3 (rowsOf rV (valsTo row e n)) 0)]) trivial ?_ ?_
  · exact (Weak.nilL 8 500 45 3 rfl rfl).trans (Weak.keepL (by simp [cst, ends]) (by simp [cst, valsTo, ends]) (by simp [cst, ends]))
  intro I hI n hn hi
  have hl2 := valsTo_length row e n hn
  simp -implicitDefEqProofs only [cst, ↓steps, push_cast, simprocAttr, tte]
  refine bcase_intro (fun h => ?_) fun h => ?_
  · simp only [decide_eq_true_eq] at h
    have h' : n < e.kids.length := by omega
    have hw := wrap_succ h' (by omega)
    have hs := valsTo_succ row e n h'
    refine ⟨(by first | omega | trivial | (refine ⟨?_, ?_⟩ <;> first | omega | trivial | (refine ⟨?_, ?_⟩ <;> first | omega | trivial | (refine ⟨?_, ?_⟩ <;> first | omega | trivial | rfl)))), ?_⟩
    refine callq [[0, 0, 0, 0, 0, 6], [3]] [] (ih _ (getD_mem h') (ho.kid (getD_mem h'))) ?_
    simp -implicitDefEqProofs only [tabN, aV, ↓steps, push_cast, simprocAttr, tte]
    refine ⟨⟨hl2.symm, by rw [hl2]; omega⟩, ?_⟩
    exact cnt_again hI n rfl h' trivial (by simp [hw, hs, hl2, rowsOf_append, rV, ends]) (by simp [hw, hs, hl2, rowsOf_append, rV, ends]) (by simp [hw, hs, hl2, rowsOf_append, rV, ends]) (by simp [hw, hs, hl2, rowsOf_append, rV, ends])
  simp only [decide_eq_false_iff_not] at h
  obtain rfl : n = e.kids.length := by omega
  clear hI
  have hT : valsTo row e e.kids.length = e.kids.map (evalM row) := by rw [valsTo, List.take_length]
  rw [← hT] at hr
  rw [← hl2] at hkk hl
  generalize valsTo row e e.kids.length = l at hl2 hr hkk hl ⊢
  refine callq [[0], [3]] [] (c_apply e.op l hkk (by omega)) ?_
  simp -implicitDefEqProofs only [tabN, aV, ↓steps, push_cast, simprocAttr, tte]
  exact ret_v (by first | trivial | (simp; done) | (simp; omega)) (by rw [← hr] <;> first | rfl | (simp [nullV]; done) | (simp_all [nullV]; done)) (by simp [ends])
end Go.Proofs.YtampbaaiddbacaaGreatDoor
namespace Go.Proofs.YtampbaaiddbacaaGreatDoor
open Go.Am
attribute [local simp, local push_cast] num boo str ints aV aTab aInst aS aT aC aRow aOp
set_option linter.unusedVariables false
set_option maxRecDepth 100000
set_option maxHeartbeats 4000000
end Go.Proofs.YtampbaaiddbacaaGreatDoor
namespace Go.Proofs.YtampbaaiddbacaaGreatDoor
open Go.Am
attribute [local simp, local push_cast] num boo str ints aV aTab aInst aS aT aC aRow rRow
set_option linter.unusedVariables false
set_option maxRecDepth 100000
set_option maxHeartbeats 4000000
end Go.Proofs.YtampbaaiddbacaaGreatDoor
