/- Histories and their anomalies (part Wa) -/
import Derived.Test.YthknpcpddlaapaaW0
set_option linter.all false
namespace Go.Proofs.Ythknpcpddlaapaa
open Go.Am
attribute [local simp, local push_cast] num boo str ints
set_option linter.unusedVariables false
set_option maxRecDepth 100000
set_option maxHeartbeats 4000000
/-! Histories as data; the small functions. -/
def rEv (x : Hv) : List D := [.lit (.int .i64 x.kind), .lit (.int .i64 x.tx), .lit (.int .i64 x.key), .lit (.int .i64 x.value), .lit (.int .i64 x.frm)]
def aEv (x : Hv) : A := .agg [num x.kind, num x.tx, num x.key, num x.value, num x.frm]
def rTk (x : Tk) : List D := [.lit (.int .i64 x.by'), .lit (.int .i64 x.key), .lit (.int .i64 x.frm)]
def aTk (x : Tk) : A := .agg [num x.by', num x.key, num x.frm]
def rEg (x : Eg) : List D := [.lit (.int .i64 x.frm), .lit (.int .i64 x.to), .lit (.int .i64 x.kind), .lit (.int .i64 x.key)]
def aEg (x : Eg) : A := .agg [num x.frm, num x.to, num x.kind, num x.key]
def aH (start : List Int) (evs : List Hv) : A := .agg [ints start, .d (.sl 5 (rowsOf rEv evs))]
def vEv (x : Hv) : Ob := .var [num x.kind, num x.tx, num x.key, num x.value, num x.frm]
theorem rEvD (x : Hv) : rEv x = [.lit (.int .i64 x.kind), .lit (.int .i64 x.tx), .lit (.int .i64 x.key), .lit (.int .i64 x.value), .lit (.int .i64 x.frm)] := rfl
attribute [local simp, local push_cast] rEv aEv rEvD rTk aTk rEg aEg aH vEv
theorem ret_dO {p : Prop} {x : D} {t : List (Nat × A)} {o : List (Nat × Ob)} {R : A} {os' : List (Nat × Ob)} (hp : p) (hr : A.d x = R) (ho : keepO (lookO o) (inO os') os') (hin : keepIn (inO os') o) : retx (some (p, A.d x)) ⟨t, o⟩ R os' := by
  subst hr
  exact retx_of [] rfl hp trivial rfl rfl ho hin
theorem c_ended (x : Hv) : ACall Try.prog 43 [aEv x] [] (boo (endedM x)) [] := by
  refine enterq mixed ttok Try.func43 Try.ntmps43 Try.results43 ?_
  generalize hr : boo (endedM x) = R
  unfold endedM at hr
  simp -implicitDefEqProofs only [argT, ↓steps, push_cast, simprocAttr, tte]
  (repeat' refine bcase_intro (fun _ => ?_) fun _ => ?_) <;> exact ret_dO trivial (by rw [← hr]; clear hr; first | rfl | (simp_all []; done) | (simp [] at *; simp_all)) (by simp [ends]) (by simp [ends])
def hitR (x w : Hv) : Bool := ownOf x.frm x.key w && (w.value == x.value)
theorem c_reads1 (w x : Hv) : ACall Try.prog 71 [aEv w, .ptr 1000 0] [(1000, vEv x)] (boo (hitR x w)) [(1000, vEv x)] := by
  refine enterq mixed ttok Try.func71 Try.ntmps71 Try.results71 ?_
  generalize hr : boo (hitR x w) = R
  unfold hitR ownOf wrKey at hr
  simp -implicitDefEqProofs only [argT, vEv, ↓steps, push_cast, simprocAttr, tte]
  (repeat' refine bcase_intro (fun _ => ?_) fun _ => ?_) <;> exact ret_dO trivial (by rw [← hr]; clear hr; first | rfl | (simp_all []; done) | (simp [] at *; simp_all)) (by simp [ends]) (by simp [ends])
theorem c_idxR (l : List Hv) (x : Hv) (hl : l.length ≤ 1000000) :
    ACall Try.prog 85 [.d (.sl 5 (rowsOf rEv l)), .clo 71 [.ptr 1000 0]] [(1000, vEv x)] (num (fidx (hitR x) l)) [(1000, vEv x)] := by
  refine enterq mixed ttok Try.func85 Try.ntmps85 Try.results85 ?_
  generalize hr : num (fidx (hitR x) l) = R
  simp -implicitDefEqProofs only [argT, ↓steps, push_cast, simprocAttr, tte]
  refine loop_gen mixed ttok (fun n : Nat => (⟨[(8, .d (.lit (.int .i64 n))), (7, .d (.lit (.int .i64 l.length))), (0, .d (.sl 5 (rowsOf rEv l))), (1, .clo 71 [.ptr 1000 0])], [(1000, vEv x)]⟩ : SL)) (fun n => l.length - n) (fun n => n ≤ l.length ∧ ∀ i, i < n → hitR x (l.getD i default) = false) 0 ⟨Nat.zero_le _, fun i h => absurd h (Nat.not_lt_zero _)⟩ ?_ ?_
  · exact Weak.keepL (by simp [ends]) (by simp [ends]) (by simp [ends])
  intro I hI n ⟨hn, hi⟩
  simp -implicitDefEqProofs only [↓steps, push_cast, simprocAttr, tte]
  refine bcase_intro (fun h => ?_) fun h => ?_
  · simp only [decide_eq_true_eq] at h
    have h' : n < l.length := by omega
    have hw := wrap_succ h' (by omega)
    refine ⟨⟨by omega, h⟩, ?_⟩
    refine callq [[0, 0, 0, 0, 0], []] [(1000, 1000)] (c_reads1 (l.getD n default) x) ?_
    simp -implicitDefEqProofs only [↓steps, push_cast, simprocAttr, tte]
    refine bcase_intro (fun g => ?_) fun g => ?_
    · exact ret_dO trivial (by rw [← hr, fidx_at (hitR x) l n h' hi g]; rfl) (by simp [ends]) (by simp [ends])
    · exact gen_again hI (n + 1) ⟨by omega, fun i h2 => if h3 : i = n then by rw [h3]; exact g else hi i (by omega)⟩ (by show l.length - (n + 1) < l.length - n; omega) (Weak.keepL (by simp [hw, ends]) (by simp [ends]) (by simp [ends]))
  · simp only [decide_eq_false_iff_not] at h
    obtain rfl : n = l.length := by omega
    exact ret_dO trivial (by rw [← hr, fidx_none (hitR x) l hi]; rfl) (by simp [ends]) (by simp [ends])
theorem c_conR (l : List Hv) (x : Hv) (hl : l.length ≤ 1000000) :
    ACall Try.prog 70 [.d (.sl 5 (rowsOf rEv l)), .clo 71 [.ptr 1000 0]] [(1000, vEv x)] (boo (l.any (hitR x))) [(1000, vEv x)] := by
  refine enterq mixed ttok Try.func70 Try.ntmps70 Try.results70 ?_
  generalize hr : boo (l.any (hitR x)) = R
  simp -implicitDefEqProofs only [argT, ↓steps, push_cast, simprocAttr, tte]
  refine callq [[5], []] [(1000, 1000)] (c_idxR l x hl) ?_
  simp -implicitDefEqProofs only [↓steps, push_cast, simprocAttr, tte]
  have h : decide (fidx (hitR x) l ≥ 0) = l.any (hitR x) := by
    rw [Bool.eq_iff_iff, decide_eq_true_eq]
    cases q : l.any (hitR x) with
    | false => have := (fidx_neg (hitR x) l).2 q; simp; omega
    | true => have : ¬ fidx (hitR x) l < 0 := fun z => absurd ((fidx_neg (hitR x) l).1 z) (by rw [q]; decide)
              simp; omega
  exact ret_dO trivial (by rw [← hr, ← h]; rfl) (by simp [ends]) (by simp [ends])
end Go.Proofs.Ythknpcpddlaapaa
namespace Go.Proofs.Ythknpcpddlaapaa
open Go.Am
attribute [local simp, local push_cast] num boo str ints rEv aEv rTk aTk rEg aEg aH vEv
set_option linter.unusedVariables false
set_option maxRecDepth 100000
set_option maxHeartbeats 4000000
/-! Validity. -/
theorem rev_find {p : Hv → Bool} {l : List Hv} : ∀ k, k ≤ l.length → (∀ j, k ≤ j → j < l.length → p (l.getD j default) = false) → l.reverse.find? p = (l.take k).reverse.find? p := by
  intro k hk h
  have e : l = l.take k ++ l.drop k := (List.take_append_drop k l).symm
  have h2 : (l.drop k).reverse.find? p = none := List.find?_eq_none.2 fun y hy => by
    rw [List.mem_reverse] at hy
    obtain ⟨j, hj, rfl⟩ := List.getElem_of_mem hy
    rw [List.length_drop] at hj
    have := h (k + j) (by omega) (by omega)
    rw [List.getD_eq_getElem?_getD, List.getElem?_eq_getElem (by omega)] at this
    rw [List.getElem_drop]
    simpa using this
  conv => lhs; rw [e, List.reverse_append, List.find?_append, h2]
  simp
theorem rev_hit {p : Hv → Bool} {l : List Hv} {k : Nat} (hk : k < l.length) (h : ∀ j, k < j → j < l.length → p (l.getD j default) = false) (hp : p (l.getD k default) = true) : l.reverse.find? p = some (l.getD k default) := by
  rw [rev_find (k + 1) (by omega) fun j h1 h2 => h j (by omega) h2, take_snoc l k hk, List.reverse_append, List.reverse_singleton, List.singleton_append, List.find?_cons_of_pos hp]
theorem rev_none {p : Hv → Bool} {l : List Hv} (h : ∀ j, j < l.length → p (l.getD j default) = false) : l.reverse.find? p = none := by
  rw [rev_find 0 (Nat.zero_le _) fun j _ h2 => h j h2]; rfl
theorem c_reads (start : List Int) (evs before : List Hv) (x : Hv) (hl : before.length ≤ 1000000) (h0 : 0 ≤ x.key) (h1 : x.key < start.length) :
    ACall Try.prog 44 [aH start evs, .d (.sl 5 (rowsOf rEv before)), aEv x] [] (boo (readsM start before x)) [] := by
  refine enterq mixed ttok Try.func44 Try.ntmps44 Try.results44 ?_
  generalize hr : boo (readsM start before x) = R
  have hw0 : IntKind.i64.wrap ((before.length : Int) - 1) = (before.length : Int) - 1 := wrap_eq (by omega) (by omega)
  simp -implicitDefEqProofs only [argT, hw0, ↓steps, push_cast, simprocAttr, tte]
  refine loop_gen mixed ttok (fun n : Nat => (⟨[(7, .d (.lit (.int .i64 ((n : Int) - 1)))), (5, .ptr 5 0), (3, .ptr 3 0), (1, .d (.sl 5 (rowsOf rEv before)))], [(5, vEv x), (3, .var [ints start, .d (.sl 5 (rowsOf rEv evs))])]⟩ : SL)) (fun n => n) (fun n => n ≤ before.length ∧ ∀ j, n ≤ j → j < before.length → ownOf x.tx x.key (before.getD j default) = false) before.length ⟨Nat.le_refl _, fun j h1 h2 => absurd h1 (by omega)⟩ ?_ ?_
  · exact Weak.keepL (by simp [ends]) (by simp [ends]) (by simp [ends])
  intro I hI n ⟨hn, hi⟩
  have hwn : IntKind.i64.wrap ((n : Int) - 1 - 1) = ((n - 1 : Nat) : Int) - 1 ∨ n = 0 := by
    by_cases h : n = 0
    · exact .inr h
    · exact .inl (by rw [wrap_eq (by omega) (by omega)]; omega)
  simp -implicitDefEqProofs only [↓steps, push_cast, simprocAttr, tte]
  refine bcase_intro (fun h => ?_) fun h => ?_
  · simp only [decide_eq_true_eq] at h
    have hwn := hwn.resolve_right (by omega)
    have e1 : ((n : Int) - 1).toNat = n - 1 := by omega
    simp only [e1]
    refine ⟨⟨by omega, by omega⟩, ?_⟩
    have hag : ∀ c, ownOf x.tx x.key (before.getD (n - 1) default) = c → c = false → ∀ j, n - 1 ≤ j → j < before.length → ownOf x.tx x.key (before.getD j default) = false := fun c h1 h2 j h3 h4 => by
      by_cases h5 : j = n - 1
      · rw [h5, h1, h2]
      · exact hi j (by omega) h4
    have hown : ownOf x.tx x.key (before.getD (n - 1) default) = ((((before.getD (n - 1) default).kind == 2) && ((before.getD (n - 1) default).key == x.key)) && ((before.getD (n - 1) default).tx == x.tx)) := rfl
    have hhit := rev_hit (p := ownOf x.tx x.key) (l := before) (k := n - 1) (by omega) fun j h2 h3 => hi j (by omega) h3
    generalize hg : before.getD (n - 1) default = w at hown hag hhit ⊢
    refine bcase_intro (fun a => bcase_intro (fun b => bcase_intro (fun c => ?hit) fun c => ?_) fun b => ?_) fun a => ?_
    case hit =>
      rw [a, b, c] at hown
      have hm : readsM start before x = ((x.frm == x.tx) && (x.value == w.value)) := by
        unfold readsM
        rw [hhit hown]
      refine bcase_intro (fun d => ?_) fun d => ?_
      · exact ret_d trivial (by rw [← hr, hm, d]; rfl) (by simp [ends])
      · exact ret_d trivial (by rw [← hr, hm, d]; rfl) (by simp [ends])
    all_goals
      have hown : ownOf x.tx x.key w = false := by rw [hown, a] <;> first | rfl | (rw [b]; first | rfl | (rw [c]; rfl) | simp) | simp
      exact gen_again hI (n - 1) ⟨by omega, hag _ hown rfl⟩ (by show n - 1 < n; omega) (Weak.keepL (by simp [hwn, ends]) (by simp [ends]) (by simp [ends]))
  · simp only [decide_eq_false_iff_not] at h
    obtain rfl : n = 0 := by omega
    have hno := rev_none (p := ownOf x.tx x.key) (l := before) fun j h2 => hi j (by omega) h2
    have hm : readsM start before x = if x.frm = -1 then x.value == start.getD x.key.toNat 0 else (x.frm != x.tx) && before.any (hitR x) := by
      unfold readsM
      rw [hno]
      rfl
    have hd : (default : Int) = 0 := rfl
    refine bcase_intro (fun a => ?_) fun a => ?_
    · rw [if_pos (by simpa using a)] at hm
      refine ⟨⟨by omega, h1⟩, drawx_intro (by kernel_rfl), ?_⟩
      exact ret_d trivial (by rw [← hr, hm]; rfl) (by simp [ends])
    · rw [if_neg (by simpa using a)] at hm
      refine bcase_intro (fun b => ?_) fun b => ?_
      · refine callq [[5], []] [(1000, 5)] (c_conR before x hl) ?_
        simp -implicitDefEqProofs only [↓steps, push_cast, simprocAttr, tte]
        exact ret_d trivial (by rw [← hr, hm, b]; rfl) (by simp [ends])
      · exact ret_d trivial (by rw [← hr, hm, b]; rfl) (by simp [ends])
theorem c_right (start : List Int) (evs before : List Hv) (x : Hv) (hl : before.length ≤ 1000000) :
    ACall Try.prog 26 [aH start evs, .d (.sl 5 (rowsOf rEv before)), aEv x] [] (boo (rightM start before x)) [] := by
  refine enterq mixed ttok Try.func26 Try.ntmps26 Try.results26 ?_
  generalize hr : boo (rightM start before x) = R
  have hno : ¬ (0 ≤ x.tx ∧ x.tx < 5) → rightM start before x = false := fun h => by
    unfold rightM
    have : (decide (0 ≤ x.tx) && decide (x.tx < 5)) = false := by
      rw [Bool.and_eq_false_iff, decide_eq_false_iff_not, decide_eq_false_iff_not]; omega
    rw [this]; rfl
  simp -implicitDefEqProofs only [argT, ↓steps, push_cast, simprocAttr, tte]
  refine bcase_intro (fun a => ?_) fun a => ?_
  · have := hno (by simp at a; omega)
    exact ret_d trivial (by rw [← hr, this]; rfl) (by simp [ends])
  refine bcase_intro (fun b => ?_) fun b => ?_
  · have := hno (by simp at b; omega)
    exact ret_d trivial (by rw [← hr, this]; rfl) (by simp [ends])
  have hxt : 0 ≤ x.tx ∧ x.tx < 5 := by simp at a b; omega
  have hyes : rightM start before x = ((before.all fun y => !((y.tx == x.tx) && endedM y)) && (((before.any fun y => y.tx == x.tx) != (x.kind == 5)) && bodyM start before x)) := by
    unfold rightM
    rw [decide_eq_true hxt.1, decide_eq_true hxt.2]; rfl
  refine loop_gen mixed ttok (fun n : Nat => (⟨[(20, .d (.lit (.int .i64 n))), (19, .d (.lit (.int .i64 before.length))), (18, .d (.sl 5 (rowsOf rEv before))), (7, boo ((before.take n).any fun y => y.tx == x.tx)), (5, .ptr 5 0), (3, .ptr 3 0), (1, .d (.sl 5 (rowsOf rEv before)))], [(5, vEv x), (3, .var [ints start, .d (.sl 5 (rowsOf rEv evs))])]⟩ : SL)) (fun n => before.length - n)
    (fun n => n ≤ before.length ∧ ((before.take n).all fun y => !((y.tx == x.tx) && endedM y)) = true) 0 ⟨Nat.zero_le _, rfl⟩ ?_ ?_
  · exact Weak.keepL (by simp [ends]) (by simp [ends]) (by simp [ends])
  intro I hI n ⟨hn, hi⟩
  simp -implicitDefEqProofs only [↓steps, push_cast, simprocAttr, tte]
  refine bcase_intro (fun h => ?_) fun h => ?_
  · simp only [decide_eq_true_eq] at h
    have h' : n < before.length := by omega
    have hw := wrap_succ h' (by omega)
    have hta : ∀ p : Hv → Bool, (before.take (n + 1)).any p = ((before.take n).any p || p (before.getD n default)) := fun p => by
      rw [take_snoc _ _ h', List.any_append]; simp
    have htl : ∀ p : Hv → Bool, (before.take (n + 1)).all p = ((before.take n).all p && p (before.getD n default)) := fun p => by
      rw [take_snoc _ _ h', List.all_append]; simp
    have hbad : ((before.getD n default).tx == x.tx) = true → endedM (before.getD n default) = true → rightM start before x = false := fun h1 h2 => by
      rw [hyes]
      have : (before.all fun y => !((y.tx == x.tx) && endedM y)) = false := List.all_eq_false.2 ⟨before.getD n default, getD_mem h', by rw [h1, h2]; decide⟩
      rw [this]; rfl
    refine ⟨⟨by omega, h⟩, ?_⟩
    refine bcase_intro (fun c => ?_) fun c => ?_
    · refine callq [[0, 0, 0, 0, 0]] [] (c_ended (before.getD n default)) ?_
      simp -implicitDefEqProofs only [↓steps, push_cast, simprocAttr, tte]
      refine bcase_intro (fun d => ?_) fun d => ?_
      · exact ret_d trivial (by rw [← hr, hbad c d]; rfl) (by simp [ends])
      · have e1 : ((before.take (n + 1)).any fun y => y.tx == x.tx) = true := by rw [hta]; simp only [c, Bool.or_true]
        exact gen_again hI (n + 1) ⟨by omega, by rw [htl, hi, d]; simp⟩ (by show before.length - (n + 1) < before.length - n; omega) (Weak.keepL (by simp [hw, e1, ends]) (by simp [ends]) (by simp [ends]))
    · have e1 : ((before.take (n + 1)).any fun y => y.tx == x.tx) = ((before.take n).any fun y => y.tx == x.tx) := by rw [hta]; simp only [c, Bool.or_false]
      exact gen_again hI (n + 1) ⟨by omega, by rw [htl, hi, c]; simp⟩ (by show before.length - (n + 1) < before.length - n; omega) (Weak.keepL (by simp [hw, e1, ends]) (by simp [ends]) (by simp [ends]))
  simp only [decide_eq_false_iff_not] at h
  obtain rfl : n = before.length := by omega
  rw [List.take_length] at hi
  simp only [List.take_length]
  rw [hi, Bool.true_and] at hyes
  generalize hB : (before.any fun y => y.tx == x.tx) = B at hyes ⊢
  refine bcase_intro (fun c => ?_) fun c => ?_
  · have : rightM start before x = false := by rw [hyes]; simp at c; rw [c]; simp
    exact ret_d trivial (by rw [← hr, this]; rfl) (by simp [ends])
  have hyes : rightM start before x = bodyM start before x := by
    rw [hyes]
    have : (B != (x.kind == 5)) = true := by simp at c; cases B <;> simp_all
    rw [this]; rfl
  rw [hyes] at hr
  unfold bodyM at hr
  by_cases k1 : x.kind = 5 ∨ x.kind = 3 ∨ x.kind = 4
  · rw [if_pos k1] at hr
    (repeat' refine bcase_intro (fun _ => ?_) fun _ => ?_) <;> first | exact ret_dO trivial (by rw [← hr]; clear hr; simp_all) (by simp [ends]) (by simp [ends]) | (exfalso; clear hr; simp_all; done) | (exfalso; simp at *; omega)
  rw [if_neg k1] at hr
  by_cases k2 : x.kind = 2
  · rw [if_pos k2] at hr
    (repeat' refine bcase_intro (fun _ => ?_) fun _ => ?_) <;> first | exact ret_dO trivial (by rw [← hr]; clear hr; simp_all; try omega) (by simp [ends]) (by simp [ends]) | (exfalso; clear hr; simp_all; done) | (exfalso; simp at *; omega)
  rw [if_neg k2] at hr
  have j1 : (x.kind == 5) = false := beq_eq_false_iff_ne.2 (by omega)
  have j2 : (x.kind == 3) = false := beq_eq_false_iff_ne.2 (by omega)
  have j3 : (x.kind == 4) = false := beq_eq_false_iff_ne.2 (by omega)
  have j4 : (x.kind == 2) = false := beq_eq_false_iff_ne.2 (by omega)
  simp -implicitDefEqProofs only [j1, j2, j3, j4, ↓steps, push_cast, simprocAttr, tte]
  by_cases k3 : x.kind = 1
  · rw [if_pos k3] at hr
    have j5 : (x.kind == 1) = true := beq_iff_eq.2 k3
    simp -implicitDefEqProofs only [j5, ↓steps, push_cast, simprocAttr, tte]
    refine bcase_intro (fun q1 => ?_) fun q1 => ?_
    · refine bcase_intro (fun q2 => ?_) fun q2 => ?_
      · simp only [decide_eq_true_eq] at q1 q2
        refine callq [[1, 5], [5], [0, 0, 0, 0, 0]] [] (c_reads start evs before x hl (by omega) (by omega)) ?_
        simp -implicitDefEqProofs only [↓steps, push_cast, simprocAttr, tte]
        exact ret_d trivial (by rw [← hr, decide_eq_true (show (0 : Int) ≤ x.key by omega), decide_eq_true (show x.key < start.length by omega)]; rfl) (by simp [ends])
      · exact ret_d trivial (by rw [← hr, q2]; simp) (by simp [ends])
    · exact ret_d trivial (by rw [← hr]; simp at q1; simp; omega) (by simp [ends])
  · rw [if_neg k3] at hr
    have j5 : (x.kind == 1) = false := beq_eq_false_iff_ne.2 k3
    simp -implicitDefEqProofs only [j5, ↓steps, push_cast, simprocAttr, tte]
    exact ret_d trivial (by rw [← hr]; rfl) (by simp [ends])
def SmallH (start : List Int) (evs : List Hv) : Prop := start.length ≤ 1000000 ∧ evs.length ≤ 1000000
theorem ok_take (start : List Int) : ∀ (l pre : List Hv), okEvs start pre l = true ↔ ∀ n, n < l.length → rightM start (pre ++ l.take n) (l.getD n default) = true
  | [], pre => by simp [okEvs]
  | y :: l, pre => by
    rw [okEvs, Bool.and_eq_true, ok_take start l]
    constructor
    · rintro ⟨h1, h2⟩ n hn
      cases n with
      | zero => simpa using h1
      | succ n => have := h2 n (by simpa using hn); simpa using this
    · intro h
      refine ⟨by simpa using h 0 (by simp), fun n hn => ?_⟩
      have := h (n + 1) (by simpa using hn)
      simpa using this
theorem c_valid (start : List Int) (evs : List Hv) (hs : SmallH start evs) : ACall Try.prog 9 [aH start evs] [] (boo (validH start evs)) [] := by
  refine enterq mixed ttok Try.func9 Try.ntmps9 Try.results9 ?_
  generalize hr : boo (validH start evs) = R
  obtain ⟨hs1, hs2⟩ := hs
  have hno : ¬ (start.length ≤ 6 ∧ evs.length ≤ 200) → validH start evs = false := fun h => by
    unfold validH
    have : (decide (start.length ≤ 6) && decide (evs.length ≤ 200)) = false := by
      rw [Bool.and_eq_false_iff, decide_eq_false_iff_not, decide_eq_false_iff_not]; omega
    rw [this]; rfl
  simp -implicitDefEqProofs only [argT, ↓steps, push_cast, simprocAttr, tte]
  refine bcase_intro (fun a => ?_) fun a => ?_
  · have := hno (by simp at a; omega)
    exact ret_d trivial (by rw [← hr, this]; rfl) (by simp [ends])
  refine bcase_intro (fun b => ?_) fun b => ?_
  · have := hno (by simp at b; omega)
    exact ret_d trivial (by rw [← hr, this]; rfl) (by simp [ends])
  have hyes : validH start evs = okEvs start [] evs := by
    unfold validH
    rw [decide_eq_true (show start.length ≤ 6 by simp at a; omega), decide_eq_true (show evs.length ≤ 200 by simp at b; omega)]; rfl
  refine loop_gen mixed ttok (fun n : Nat => (⟨[(18, .d (.lit (.int .i64 n))), (17, .d (.lit (.int .i64 evs.length))), (16, .d (.sl 5 (rowsOf rEv evs))), (1, .ptr 1 0)], [(1, .var [ints start, .d (.sl 5 (rowsOf rEv evs))])]⟩ : SL)) (fun n => evs.length - n)
    (fun n => n ≤ evs.length ∧ ∀ k, k < n → rightM start (evs.take k) (evs.getD k default) = true) 0 ⟨Nat.zero_le _, fun k h => absurd h (Nat.not_lt_zero _)⟩ ?_ ?_
  · exact Weak.keepL (by simp [ends]) (by simp [ends]) (by simp [ends])
  intro I hI n ⟨hn, hi⟩
  simp -implicitDefEqProofs only [↓steps, push_cast, simprocAttr, tte]
  refine bcase_intro (fun h => ?_) fun h => ?_
  · simp only [decide_eq_true_eq] at h
    have h' : n < evs.length := by omega
    have hw := wrap_succ h' (by omega)
    refine ⟨⟨by omega, h⟩, ⟨by omega, by omega⟩, ?_⟩
    refine callq [[1, 5], [5], [0, 0, 0, 0, 0]] [] (c_right start evs (evs.take n) (evs.getD n default) (by simp; omega)) ?_
    simp -implicitDefEqProofs only [↓steps, push_cast, simprocAttr, tte]
    refine ⟨drawx_intro (by kernel_rfl), ?_⟩
    refine bcase_intro (fun g => ?_) fun g => ?_
    · have : okEvs start [] evs = false := by
        rw [← Bool.not_eq_true, ok_take]
        intro hall
        have := hall n h'
        simp at this g
        rw [this] at g; cases g
      exact ret_d trivial (by rw [← hr, hyes, this]; rfl) (by simp [ends])
    · exact gen_again hI (n + 1) ⟨by omega, fun k hk => by
        by_cases hkn : k = n
        · subst hkn; simpa using g
        · exact hi k (by omega)⟩ (by show evs.length - (n + 1) < evs.length - n; omega) (Weak.keepL (by simp [hw, ends]) (by simp [ends]) (by simp [ends]))
  · simp only [decide_eq_false_iff_not] at h
    obtain rfl : n = evs.length := by omega
    have : okEvs start [] evs = true := (ok_take start evs []).2 fun k hk => by simpa using hi k hk
    exact ret_d trivial (by rw [← hr, hyes, this]; rfl) (by simp [ends])
end Go.Proofs.Ythknpcpddlaapaa
namespace Go.Proofs.Ythknpcpddlaapaa
open Go.Am
attribute [local simp, local push_cast] num boo str ints rEv aEv rTk aTk rEg aEg aH vEv
set_option linter.unusedVariables false
set_option maxRecDepth 100000
set_option maxHeartbeats 4000000
/-! Cells of truth values; which transactions are committed. -/
def boos (l : List Bool) : List A := l.map fun b => A.d (.lit (.bool b))
theorem boos_length (l : List Bool) : (boos l).length = l.length := List.length_map ..
theorem boos_at {l : List Bool} {i : Nat} (h : i < l.length) : (boos l)[i]? = some (.d (.lit (.bool (l.getD i false)))) := by
  unfold boos
  rw [List.getElem?_map, List.getElem?_eq_getElem h, List.getD_eq_getElem?_getD, List.getElem?_eq_getElem h]; rfl
theorem boos_pick {l : List Bool} {i : Nat} (h : i < l.length) : pickAt (boos l) i = .d (.lit (.bool (l.getD i false))) := pickAt_eq (boos_at h)
theorem boos_set (l : List Bool) (i : Nat) (v : Bool) : (boos l).set i (.d (.lit (.bool v))) = boos (l.set i v) := by unfold boos; rw [List.map_set]
theorem boos_put {l : List Bool} {i : Nat} (h : i < l.length) (v : Bool) : List.take (i * 1) (boos l) ++ [A.d (.lit (.bool v))] ++ List.drop (i * 1 + 1) (boos l) = boos (l.set i v) := by
  rw [← boos_set, Nat.mul_one, List.set_eq_take_append_cons_drop, if_pos (by rw [boos_length]; exact h)]
  simp
theorem boos_closed (dom : Nat → Bool) (l : List Bool) : closedL dom (boos l) = true := by
  unfold boos
  induction l with
  | nil => rfl
  | cons a l ih => simp only [List.map_cons, closedL, ih, A.closed, Bool.and_self]
theorem boos_ren (r : Nat → Nat) (l : List Bool) : renL r (boos l) = boos l := by
  unfold boos
  induction l with
  | nil => rfl
  | cons a l ih => simp only [List.map_cons, renL, ih, A.ren]
def done5 (evs : List Hv) : List Bool := (List.range 5).map fun t => doneM evs (t : Nat)
theorem done5_at (evs : List Hv) {t : Int} (h0 : 0 ≤ t) (h1 : t < 5) : (done5 evs).getD t.toNat false = doneM evs t := by
  unfold done5
  rw [List.getD_eq_getElem?_getD, List.getElem?_map, List.getElem?_range (by omega)]
  show doneM evs (t.toNat : Int) = _
  rw [Int.toNat_of_nonneg h0]
theorem done5_len (evs : List Hv) : (done5 evs).length = 5 := by simp [done5]
def aDone (evs : List Hv) : A := .agg (boos (done5 evs))
theorem done_snoc (l : List Hv) (x : Hv) (t : Int) : doneM (l ++ [x]) t = (doneM l t || ((x.kind == 3) && (x.tx == t))) := by
  unfold doneM; rw [List.any_append]; simp
theorem done5_step {l : List Hv} {x : Hv} (h0 : 0 ≤ x.tx) (h1 : x.tx < 5) : done5 (l ++ [x]) = if x.kind = 3 then (done5 l).set x.tx.toNat true else done5 l := by
  apply List.ext_getElem?
  intro j
  split
  · rename_i hk
    rw [List.getElem?_set, done5_len]
    unfold done5
    rw [List.getElem?_map, List.getElem?_map]
    rcases Nat.lt_or_ge j 5 with hj | hj
    · rw [List.getElem?_range hj]
      by_cases he : x.tx.toNat = j
      · rw [if_pos he, if_pos (by omega)]
        show some (doneM (l ++ [x]) (j : Nat)) = _
        rw [done_snoc, hk]
        have : x.tx = (j : Int) := by omega
        rw [this]; simp
      · rw [if_neg he]
        show some (doneM (l ++ [x]) (j : Nat)) = some (doneM l (j : Nat))
        rw [done_snoc, beq_eq_false_iff_ne.2 (show x.tx ≠ (j : Int) by omega)]; simp
    · rw [List.getElem?_eq_none (by simpa using hj)]
      rw [if_neg (by omega)]; rfl
  · rename_i hk
    unfold done5
    rw [List.getElem?_map, List.getElem?_map]
    congr 1
    funext t
    rw [done_snoc, beq_eq_false_iff_ne.2 hk]; simp
theorem done5_nil : boos (done5 []) = [.d (.lit (.bool false)), .d (.lit (.bool false)), .d (.lit (.bool false)), .d (.lit (.bool false)), .d (.lit (.bool false))] := rfl
theorem d5_len (evs : List Hv) : (boos (done5 evs)).length = 5 := by rw [boos_length, done5_len]
theorem d5_take (evs : List Hv) : List.take 5 (boos (done5 evs)) = boos (done5 evs) := List.take_of_length_le (by rw [d5_len]; omega)
theorem d5_drop (evs : List Hv) : List.drop 5 (boos (done5 evs)) = [] := List.drop_of_length_le (by rw [d5_len]; omega)
attribute [local simp, local push_cast] aDone d5_take d5_drop d5_len
theorem ret_same {p : Prop} {a R : A} {t : List (Nat × A)} {o os' : List (Nat × Ob)} (hp : p) (hr : a = R) (hc : a.closed (inO os') = true) (ho : keepO (lookO o) (inO os') os') (hin : keepIn (inO os') o) : retx (some (p, a)) ⟨t, o⟩ R os' := by
  subst hr
  exact ⟨hp, Weak.keep (σ := ⟨[(0, a)], os'⟩) ⟨⟨by simp [lookT], hc⟩, trivial⟩ ho hin⟩
theorem frz_boos (h : Nat → Option Ob) : ∀ (l : List Bool) (ws : List Nat), frzSL h ws (boos l) = some ⟨boos l, [], [], True⟩
  | [], ws => by simp only [boos, List.map_nil, frzSL]
  | b :: l, ws => by
    have := frz_boos h l ws.tail
    unfold boos at this ⊢
    simp only [List.map_cons, frzSL, frzS, upds, this, List.append_nil, and_self]
theorem c_done (start : List Int) (evs : List Hv) (hl : evs.length ≤ 1000000) (hv : TxOk evs) : ACall Try.prog 39 [aH start evs] [] (aDone evs) [] := by
  refine enterq mixed ttok Try.func39 Try.ntmps39 Try.results39 ?_
  generalize hr : aDone evs = R
  simp -implicitDefEqProofs only [argT, ↓steps, push_cast, simprocAttr, tte]
  refine loop_gen mixed ttok (fun n : Nat => (⟨[(9, .d (.lit (.int .i64 n))), (8, .d (.lit (.int .i64 evs.length))), (7, .d (.sl 5 (rowsOf rEv evs))), (3, .ptr 3 0), (2, .ptr 2 0)], [(3, .var (boos (done5 (evs.take n)))), (2, .var (boos (done5 [])))]⟩ : SL)) (fun n => evs.length - n)
    (fun n => n ≤ evs.length) 0 (Nat.zero_le _) ?_ ?_
  · simp only [List.take_zero, done5_nil]
    exact Weak.keepL (by simp [ends]) (by simp [ends]) (by simp [ends])
  intro I hI n hn
  have hclo := fun g => boos_closed g (done5 (evs.take n))
  have hst : n < evs.length → done5 (evs.take (n + 1)) = if (evs.getD n default).kind = 3 then (done5 (evs.take n)).set (evs.getD n default).tx.toNat true else done5 (evs.take n) := fun h => by
    have := hv _ (getD_mem h)
    rw [take_snoc _ _ h, done5_step this.1 this.2]
  simp -implicitDefEqProofs only [↓steps, push_cast, simprocAttr, tte]
  refine bcase_intro (fun h => ?_) fun h => ?_
  · simp only [decide_eq_true_eq] at h
    have h' : n < evs.length := by omega
    have hw := wrap_succ h' (by omega)
    have hst := hst h'
    have htx := hv _ (getD_mem h')
    refine ⟨⟨by omega, h⟩, bcase_intro (fun c => ?_) fun c => ?_⟩
    · refine ⟨htx, by omega, ?_⟩
      rw [boos_put (by rw [done5_len]; omega), ← show done5 (evs.take (n + 1)) = _ from hst.trans (if_pos (by simpa using c))]
      have hclo := fun g => boos_closed g (done5 (evs.take (n + 1)))
      have hclo2 := fun g => boos_closed g (done5 [])
      exact gen_again hI (n + 1) h' (by show evs.length - (n + 1) < evs.length - n; omega) (Weak.keepL (by simp [hw, ends]) (by simp [hclo, hclo2, ends]) (by simp [ends]))
    · rw [if_neg (by simpa using c)] at hst
      have hclo2 := fun g => boos_closed g (done5 [])
      exact gen_again hI (n + 1) h' (by show evs.length - (n + 1) < evs.length - n; omega) (Weak.keepL (by simp [hw, ends]) (by simp [hst, hclo, hclo2, ends]) (by simp [ends]))
  · simp only [decide_eq_false_iff_not] at h
    obtain rfl : n = evs.length := by omega
    rw [List.take_length]
    refine ret_same trivial hr ?_ ?_ ?_
    · exact boos_closed _ _
    · simp [ends]
    · simp [ends]
end Go.Proofs.Ythknpcpddlaapaa
namespace Go.Proofs.Ythknpcpddlaapaa
open Go.Am
attribute [local simp, local push_cast] num boo str ints rEv aEv rTk aTk rEg aEg aH vEv
set_option linter.unusedVariables false
set_option maxRecDepth 100000
set_option maxHeartbeats 4000000
/-! slices.DeleteFunc of numbers. -/
def vecI (l : List Int) : Ob := .vec 3 1 (rowsOf rI l) 0
attribute [local simp, local push_cast] vecI
def isTx (x : Hv) (t : Int) : Bool := t == x.tx
theorem c_vers1 (t : Int) (x : Hv) : ACall Try.prog 79 [num t, .ptr 1001 0] [(1001, vEv x)] (boo (isTx x t)) [(1001, vEv x)] := by
  refine enterq mixed ttok Try.func79 Try.ntmps79 Try.results79 ?_
  generalize hr : boo (isTx x t) = R
  simp -implicitDefEqProofs only [argT, vEv, ↓steps, push_cast, simprocAttr, tte]
  exact ret_dO trivial (by rw [← hr]; rfl) (by simp [ends]) (by simp [ends])
theorem c_idxI (x : Hv) (vs : List Int) (hl : vs.length ≤ 1000000) :
    ACall Try.prog 86 [.sub 1000 vs.length 0 vs.length, .clo 79 [.ptr 1001 0]] [(1000, vecI vs), (1001, vEv x)] (num (fidx (isTx x) vs)) [(1000, vecI vs), (1001, vEv x)] := by
  refine enterq mixed ttok Try.func86 Try.ntmps86 Try.results86 ?_
  generalize hr : num (fidx (isTx x) vs) = R
  simp -implicitDefEqProofs only [argT, ↓steps, push_cast, simprocAttr, tte]
  refine loop_gen mixed ttok (fun n : Nat => (⟨[(8, .d (.lit (.int .i64 n))), (7, .d (.lit (.int .i64 vs.length))), (0, .sub 1000 vs.length 0 vs.length), (1, .clo 79 [.ptr 1001 0])], [(1000, vecI vs), (1001, vEv x)]⟩ : SL)) (fun n => vs.length - n) (fun n => n ≤ vs.length ∧ ∀ i, i < n → isTx x (vs.getD i default) = false) 0 ⟨Nat.zero_le _, fun i h => absurd h (Nat.not_lt_zero _)⟩ ?_ ?_
  · exact Weak.keepL (by simp [ends]) (by simp [ends]) (by simp [ends])
  intro I hI n ⟨hn, hi⟩
  simp -implicitDefEqProofs only [↓steps, push_cast, simprocAttr, tte]
  refine bcase_intro (fun h => ?_) fun h => ?_
  · simp only [decide_eq_true_eq] at h
    have h' : n < vs.length := by omega
    have hw := wrap_succ h' (by omega)
    refine ⟨⟨by omega, h⟩, h', ?_⟩
    refine callq [[], []] [(1001, 1001)] (c_vers1 (vs.getD n default) x) ?_
    simp -implicitDefEqProofs only [↓steps, push_cast, simprocAttr, tte]
    refine bcase_intro (fun g => ?_) fun g => ?_
    · exact ret_dO trivial (by rw [← hr, fidx_at (isTx x) vs n h' hi g]; rfl) (by simp [ends]) (by simp [ends])
    · exact gen_again hI (n + 1) ⟨by omega, fun i h2 => if h3 : i = n then by rw [h3]; exact g else hi i (by omega)⟩ (by show vs.length - (n + 1) < vs.length - n; omega) (Weak.keepL (by simp [hw, ends]) (by simp [ends]) (by simp [ends]))
  · simp only [decide_eq_false_iff_not] at h
    obtain rfl : n = vs.length := by omega
    exact ret_dO trivial (by rw [← hr, fidx_none (isTx x) vs hi]; rfl) (by simp [ends]) (by simp [ends])
def goodL (x : Hv) (vs : List Int) : List Int := vs.filter fun v => !(isTx x) v
def delM (x : Hv) (vs : List Int) : List Int := goodL x vs ++ List.replicate (vs.length - (goodL x vs).length) 0
theorem goodL_len (x : Hv) (vs : List Int) : (goodL x vs).length ≤ vs.length := List.length_filter_le _ _
theorem put_rI (l : List Int) (i n : Nat) : putRows (rowsOf rI l) i (List.replicate n [D.lit (.int .i64 0)]) = rowsOf rI (putRows l i (List.replicate n 0)) := by
  have : List.replicate n [D.lit (Value.int .i64 0)] = rowsOf rI (List.replicate n 0) := by
    simp [rowsOf, rI]
  rw [this]
  simp [putRows, rowsOf]
theorem ret_sub {p : Prop} {a m k n : Nat} {t : List (Nat × A)} {o : List (Nat × Ob)} {R : A} {os' : List (Nat × Ob)} (hp : p) (hr : A.sub a m k n = R) (hc : inO os' a = true) (ho : keepO (lookO o) (inO os') os') (hin : keepIn (inO os') o) : retx (some (p, A.sub a m k n)) ⟨t, o⟩ R os' := by
  subst hr
  exact retx_of [] rfl hp trivial rfl (by simpa [A.closed] using hc) ho hin
theorem fidx_spec {α : Type} [Inhabited α] (p : α → Bool) : ∀ (l : List α) (n : Nat), fidx p l = n → (∀ i, i < n → p (l.getD i default) = false) ∧ p (l.getD n default) = true
  | [], n, h => by simp [fidx] at h
  | x :: l, n, h => by
    simp only [fidx] at h
    by_cases hx : p x = true
    · rw [if_pos hx] at h
      obtain rfl : n = 0 := by omega
      exact ⟨fun i hi => absurd hi (Nat.not_lt_zero _), by simpa using hx⟩
    · rw [if_neg hx] at h
      by_cases hn : fidx p l < 0
      · rw [if_pos hn] at h; omega
      · rw [if_neg hn] at h
        obtain ⟨m, rfl⟩ : ∃ m, n = m + 1 := ⟨n - 1, by omega⟩
        obtain ⟨h1, h2⟩ := fidx_spec p l m (by omega)
        refine ⟨fun i hi => ?_, by simpa using h2⟩
        cases i with
        | zero => simpa using hx
        | succ i => simpa using h1 i (by omega)
theorem goodL_take_succ (x : Hv) (vs : List Int) (n : Nat) (h : n < vs.length) : goodL x (vs.take (n + 1)) = if isTx x (vs.getD n default) = true then goodL x (vs.take n) else goodL x (vs.take n) ++ [vs.getD n default] := by
  rw [take_snoc _ _ h]
  unfold goodL
  rw [List.filter_append]
  generalize vs.getD n default = y
  cases hb : isTx x y <;> simp [hb]
theorem goodL_all (x : Hv) (vs : List Int) (h : ∀ i, i < vs.length → isTx x (vs.getD i default) = false) : goodL x vs = vs := by
  refine List.filter_eq_self.2 fun v hv => ?_
  obtain ⟨i, hi, rfl⟩ := List.getElem_of_mem hv
  have := h i hi
  rw [List.getD_eq_getElem?_getD, List.getElem?_eq_getElem hi] at this
  simpa using this
theorem c_delI (x : Hv) (vs : List Int) (hl : vs.length ≤ 1000000) :
    ACall Try.prog 78 [.sub 1000 vs.length 0 vs.length, .clo 79 [.ptr 1001 0]] [(1000, vecI vs), (1001, vEv x)] (.sub 1000 vs.length 0 (goodL x vs).length) [(1000, vecI (delM x vs)), (1001, vEv x)] := by
  refine enterq mixed ttok Try.func78 Try.ntmps78 Try.results78 ?_
  generalize hr : A.sub 1000 vs.length 0 (goodL x vs).length = R
  simp -implicitDefEqProofs only [argT, ↓steps, push_cast, simprocAttr, tte]
  refine callq [[0], [0]] [(1000, 1000), (1001, 1001)] (c_idxI x vs hl) ?_
  simp -implicitDefEqProofs only [↓steps, push_cast, simprocAttr, tte]
  by_cases hf : fidx (isTx x) vs = -1
  · have hall : ∀ i, i < vs.length → isTx x (vs.getD i default) = false := by
      intro i hi
      have := (fidx_neg (isTx x) vs).1 (by omega)
      rw [List.any_eq_false] at this
      simpa using this _ (getD_mem hi)
    have hg := goodL_all x vs hall
    have hd : delM x vs = vs := by rw [delM, hg]; simp
    rw [hg] at hr
    rw [hd]
    refine bcase_intro (fun _ => ?_) fun h => absurd h (by rw [hf]; decide)
    exact ret_sub trivial hr (by simp [ends]) (by simp [ends]) (by simp [ends])
  refine bcase_intro (fun h => absurd h (by simpa using hf)) fun _ => ?_
  have hf0 : 0 ≤ fidx (isTx x) vs := by have := fidx_ge (isTx x) vs; omega
  have hfl := fidx_lt (isTx x) vs
  obtain ⟨i0, hi0⟩ : ∃ i0 : Nat, fidx (isTx x) vs = i0 := ⟨(fidx (isTx x) vs).toNat, by omega⟩
  rw [hi0] at hfl ⊢
  obtain ⟨hs1, hs2⟩ := fidx_spec (isTx x) vs i0 hi0
  have hi0l : i0 < vs.length := by omega
  have hw0 := wrap_succ hi0l (by omega)
  refine loop_gen mixed ttok (fun z : Nat × Nat × List Int => (⟨[(5, .d (.lit (.int .i64 z.1))), (6, .d (.lit (.int .i64 z.2.1))), (0, .sub 1000 vs.length 0 vs.length), (1, .clo 79 [.ptr 1001 0])], [(1000, .vec 3 1 (rowsOf rI z.2.2) 0), (1001, vEv x)]⟩ : SL)) (fun z => vs.length - z.2.1)
    (fun z => z.2.2.length = vs.length ∧ z.1 < z.2.1 ∧ z.2.1 ≤ vs.length ∧ z.2.2.take z.1 = goodL x (vs.take z.2.1) ∧ z.2.2.drop z.2.1 = vs.drop z.2.1) (i0, i0 + 1, vs) ⟨rfl, by simp, by simp; omega, ?_, rfl⟩ ?_ ?_
  · show vs.take i0 = goodL x (vs.take (i0 + 1))
    rw [goodL_take_succ _ _ _ hi0l, if_pos hs2, goodL_all]
    intro i hi
    simp only [List.length_take] at hi
    have := hs1 i (by omega)
    rw [List.getD_eq_getElem?_getD] at this ⊢
    rwa [List.getElem?_take, if_pos (by omega)]
  · exact Weak.keepL (by simp [hw0, ends]) (by simp [hw0, ends]) (by simp [ends])
  intro I hI ⟨i, j, l⟩ ⟨hl1, hij, hj, htk, hdr⟩
  simp only at hl1 hij hj htk hdr
  simp -implicitDefEqProofs only [↓steps, push_cast, simprocAttr, tte]
  refine ⟨by omega, ?_⟩
  refine bcase_intro (fun h => ?_) fun h => ?_
  · simp only [decide_eq_true_eq] at h
    have h' : j < vs.length := by omega
    have hwj := wrap_succ h' (by omega)
    have hgj : l.getD j default = vs.getD j default := by
      have h1 := drop_cons l j (by omega)
      have h2 := drop_cons vs j h'
      rw [hdr, h2] at h1
      injection h1 with h3 _
      exact h3.symm
    have hdr2 : l.drop (j + 1) = vs.drop (j + 1) := by
      have := congrArg (List.drop 1) hdr
      simpa [List.drop_drop] using this
    refine ⟨⟨⟨by omega, h⟩, hl1.symm⟩, by omega, hl1.symm, ?_⟩
    refine callq [[], []] [(1001, 1001)] (c_vers1 (l.getD j default) x) ?_
    simp -implicitDefEqProofs only [↓steps, push_cast, simprocAttr, tte]
    have hsuc := goodL_take_succ x vs j h'
    rw [← hgj] at hsuc
    refine bcase_intro (fun g => ?_) fun g => ?_
    · have g' : isTx x (l.getD j default) = false := by simpa using g
      rw [if_neg (by rw [g']; decide), ← htk] at hsuc
      have hwi := wrap_succ (N := vs.length) (n := i) (by omega) (by omega)
      simp only [hwi]
      refine ⟨⟨⟨by omega, by omega⟩, hl1.symm⟩, ⟨hl1.symm, by omega, by omega⟩, ?_⟩
      have hlt : (l.take i ++ [l.getD j default]) = (l.set i (l.getD j default)).take (i + 1) := by
        rw [List.take_succ_eq_append_getElem (by simp; omega), List.take_set, List.set_eq_of_length_le (by simp; omega)]
        simp
      rw [hlt] at hsuc
      have hsr : (rowsOf rI l).set i (D.lit (.int .i64 (l[j]?.getD 0)) :: ((rowsOf rI l)[i]?.getD []).tail) = rowsOf rI (l.set i (l[j]?.getD 0)) := by
        have h1 := rowsOf_getD rI l i (by omega)
        rw [List.getD_eq_getElem?_getD] at h1
        rw [h1]
        exact rowsOf_set rI l i _
      exact gen_again hI (i + 1, j + 1, l.set i (l.getD j default)) ⟨by simpa using hl1, by show i + 1 < j + 1; omega, h', hsuc.symm, by exact (List.drop_set_of_lt (show i < j + 1 by omega)).trans hdr2⟩ (by show vs.length - (j + 1) < vs.length - j; omega)
        (Weak.keepL (by simp [hwj, ends]) (by simp [hwj, hsr, ends]) (by simp [ends]))
    · have g' : isTx x (l.getD j default) = true := by simpa using g
      rw [if_pos g', ← htk] at hsuc
      exact gen_again hI (i, j + 1, l) ⟨hl1, by show i < j + 1; omega, h', hsuc.symm, hdr2⟩ (by show vs.length - (j + 1) < vs.length - j; omega) (Weak.keepL (by simp [hwj, ends]) (by simp [hwj, ends]) (by simp [ends]))
  · simp only [decide_eq_false_iff_not] at h
    obtain rfl : j = vs.length := by omega
    rw [List.take_length] at htk
    have hgi : (goodL x vs).length = i := by rw [← htk]; simp; omega
    have hfin : putRows l i (List.replicate (vs.length - i) 0) = delM x vs := by
      rw [delM, hgi, ← htk]
      simp only [putRows, List.length_replicate]
      rw [List.drop_eq_nil_of_le (by omega), List.append_nil]
    rw [put_rI, hfin, rowsOf_length]
    have hdl : (delM x vs).length = vs.length := by simp only [delM, List.length_append, List.length_replicate]; have := goodL_len x vs; omega
    refine ⟨⟨hl1.symm, ⟨by omega, by omega, by omega⟩, by omega⟩, ⟨hl1.symm, by omega⟩, ⟨hdl.symm, ⟨by omega, by omega⟩, .inl trivial⟩, ?_⟩
    rw [hgi] at hr
    exact ret_sub trivial hr (by simp [ends]) (by simp [ends]) (by simp [ends])
end Go.Proofs.Ythknpcpddlaapaa
namespace Go.Proofs.Ythknpcpddlaapaa
open Go.Am
attribute [local simp, local push_cast] num boo str ints rEv aEv rTk aTk rEg aEg aH vEv vecI aDone boos_ren d5_take d5_drop d5_len
set_option linter.unusedVariables false
set_option maxRecDepth 100000
set_option maxHeartbeats 4000000
/-! The versions of a key. -/
def versL (evs : List Hv) (key : Int) (l : List Hv) : List Int := l.foldl (versStep evs key) [-1]
theorem versL_snoc (evs : List Hv) (key : Int) (l : List Hv) (x : Hv) : versL evs key (l ++ [x]) = versStep evs key (versL evs key l) x := by unfold versL; rw [List.foldl_append]; rfl
theorem versStep_nd {evs : List Hv} {key : Int} {out : List Int} (h : out.Nodup) (x : Hv) : (versStep evs key out x).Nodup := by
  unfold versStep
  split
  · refine List.nodup_append.2 ⟨h.sublist List.filter_sublist, by simp, fun a ha b hb e => ?_⟩
    rw [List.mem_singleton] at hb
    subst hb; subst e
    have := (List.mem_filter.1 ha).2
    simp at this
  · exact h
theorem versL_nd (evs : List Hv) (key : Int) : ∀ l : List Hv, (versL evs key l).Nodup := by
  have : ∀ (l : List Hv) (out : List Int), out.Nodup → (l.foldl (versStep evs key) out).Nodup := by
    intro l
    induction l with
    | nil => intro out h; exact h
    | cons x l ih => intro out h; exact ih _ (versStep_nd h x)
  exact fun l => this l [-1] (by simp)
theorem versL_ln (evs : List Hv) (key : Int) (l : List Hv) : (versL evs key l).length ≤ l.length + 1 := by
  have : ∀ (l : List Hv) (out : List Int), (l.foldl (versStep evs key) out).length ≤ l.length + out.length := by
    intro l
    induction l with
    | nil => intro out; simp
    | cons x l ih =>
      intro out
      have h1 := ih (versStep evs key out x)
      have h2 : (versStep evs key out x).length ≤ out.length + 1 := by
        unfold versStep
        split
        · rw [List.length_append]; have := List.length_filter_le (fun t => t != x.tx) out; simp; omega
        · omega
      simp only [List.foldl_cons, List.length_cons]
      omega
  exact this l [-1]
/-- At most one is taken out. -/
theorem good_len {x : Hv} : ∀ {l : List Int}, l.Nodup → l.length ≤ (goodL x l).length + 1
  | [], _ => by simp
  | t :: l, h => by
    have h2 := List.nodup_cons.1 h
    unfold goodL at *
    rw [List.filter_cons]
    by_cases e : t = x.tx
    · have : l.filter (fun v => !isTx x v) = l := List.filter_eq_self.2 fun v hv => by
        unfold isTx
        have : v ≠ x.tx := fun q => h2.1 (by rw [e, ← q]; exact hv)
        simp [this]
      rw [this]
      split <;> simp
    · have := good_len (x := x) h2.2
      unfold goodL at this
      have hi : (!isTx x t) = true := by unfold isTx; simp [e]
      rw [if_pos hi]
      simp; omega
theorem good_vers (evs : List Hv) (key : Int) (out : List Int) (x : Hv) (h : (((x.kind == 2) && (x.key == key)) && doneM evs x.tx) = true) : versStep evs key out x = goodL x out ++ [x.tx] := by
  unfold versStep
  rw [if_pos h]; rfl
theorem c_versions (start : List Int) (evs : List Hv) (key : Int) (hl : evs.length ≤ 100000) (hv : TxOk evs) : ACall Try.prog 58 [aH start evs, num key] [] (ints (versM evs key)) [] := by
  refine enterq mixed ttok Try.func58 Try.ntmps58 Try.results58 ?_
  generalize hr : ints (versM evs key) = R
  simp -implicitDefEqProofs only [argT, ↓steps, push_cast, simprocAttr, tte]
  refine callq [[1, 5]] [] (c_done start evs (by omega) hv) ?_
  simp -implicitDefEqProofs only [↓steps, push_cast, simprocAttr, tte]
  refine loop_gen mixed ttok (fun n : Nat => (⟨[(15, .d (.lit (.int .i64 n))), (14, .d (.lit (.int .i64 evs.length))), (13, .d (.sl 5 (rowsOf rEv evs))), (6, .vec 500 (versL evs key (evs.take n)).length), (5, .ptr 5 0), (1, num key)], [(5, .var (boos (done5 evs))), (500, vecI (versL evs key (evs.take n)))]⟩ : SL)) (fun n => evs.length - n)
    (fun n => n ≤ evs.length) 0 (Nat.zero_le _) ?_ ?_
  · have e0 : versL evs key [] = [-1] := rfl
    refine (Weak.ren 11 500 (by omega) (by omega) rfl).trans ?_
    simp only [List.take_zero, e0]
    exact Weak.keepL (by simp [renT, renO, ren1to, ends]) (by simp [renT, renO, ren1to, rowsOf, boos_closed, ends]) (by simp [renT, renO, ren1to, ends])
  intro I hI n hn
  have hclo := fun g => boos_closed g (done5 evs)
  have hvl := versL_ln evs key (evs.take n)
  rw [List.length_take] at hvl
  have hnd := versL_nd evs key (evs.take n)
  simp -implicitDefEqProofs only [↓steps, push_cast, simprocAttr, tte]
  refine bcase_intro (fun h => ?_) fun h => ?_
  · simp only [decide_eq_true_eq] at h
    have h' : n < evs.length := by omega
    have hw := wrap_succ h' (by omega)
    have htx := hv _ (getD_mem h')
    have hst : versL evs key (evs.take (n + 1)) = versStep evs key (versL evs key (evs.take n)) (evs.getD n default) := by rw [take_snoc _ _ h', versL_snoc]
    refine ⟨⟨by omega, h⟩, ?_⟩
    generalize hx : evs.getD n default = x at htx hst ⊢
    generalize hO : versL evs key (evs.take n) = O at hvl hnd hst ⊢
    have hat : (boos (done5 evs))[x.tx.toNat * 1]? = some (.d (.lit (.bool (doneM evs x.tx)))) := by
      rw [Nat.mul_one, boos_at (by rw [done5_len]; omega), done5_at evs htx.1 htx.2]
    have hskip : (((x.kind == 2) && (x.key == key)) && doneM evs x.tx) = false → versL evs key (evs.take (n + 1)) = O := fun q => by
      rw [hst]; unfold versStep; rw [if_neg (by rw [q]; decide)]
    refine bcase_intro (fun a => bcase_intro (fun b => ⟨htx, ?_⟩) fun b => ?_) fun a => ?_
    · simp -implicitDefEqProofs only [hat, ↓steps, push_cast, simprocAttr, tte]
      refine bcase_intro (fun c => ?_) fun c => ?_
      · have hst := hst.trans (good_vers evs key O x (by rw [a, b, c]; rfl))
        have hgl := good_len (x := x) hnd
        have hgl2 := goodL_len x O
        refine callx_ofVr 1 [(1000, 500), (1001, 8)] (view_sub (o := 500) (e := 3) (wd := 1) (fz := 0) (rows := rowsOf rI O) (by simp [lookO]) (rowsOf_length _ _).symm) (c_delI x O (by omega)) (by simp [vecI, vEv, ends, bs]) (by simp [ends, bs]) (by simp [vecI, vEv, ends]) (by simp [idsOk, lookO, updO, ren1]) (by simp [lookO, ren1, vecI, vEv, ends]) ?_
        have hdl : (delM x O).length = O.length := by unfold delM; simp only [List.length_append, List.length_replicate]; omega
        have htk : List.take (goodL x O).length (delM x O) = goodL x O := by unfold delM; rw [List.take_left]
        simp -implicitDefEqProofs only [↓steps, push_cast, simprocAttr, tte]
        refine ⟨⟨⟨hdl.symm, Nat.zero_le _⟩, by omega, by omega⟩, drawx_intro (by kernel_rfl), ?_⟩
        rw [htk, ← hst]
        have hel : (goodL x O).length + 1 = (versL evs key (evs.take (n + 1))).length := by rw [hst]; simp
        exact gen_again hI (n + 1) h' (by show evs.length - (n + 1) < evs.length - n; omega) (Weak.keepL (by simp [hw, hel, ends]) (by simp [hclo, ends]) (by simp [ends]))
      · have e1 := hskip (by rw [a, b, c]; rfl)
        exact gen_again hI (n + 1) h' (by show evs.length - (n + 1) < evs.length - n; omega) (Weak.keepL (by simp [hw, e1, ends]) (by simp [hclo, e1, ends]) (by simp [ends]))
    · have e1 := hskip (by rw [b]; simp)
      exact gen_again hI (n + 1) h' (by show evs.length - (n + 1) < evs.length - n; omega) (Weak.keepL (by simp [hw, e1, ends]) (by simp [hclo, e1, ends]) (by simp [ends]))
    · have e1 := hskip (by rw [a]; simp)
      exact gen_again hI (n + 1) h' (by show evs.length - (n + 1) < evs.length - n; omega) (Weak.keepL (by simp [hw, e1, ends]) (by simp [hclo, e1, ends]) (by simp [ends]))
  · simp only [decide_eq_false_iff_not] at h
    obtain rfl : n = evs.length := by omega
    rw [List.take_length]
    subst hr
    refine retx_of [1] rfl trivial ?_ rfl rfl trivial ?_
    · rw [rowsOf_length]
    · simp [ends]
end Go.Proofs.Ythknpcpddlaapaa
namespace Go.Proofs.Ythknpcpddlaapaa
open Go.Am
attribute [local simp, local push_cast] num boo str ints rEv aEv rTk aTk rEg aEg aH vEv vecI aDone boos_ren d5_take d5_drop d5_len
set_option linter.unusedVariables false
set_option maxRecDepth 100000
set_option maxHeartbeats 4000000
/-! What is taken; indices. -/
def vTk (x : Tk) : Ob := .var [num x.by', num x.key, num x.frm]
def sameT (a b : Tk) : Bool := (a.by' == b.by') && ((a.key == b.key) && (a.frm == b.frm))
theorem sameT_iff (a b : Tk) : sameT a b = true ↔ b = a := by
  obtain ⟨a1, a2, a3⟩ := a
  obtain ⟨b1, b2, b3⟩ := b
  unfold sameT
  simp only [Bool.and_eq_true, beq_iff_eq, Tk.mk.injEq]
  omega
theorem rTk_snoc (l : List Tk) (a b c : Int) : rowsOf rTk l ++ [[D.lit (.int .i64 a), D.lit (.int .i64 b), D.lit (.int .i64 c)]] = rowsOf rTk (l ++ [⟨a, b, c⟩]) := by simp [rowsOf, rTk]
attribute [local simp, local push_cast] vTk rTk_snoc
theorem c_idxT (l : List Tk) (x : Tk) (hl : l.length ≤ 1000000) : ACall Try.prog 87 [.d (.sl 3 (rowsOf rTk l)), aTk x] [] (num (fidx (sameT x) l)) [] := by
  refine enterq mixed ttok Try.func87 Try.ntmps87 Try.results87 ?_
  generalize hr : num (fidx (sameT x) l) = R
  simp -implicitDefEqProofs only [argT, ↓steps, push_cast, simprocAttr, tte]
  refine loop_gen mixed ttok (fun n : Nat => (⟨[(8, .d (.lit (.int .i64 n))), (7, .d (.lit (.int .i64 l.length))), (0, .d (.sl 3 (rowsOf rTk l))), (3, .ptr 3 0)], [(3, vTk x)]⟩ : SL)) (fun n => l.length - n) (fun n => n ≤ l.length ∧ ∀ i, i < n → sameT x (l.getD i default) = false) 0 ⟨Nat.zero_le _, fun i h => absurd h (Nat.not_lt_zero _)⟩ ?_ ?_
  · exact Weak.keepL (by simp [ends]) (by simp [ends]) (by simp [ends])
  intro I hI n ⟨hn, hi⟩
  simp -implicitDefEqProofs only [↓steps, push_cast, simprocAttr, tte]
  refine bcase_intro (fun h => ?_) fun h => ?_
  · simp only [decide_eq_true_eq] at h
    have h' : n < l.length := by omega
    have hw := wrap_succ h' (by omega)
    have hsm : sameT x (l.getD n default) = ((x.by' == (l.getD n default).by') && ((x.key == (l.getD n default).key) && (x.frm == (l.getD n default).frm))) := rfl
    refine ⟨⟨by omega, h⟩, drawx_intro (by kernel_rfl), ?_⟩
    rw [← hsm]
    refine bcase_intro (fun g => ?_) fun g => ?_
    · exact ret_d trivial (by rw [← hr, fidx_at (sameT x) l n h' hi g]; rfl) (by simp [ends])
    · exact gen_again hI (n + 1) ⟨by omega, fun i h2 => if h3 : i = n then by rw [h3]; exact g else hi i (by omega)⟩ (by show l.length - (n + 1) < l.length - n; omega) (Weak.keepL (by simp [hw, ends]) (by simp [ends]) (by simp [ends]))
  · simp only [decide_eq_false_iff_not] at h
    obtain rfl : n = l.length := by omega
    exact ret_d trivial (by rw [← hr, fidx_none (sameT x) l hi]; rfl) (by simp [ends])
theorem fidx_any {α : Type} (p : α → Bool) (l : List α) : decide (fidx p l ≥ 0) = l.any p := by
  rw [Bool.eq_iff_iff, decide_eq_true_eq]
  cases q : l.any p with
  | false => have := (fidx_neg p l).2 q; simp; omega
  | true => have : ¬ fidx p l < 0 := fun z => absurd ((fidx_neg p l).1 z) (by rw [q]; decide)
            simp; omega
theorem any_same (l : List Tk) (x : Tk) : l.any (sameT x) = decide (x ∈ l) := by
  rw [Bool.eq_iff_iff, List.any_eq_true, decide_eq_true_eq]
  constructor
  · rintro ⟨y, hy, h⟩
    rw [sameT_iff] at h
    rw [← h]; exact hy
  · exact fun h => ⟨x, h, (sameT_iff x x).2 rfl⟩
theorem c_conT (l : List Tk) (x : Tk) (hl : l.length ≤ 1000000) : ACall Try.prog 80 [.d (.sl 3 (rowsOf rTk l)), aTk x] [] (boo (decide (x ∈ l))) [] := by
  refine enterq mixed ttok Try.func80 Try.ntmps80 Try.results80 ?_
  generalize hr : boo (decide (x ∈ l)) = R
  simp -implicitDefEqProofs only [argT, ↓steps, push_cast, simprocAttr, tte]
  refine callq [[3], [0, 0, 0]] [] (c_idxT l x hl) ?_
  simp -implicitDefEqProofs only [↓steps, push_cast, simprocAttr, tte]
  exact ret_d trivial (by rw [← hr, fidx_any, any_same]; rfl) (by simp [ends])
theorem c_idxN (l : List Int) (x : Int) (hl : l.length ≤ 1000000) : ACall Try.prog 48 [ints l, num x] [] (num (fidx (fun y => x == y) l)) [] := by
  refine enterq mixed ttok Try.func48 Try.ntmps48 Try.results48 ?_
  generalize hr : num (fidx (fun y => x == y) l) = R
  simp -implicitDefEqProofs only [argT, ↓steps, push_cast, simprocAttr, tte]
  refine loop_gen mixed ttok (fun n : Nat => (⟨[(8, .d (.lit (.int .i64 n))), (7, .d (.lit (.int .i64 l.length))), (0, ints l), (1, num x)], []⟩ : SL)) (fun n => l.length - n) (fun n => n ≤ l.length ∧ ∀ i, i < n → (x == l.getD i default) = false) 0 ⟨Nat.zero_le _, fun i h => absurd h (Nat.not_lt_zero _)⟩ ?_ ?_
  · exact Weak.keepL (by simp [ends]) (by simp [ends]) (by simp [ends])
  intro I hI n ⟨hn, hi⟩
  simp -implicitDefEqProofs only [rI, ↓steps, push_cast, simprocAttr, tte]
  refine bcase_intro (fun h => ?_) fun h => ?_
  · simp only [decide_eq_true_eq] at h
    have h' : n < l.length := by omega
    have hw := wrap_succ h' (by omega)
    refine ⟨⟨by omega, h⟩, ?_⟩
    refine bcase_intro (fun g => ?_) fun g => ?_
    · exact ret_d trivial (by rw [← hr, fidx_at _ l n h' hi g]; rfl) (by simp [ends])
    · exact gen_again hI (n + 1) ⟨by omega, fun i h2 => if h3 : i = n then by rw [h3]; exact g else hi i (by omega)⟩ (by show l.length - (n + 1) < l.length - n; omega) (Weak.keepL (by simp [hw, ends]) (by simp [ends]) (by simp [ends]))
  · simp only [decide_eq_false_iff_not] at h
    obtain rfl : n = l.length := by omega
    exact ret_d trivial (by rw [← hr, fidx_none _ l hi]; rfl) (by simp [ends])
theorem c_conN (l : List Int) (x : Int) (hl : l.length ≤ 1000000) : ACall Try.prog 29 [ints l, num x] [] (boo (l.contains x)) [] := by
  refine enterq mixed ttok Try.func29 Try.ntmps29 Try.results29 ?_
  generalize hr : boo (l.contains x) = R
  simp -implicitDefEqProofs only [argT, ↓steps, push_cast, simprocAttr, tte]
  refine callq [[1], []] [] (c_idxN l x hl) ?_
  simp -implicitDefEqProofs only [↓steps, push_cast, simprocAttr, tte]
  exact ret_d trivial (by rw [← hr, fidx_any, List.contains_eq_any_beq]; rfl) (by simp [ends])
theorem fidx_ix (l : List Int) (x : Int) : fidx (fun y => x == y) l = ixE l x := by
  unfold ixE
  induction l with
  | nil => rfl
  | cons y l ih =>
    rw [fidx, List.idxOf?_cons]
    by_cases h : x = y
    · subst h; simp
    · rw [if_neg (by simp [h])]
      have : (y == x) = false := by simp; exact fun q => h q.symm
      rw [this]
      simp only [Bool.false_eq_true, if_false]
      rw [ih]
      cases q : List.idxOf? x l with
      | none => simp
      | some i => simp; omega
end Go.Proofs.Ythknpcpddlaapaa
namespace Go.Proofs.Ythknpcpddlaapaa
open Go.Am
attribute [local simp, local push_cast] num boo str ints rEv aEv rTk aTk rEg aEg aH vEv vecI aDone boos_ren d5_take d5_drop d5_len vTk rTk_snoc
set_option linter.unusedVariables false
set_option maxRecDepth 100000
set_option maxHeartbeats 4000000
/-! What committed transactions take. -/
def FrOk (evs : List Hv) : Prop := ∀ x ∈ evs, x.kind = 1 → x.frm < 5
theorem read_fr {start : List Int} {before : List Hv} {x : Hv} (ht : TxOk before) (hx : x.tx < 5) (h : readsM start before x = true) : x.frm < 5 := by
  unfold readsM at h
  split at h
  · rw [Bool.and_eq_true, beq_iff_eq] at h
    omega
  · split at h
    · rename_i q; rw [q]; decide
    · rw [Bool.and_eq_true, List.any_eq_true] at h
      obtain ⟨_, w, hw, h2⟩ := h
      unfold ownOf at h2
      simp only [Bool.and_eq_true, beq_iff_eq] at h2
      have := ht w hw
      omega
theorem ok_fr {start : List Int} : ∀ (l pre : List Hv), TxOk pre → okEvs start pre l = true → ∀ x ∈ l, x.kind = 1 → x.frm < 5
  | [], _, _, _, x, hx, _ => absurd hx (by simp)
  | y :: l, pre, hp, h, x, hx, hk => by
    rw [okEvs, Bool.and_eq_true] at h
    have hr := h.1
    unfold rightM at hr
    simp only [Bool.and_eq_true, decide_eq_true_eq] at hr
    rcases List.mem_cons.1 hx with rfl | hx
    · have hb := hr.2.2.2
      unfold bodyM at hb
      rw [if_neg (by omega), if_neg (by omega), if_pos hk, Bool.and_eq_true] at hb
      exact read_fr hp hr.1.2 hb.2
    · refine ok_fr l (pre ++ [y]) (fun z hz => ?_) h.2 x hx hk
      rcases List.mem_append.1 hz with hz | hz
      · exact hp z hz
      · rw [List.mem_singleton] at hz; rw [hz]; exact hr.1
theorem valid_fr {start : List Int} {evs : List Hv} (h : validH start evs = true) : FrOk evs := by
  unfold validH at h
  rw [Bool.and_eq_true] at h
  exact ok_fr evs [] (fun x hx => absurd hx (by simp)) h.2
theorem takes_ln (evs : List Hv) : ∀ (l : List Hv) (out : List Tk), (l.foldl (takeStep evs) out).length ≤ l.length + out.length
  | [], out => by simp
  | x :: l, out => by
    have h1 := takes_ln evs l (takeStep evs out x)
    have h2 : (takeStep evs out x).length ≤ out.length + 1 := by
      unfold takeStep
      split
      · omega
      · split
        · omega
        · simp
    simp only [List.foldl_cons, List.length_cons]
    omega
def takesL (evs l : List Hv) : List Tk := l.foldl (takeStep evs) []
theorem takesL_snoc (evs l : List Hv) (x : Hv) : takesL evs (l ++ [x]) = takeStep evs (takesL evs l) x := by unfold takesL; rw [List.foldl_append]; rfl
theorem c_takes (start : List Int) (evs : List Hv) (hl : evs.length ≤ 100000) (hv : TxOk evs) (hf : FrOk evs) : ACall Try.prog 59 [aH start evs] [] (.d (.sl 3 (rowsOf rTk (takesM evs)))) [] := by
  refine enterq mixed ttok Try.func59 Try.ntmps59 Try.results59 ?_
  generalize hr : A.d (.sl 3 (rowsOf rTk (takesM evs))) = R
  simp -implicitDefEqProofs only [argT, ↓steps, push_cast, simprocAttr, tte]
  refine callq [[1, 5]] [] (c_done start evs (by omega) hv) ?_
  simp -implicitDefEqProofs only [↓steps, push_cast, simprocAttr, tte]
  refine loop_gen mixed ttok (fun z : Nat × Nat => (⟨[(13, .d (.lit (.int .i64 z.1))), (12, .d (.lit (.int .i64 evs.length))), (11, .d (.sl 5 (rowsOf rEv evs))), (4, .vec 500 (takesL evs (evs.take z.1)).length), (3, .ptr 3 0)], [(3, .var (boos (done5 evs))), (500, .vec 110 3 (rowsOf rTk (takesL evs (evs.take z.1))) z.2)]⟩ : SL)) (fun z => evs.length - z.1)
    (fun z => z.1 ≤ evs.length) (0, 0) (Nat.zero_le _) ?_ ?_
  · have e0 : takesL evs [] = [] := rfl
    have hclo := fun g => boos_closed g (done5 evs)
    refine (Weak.nilL 4 500 110 3 rfl rfl).trans ?_
    simp only [List.take_zero, e0]
    exact Weak.keepL (by simp [ends]) (by simp [hclo, rowsOf, ends]) (by simp [ends])
  intro I hI ⟨n, fz⟩ hn
  simp only at hn
  have hclo := fun g => boos_closed g (done5 evs)
  have htl := takes_ln evs (evs.take n) []
  rw [List.length_take] at htl
  simp -implicitDefEqProofs only [↓steps, push_cast, simprocAttr, tte]
  refine bcase_intro (fun h => ?_) fun h => ?_
  · simp only [decide_eq_true_eq] at h
    have h' : n < evs.length := by omega
    have hw := wrap_succ h' (by omega)
    have hst : takesL evs (evs.take (n + 1)) = takeStep evs (takesL evs (evs.take n)) (evs.getD n default) := by rw [take_snoc _ _ h', takesL_snoc]
    have htx := hv _ (getD_mem h')
    have hfr := hf _ (getD_mem h')
    refine ⟨⟨by omega, h⟩, ?_⟩
    generalize hx : evs.getD n default = x at htx hfr hst ⊢
    change (takesL evs (evs.take n)).length ≤ _ at htl
    generalize hO : takesL evs (evs.take n) = O at htl hst ⊢
    have hat : (boos (done5 evs))[x.tx.toNat * 1]? = some (.d (.lit (.bool (doneM evs x.tx)))) := by
      rw [Nat.mul_one, boos_at (by rw [done5_len]; omega), done5_at evs htx.1 htx.2]
    have hskip : takeSkip evs x = true → takesL evs (evs.take (n + 1)) = O := fun q => by
      rw [hst]; unfold takeStep; rw [if_pos q]
    have hsk : takeSkip evs x = ((((x.kind != 1) || !doneM evs x.tx) || (x.frm == x.tx)) || (decide (x.frm ≥ 0) && !doneM evs x.frm)) := rfl
    have hno : takeSkip evs x = false → takesL evs (evs.take (n + 1)) = if (⟨x.tx, x.key, x.frm⟩ : Tk) ∈ O then O else O ++ [⟨x.tx, x.key, x.frm⟩] := fun q => by
      rw [hst]; unfold takeStep; rw [if_neg (by rw [q]; decide)]
    have htk : O.length ≤ 100000 := by simp at htl; omega
    refine bcase_intro (fun a => ?_) fun a => ?_
    · have e1 := hskip (by rw [hsk, a]; simp)
      exact gen_again hI (n + 1, fz) h' (by show evs.length - (n + 1) < evs.length - n; omega) (Weak.keepL (by simp [hw, e1, ends]) (by simp [hclo, e1, ends]) (by simp [ends]))
    refine ⟨htx, ?_⟩
    simp -implicitDefEqProofs only [hat, ↓steps, push_cast, simprocAttr, tte]
    refine bcase_intro (fun b => ?_) fun b => ?_
    · have e1 := hskip (by rw [hsk, b]; simp)
      exact gen_again hI (n + 1, fz) h' (by show evs.length - (n + 1) < evs.length - n; omega) (Weak.keepL (by simp [hw, e1, ends]) (by simp [hclo, e1, ends]) (by simp [ends]))
    refine bcase_intro (fun c => ?_) fun c => ?_
    · have e1 := hskip (by rw [hsk, c]; simp)
      exact gen_again hI (n + 1, fz) h' (by show evs.length - (n + 1) < evs.length - n; omega) (Weak.keepL (by simp [hw, e1, ends]) (by simp [hclo, e1, ends]) (by simp [ends]))
    have hk1 : x.kind = 1 := by simpa using a
    have hfr := hfr hk1
    refine bcase_intro (fun d => ?_) fun d => ?_
    · have d0 : 0 ≤ x.frm := by simpa using d
      have hat2 : (boos (done5 evs))[x.frm.toNat * 1]? = some (.d (.lit (.bool (doneM evs x.frm)))) := by
        rw [Nat.mul_one, boos_at (by rw [done5_len]; omega), done5_at evs d0 hfr]
      refine ⟨⟨d0, hfr⟩, ?_⟩
      simp -implicitDefEqProofs only [hat2, ↓steps, push_cast, simprocAttr, tte]
      refine bcase_intro (fun e => ?_) fun e => ?_
      · have e1 := hskip (by rw [hsk, d, e]; simp)
        exact gen_again hI (n + 1, fz) h' (by show evs.length - (n + 1) < evs.length - n; omega) (Weak.keepL (by simp [hw, e1, ends]) (by simp [hclo, e1, ends]) (by simp [ends]))
      have hst2 := hno (by rw [hsk, a, b, c, d, e]; rfl)
      refine callq [[3], [0, 0, 0]] [] (c_conT O ⟨x.tx, x.key, x.frm⟩ (by omega)) ?_
      simp -implicitDefEqProofs only [↓steps, push_cast, simprocAttr, tte]
      by_cases g : (⟨x.tx, x.key, x.frm⟩ : Tk) ∈ O
      · rw [if_pos g] at hst2
        refine bcase_intro (fun q => absurd q (by simp [g])) fun _ => ?_
        exact gen_again hI (n + 1, O.length) h' (by show evs.length - (n + 1) < evs.length - n; omega) (Weak.keepL (by simp [hw, hst2, ends]) (by simp [hclo, hst2, ends]) (by simp [ends]))
      · rw [if_neg g] at hst2
        refine bcase_intro (fun _ => ?_) fun q => absurd q (by simp [g])
        refine ⟨by omega, ?_⟩
        exact gen_again hI (n + 1, O.length) h' (by show evs.length - (n + 1) < evs.length - n; omega) (Weak.keepL (by simp [hw, hst2, ends]) (by simp [hclo, hst2, ends]) (by simp [ends]))
    · have hst2 := hno (by rw [hsk, a, b, c, d]; rfl)
      refine callq [[3], [0, 0, 0]] [] (c_conT O ⟨x.tx, x.key, x.frm⟩ (by omega)) ?_
      simp -implicitDefEqProofs only [↓steps, push_cast, simprocAttr, tte]
      by_cases g : (⟨x.tx, x.key, x.frm⟩ : Tk) ∈ O
      · rw [if_pos g] at hst2
        refine bcase_intro (fun q => absurd q (by simp [g])) fun _ => ?_
        exact gen_again hI (n + 1, O.length) h' (by show evs.length - (n + 1) < evs.length - n; omega) (Weak.keepL (by simp [hw, hst2, ends]) (by simp [hclo, hst2, ends]) (by simp [ends]))
      · rw [if_neg g] at hst2
        refine bcase_intro (fun _ => ?_) fun q => absurd q (by simp [g])
        refine ⟨by omega, ?_⟩
        exact gen_again hI (n + 1, O.length) h' (by show evs.length - (n + 1) < evs.length - n; omega) (Weak.keepL (by simp [hw, hst2, ends]) (by simp [hclo, hst2, ends]) (by simp [ends]))
  · simp only [decide_eq_false_iff_not] at h
    obtain rfl : n = evs.length := by omega
    rw [List.take_length]
    subst hr
    refine retx_of [3] rfl trivial ?_ rfl rfl trivial ?_
    · rw [rowsOf_length]
    · simp [ends]
end Go.Proofs.Ythknpcpddlaapaa
