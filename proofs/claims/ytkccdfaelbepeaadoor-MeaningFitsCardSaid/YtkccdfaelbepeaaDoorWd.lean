/- Whether an instance can be asked about a schema: a proof over an abstract machine of our own (part Wd) -/
import Derived.Test.YtkccdfaelbepeaaDoorWc
set_option linter.all false

namespace Go.Proofs.YtkccdfaelbepeaaDoor
open Go.Am
set_option linter.unusedVariables false
set_option maxRecDepth 100000
set_option maxHeartbeats 4000000

def ownR (ts : List Int) (e : Ex) (l : List Int) : Int × Int :=
  if !(isOp e.op && cleanM e) then (0, 1)
  else if !countM e then (0, 9)
  else if (e.op == 5 && (decide (e.col < 0) || decide (e.col ≥ ts.length))) then (0, 3)
  else if (decide (resultR ts e l < 1) || decide (resultR ts e l > 3)) then (0, 4)
  else (resultR ts e l, 0)
def isT (k : Int) : Prop := 1 ≤ k ∧ k ≤ 3

theorem own_tab0 : ∀ n ∈ List.range 29,
    n = 0 ∨ (n = 1 ∨ n = 5) ∧ (opTab.getD n default).types = 0 ∨ n = 2 ∧ (opTab.getD n default).types = 0 ∧ (opTab.getD n default).own = 1 ∨ n = 3 ∧ (opTab.getD n default).types = 0 ∧ (opTab.getD n default).own = 2 ∨
    n = 4 ∧ (opTab.getD n default).types = 0 ∧ (opTab.getD n default).own = 3 ∨ (6 ≤ n ∧ n ≤ 11) ∧ (opTab.getD n default).types = 1 ∧ (opTab.getD n default).own = 1 ∨ n = 12 ∧ (opTab.getD n default).types = 2 ∧ (opTab.getD n default).own = 3 ∨
    n = 13 ∧ (opTab.getD n default).types = 2 ∧ (opTab.getD n default).own = 1 ∨ n = 21 ∧ (opTab.getD n default).types = 5 ∧ (opTab.getD n default).own = 2 ∨ (22 ≤ n ∧ n ≤ 25) ∧ (opTab.getD n default).types = 3 ∧ (opTab.getD n default).own = 2 ∨
    n = 26 ∧ (opTab.getD n default).types = 6 ∧ (opTab.getD n default).own = 0 ∨ n = 27 ∧ (opTab.getD n default).types = 4 ∧ (opTab.getD n default).own = 0 ∨ ((14 ≤ n ∧ n ≤ 20) ∨ n = 28) ∧ (opTab.getD n default).types = 4 ∧ (opTab.getD n default).own = 2 := by decide
theorem all_1 (l : List Int) (v : Int) : allIs l v = l.all fun x => x == v := rfl
theorem okF_type {e : Ex} (h : cleanM e = true) (h1 : e.op = 1) : 1 ≤ e.type ∧ e.type ≤ 3 := by
  simp [cleanM, okF, h1] at h; omega
theorem own_eq (ts : List Int) (e : Ex) (l : List Int) (hl : l.length = e.kids.length) (hk : ∀ x ∈ l, isT x) : ownM ts e l = ownR ts e l := by
  unfold ownM ownR
  by_cases ho' : isOp e.op = false
  · simp [ho']
  have ho : isOp e.op = true := by simpa using ho'
  by_cases hc' : cleanM e = false
  · simp [hc']
  have hc : cleanM e = true := by simpa using hc'
  by_cases hn' : countM e = false
  · simp [hn', ho, hc]
  have hn : countM e = true := by simpa using hn'
  by_cases h3 : (e.op == 5 && (decide (e.col < 0) || decide (e.col ≥ ts.length))) = true
  · rw [ho, hc, hn, h3]; rfl
  have h3' : (e.op == 5 && (decide (e.col < 0) || decide (e.col ≥ ts.length))) = false := by simpa using h3
  rw [ho, hc, hn, h3']
  simp only [Bool.not_true, Bool.or_self, Bool.false_eq_true, if_false, Bool.and_self]
  have hcount := count_kids hn
  obtain ⟨n, n1, n2, n3⟩ := op_cases ho
  have hf : findM e.op = opTab.getD n default := by rw [findM, ho, if_pos rfl, opAt, n3, Int.toNat_natCast]
  have ht := own_tab0 n (by simpa using n1)
  have hkt := kids_tab0 n (by simpa using n1)
  rw [hf] at hcount ⊢
  generalize hO : opTab.getD n default = o at ht hkt hcount
  obtain ⟨w, kn, ty, ow⟩ := o
  simp only at ht hkt hcount
  unfold fitM resultR
  rcases ht with h | ⟨h, ht⟩ | ⟨h, ht, ht2⟩ | ⟨h, ht, ht2⟩ | ⟨h, ht, ht2⟩ | ⟨h, ht, ht2⟩ | ⟨h, ht, ht2⟩ | ⟨h, ht, ht2⟩ | ⟨h, ht, ht2⟩ | ⟨h, ht, ht2⟩ | ⟨h, ht, ht2⟩ | ⟨h, ht, ht2⟩ | ⟨h, ht, ht2⟩
  · omega
  · rcases h with h | h
    · have he : e.op = 1 := by omega
      have := okF_type hc he
      have h4 : ¬ e.type < 1 := by omega
      have h5 : ¬ 3 < e.type := by omega
      simp [he, ht, h4, h5]
    · have he : e.op = 5 := by omega
      simp only [he, ht]
      generalize ts.getD e.col.toNat default = v
      simp [isTypeM]
      split <;> split <;> (try rfl) <;> (exfalso; omega)
  · have he : e.op = 2 := by omega
    simp [he, ht, ht2]
  · have he : e.op = 3 := by omega
    simp [he, ht, ht2]
  · have he : e.op = 4 := by omega
    simp [he, ht, ht2]
  · have hno : numsOp e.op = true := by simp [numsOp]; omega
    have e1 : ¬ e.op = 1 := by omega
    have e2 : ¬ e.op = 2 := by omega
    have e3 : ¬ e.op = 3 := by omega
    have e4 : ¬ e.op = 4 := by omega
    have e5 : ¬ e.op = 5 := by omega
    by_cases ha : (l.all fun x => x == 1) = true
    · simp [e1, e2, e3, e4, e5, hno, ht, ht2, ha, allIs]
    · have ha' : (l.all fun x => x == 1) = false := by simpa using ha
      simp [e1, e2, e3, e4, e5, hno, ht, ht2, ha', allIs]
  · have he : e.op = 12 := by omega
    by_cases ha : (l.all fun x => x == 3) = true
    · simp [he, numsOp, ht, ht2, ha, allIs]
    · have ha' : (l.all fun x => x == 3) = false := by simpa using ha
      simp [he, numsOp, ht, ht2, ha', allIs]
  · have he : e.op = 13 := by omega
    by_cases ha : (l.all fun x => x == 3) = true
    · simp [he, numsOp, ht, ht2, ha, allIs]
    · have ha' : (l.all fun x => x == 3) = false := by simpa using ha
      simp [he, numsOp, ht, ht2, ha', allIs]
  · have he : e.op = 21 := by omega
    simp [he, numsOp, ht, ht2]
  · have hno : numsOp e.op = false := by simp [numsOp]; omega
    have htr : truthOp e.op = true := by simp [truthOp]; omega
    have e1 : ¬ e.op = 1 := by omega
    have e2 : ¬ e.op = 2 := by omega
    have e3 : ¬ e.op = 3 := by omega
    have e4 : ¬ e.op = 4 := by omega
    have e5 : ¬ e.op = 5 := by omega
    have e12 : ¬ e.op = 12 := by omega
    have e13 : ¬ e.op = 13 := by omega
    have e21 : ¬ e.op = 21 := by omega
    by_cases ha : (l.all fun x => x == 2) = true
    · simp [e1, e2, e3, e4, e5, e12, e13, e21, hno, htr, ht, ht2, ha, allIs]
    · have ha' : (l.all fun x => x == 2) = false := by simpa using ha
      simp [e1, e2, e3, e4, e5, e12, e13, e21, hno, htr, ht, ht2, ha', allIs]
  · have he : e.op = 26 := by omega
    have hl3 : l.length = 3 := by omega
    obtain ⟨a, b, c, rfl⟩ : ∃ a b c, l = [a, b, c] := by
      match l, hl3 with
      | [a, b, c], _ => exact ⟨a, b, c, rfl⟩
    have hb : isT b := hk b (by simp)
    have h4 : ¬ b < 1 := by have := hb.1; omega
    have h5 : ¬ 3 < b := by have := hb.2; omega
    simp only [he, ht, ht2]
    by_cases q1 : a = 2 <;> by_cases q2 : b = c <;> simp [numsOp, truthOp, q1, q2] <;> (have hb1 := hb.1; have hb2 := hb.2; omega)
  · have he : e.op = 27 := by omega
    have hl2 : l.length = 2 := by omega
    obtain ⟨a, b, rfl⟩ : ∃ a b, l = [a, b] := by
      match l, hl2 with
      | [a, b], _ => exact ⟨a, b, rfl⟩
    have hb : isT a := hk a (by simp)
    have h4 : ¬ a < 1 := by have := hb.1; omega
    have h5 : ¬ 3 < a := by have := hb.2; omega
    simp only [he, ht, ht2]
    by_cases q2 : a = b
    · subst q2; simp [numsOp, truthOp, h4, h5]
    · have q3 : ¬ b = a := fun e => q2 e.symm
      simp [numsOp, truthOp, q2, q3]
  · have hno : numsOp e.op = false := by simp [numsOp]; omega
    have htr : truthOp e.op = false := by simp [truthOp]; omega
    have e1 : ¬ e.op = 1 := by omega
    have e2 : ¬ e.op = 2 := by omega
    have e3 : ¬ e.op = 3 := by omega
    have e4 : ¬ e.op = 4 := by omega
    have e5 : ¬ e.op = 5 := by omega
    have e12 : ¬ e.op = 12 := by omega
    have e13 : ¬ e.op = 13 := by omega
    have e21 : ¬ e.op = 21 := by omega
    have e26 : ¬ e.op = 26 := by omega
    have e27 : ¬ e.op = 27 := by omega
    by_cases ha : (l.all fun x => x == l.getD 0 default) = true
    · simp only [allIs, ha]
      simp [e1, e2, e3, e4, e5, e12, e13, e21, e26, e27, hno, htr, ht, ht2]
    · have ha' : (l.all fun x => x == l.getD 0 default) = false := by simpa using ha
      simp only [allIs, ha']
      simp [e1, e2, e3, e4, e5, e12, e13, e21, e26, e27, hno, htr, ht, ht2]
theorem own_isT (ts : List Int) (e : Ex) (l : List Int) (h : (ownR ts e l).2 = 0) : isT (ownR ts e l).1 := by
  unfold ownR at h ⊢
  split at h
  · cases h
  · split at h
    · cases h
    · split at h
      · cases h
      · split at h
        · cases h
        · rename_i h4
          rw [if_neg (by assumption), if_neg (by assumption), if_neg (by assumption), if_neg (by assumption)]
          simp only [Bool.or_eq_true, decide_eq_true_eq, not_or] at h4
          exact ⟨by omega, by omega⟩
theorem typK_isT {ts : List Int} {e : Ex} {rs : List (Int × Int)} (h : (typK (ownR ts) e rs).2 = 0) : isT (typK (ownR ts) e rs).1 := by
  unfold typK at h ⊢
  split
  · rename_i h1; rw [if_pos h1] at h; exact own_isT _ _ _ h
  · rename_i h1; rw [if_neg h1] at h; exact absurd h h1
theorem typ_isT {ts : List Int} {e : Ex} (h : (typG (ownR ts) e).2 = 0) : isT (typG (ownR ts) e).1 := by
  rw [typG_eq] at h ⊢; exact typK_isT h
theorem ferr_zero' {α : Type} {f : α → Int} {l : List α} (h : ferr f l = 0) : ∀ x ∈ l, f x = 0 := ferr_zero h
theorem typ_eq (ts : List Int) : ∀ e : Ex, typG (ownM ts) e = typG (ownR ts) e := ex_ind (p := fun e => typG (ownM ts) e = typG (ownR ts) e) fun e ih => by
  rw [typG_eq, typG_eq]
  have hm : e.kids.map (typG (ownM ts)) = e.kids.map (typG (ownR ts)) := List.map_congr_left fun k hk => ih k hk
  rw [hm, typK, typK]
  split
  · rename_i h
    refine own_eq ts e _ (by simp) fun x hx => ?_
    simp only [List.map_map, List.mem_map, Function.comp] at hx
    obtain ⟨k, hk, rfl⟩ := hx
    have := ferr_zero h _ (List.mem_map.2 ⟨k, hk, rfl⟩)
    exact typ_isT this
  · rfl

theorem tys_isT {ts : List Int} {e : Ex} {n : Nat} (hn : n ≤ e.kids.length) (h : ∀ i, i < n → (typG (ownR ts) (e.kids.getD i default)).2 = 0) : ∀ x ∈ tysTo (ownR ts) e n, isT x := by
  intro x hx
  simp only [tysTo, List.mem_map] at hx
  obtain ⟨k, hk, rfl⟩ := hx
  obtain ⟨i, hi, rfl⟩ := List.getElem_of_mem hk
  have hi2 : i < n := by simp at hi; omega
  have := h i hi2
  rw [List.getD_eq_getElem?_getD, List.getElem?_eq_getElem (by omega)] at this
  rw [List.getElem_take]
  exact typ_isT this

theorem c_typed (ts : List Int) (hts : ts.length ≤ 1000000000) : ∀ e : Ex, Ok12 e → ACall Tryd.prog 125 [ints ts, aE e] [] (pairA (typG (ownR ts) e)) [] :=
  ex_ind (p := fun e => Ok12 e → ACall Tryd.prog 125 [ints ts, aE e] [] (pairA (typG (ownR ts) e)) []) fun e ih ho => by
  refine ACall.enter mixed ttok Tryd.func125 rfl rfl _ Tryd.ntmps125 (Nat.le_of_ble_eq_true rfl) (by kernel_rfl) _ (congrArg Array.toList Tryd.results125) ?_
  generalize hr : pairA (typG (ownR ts) e) = R
  have hl := ho.kids
  simp -implicitDefEqProofs only [argT, ↓steps, push_cast, reduceIte, Nat.reduceEqDiff, Nat.reduceAdd, Nat.reduceMul, Nat.reduceLT, Nat.reduceLeDiff, Int.reduceToNat, Int.reduceLE, Int.reduceLT, reduceCtorEq, tte, num, boo, str, ints, aV, aTab, aInst, aS, aT, aC, found, pairA, aFk, vT]
  refine loop_count mixed ttok 7 [0, 3] [3] (by simp only [pickT, ends, ite_true, ite_false, reduceIte, Nat.reduceEqDiff, Nat.reduceLeDiff, Nat.reduceLT, Nat.reduceAdd, reduceCtorEq, num, boo, str, ints, aV, aTab, aInst, aS, aT, aC, found, pairA, aFk, vT]; rfl) (by simp only [pickO, consO_some, ends, ite_true, ite_false, reduceIte, Nat.reduceEqDiff, Nat.reduceLeDiff, Nat.reduceLT, Nat.reduceAdd, reduceCtorEq, num, boo, str, ints, aV, aTab, aInst, aS, aT, aC, found, pairA, aFk, vT]; rfl) e.kids.length (fun n => ∀ i, i < n → (typG (ownR ts) (e.kids.getD i default)).2 = 0) (fun n => [(6, .vec 500 n)]) (fun n => [(500, .vec 3 1 (rowsOf rI (tysTo (ownR ts) e n)) 0)]) (fun i h => absurd h (Nat.not_lt_zero _)) ?_ ?_
  · exact (Weak.nilL 6 500 3 1 rfl rfl).trans (Weak.keepL (by simp [cst, ends, ite_true, ite_false, reduceIte, Nat.reduceEqDiff, Nat.reduceLeDiff, Nat.reduceLT, Nat.reduceAdd, reduceCtorEq, num, boo, str, ints, aV, aTab, aInst, aS, aT, aC, found, pairA, aFk, vT]) (by simp [cst, tysTo, ends, ite_true, ite_false, reduceIte, Nat.reduceEqDiff, Nat.reduceLeDiff, Nat.reduceLT, Nat.reduceAdd, reduceCtorEq, num, boo, str, ints, aV, aTab, aInst, aS, aT, aC, found, pairA, aFk, vT]) (by simp [cst, ends, ite_true, ite_false, reduceIte, Nat.reduceEqDiff, Nat.reduceLeDiff, Nat.reduceLT, Nat.reduceAdd, reduceCtorEq, num, boo, str, ints, aV, aTab, aInst, aS, aT, aC, found, pairA, aFk, vT]))
  intro I hI n hn hi
  have hl2 := tysTo_length (ownR ts) e n hn
  simp -implicitDefEqProofs only [cst, ↓steps, push_cast, reduceIte, Nat.reduceEqDiff, Nat.reduceAdd, Nat.reduceMul, Nat.reduceLT, Nat.reduceLeDiff, Int.reduceToNat, Int.reduceLE, Int.reduceLT, reduceCtorEq, tte, num, boo, str, ints, aV, aTab, aInst, aS, aT, aC, found, pairA, aFk, vT]
  refine bcase_intro (fun h => ?_) fun h => ?_
  · simp only [decide_eq_true_eq] at h
    have h' : n < e.kids.length := by omega
    have hw := wrap_succ h' (by omega)
    have hs := tysTo_succ (ownR ts) e n h'
    refine ⟨(by first | omega | trivial | (refine ⟨?_, ?_⟩ <;> first | omega | trivial | (refine ⟨?_, ?_⟩ <;> first | omega | trivial | (refine ⟨?_, ?_⟩ <;> first | omega | trivial | rfl)))), ?_⟩
    refine callx_of [[1], [0, 0, 0, 0, 0, 6]] [] rfl (ih _ (getD_mem h') (ho.kid (getD_mem h'))) (by first | (simp; done) | (simp [rowsOf_length]; done) | (simp [rowsOf_length]; omega)) (by first | (simp only [ends, ite_true, ite_false, reduceIte, Nat.reduceEqDiff, Nat.reduceLeDiff, Nat.reduceLT, Nat.reduceAdd, reduceCtorEq, num, boo, str, ints, aV, aTab, aInst, aS, aT, aC, found, pairA, aFk, vT, num, boo, str, aE_eq, aV]; done) | simp [ends, ite_true, ite_false, reduceIte, Nat.reduceEqDiff, Nat.reduceLeDiff, Nat.reduceLT, Nat.reduceAdd, reduceCtorEq, num, boo, str, ints, aV, aTab, aInst, aS, aT, aC, found, pairA, aFk, vT, num, boo, str, aE_eq, aV]) (by first | rfl | (simp only [ends, ite_true, ite_false, reduceIte, Nat.reduceEqDiff, Nat.reduceLeDiff, Nat.reduceLT, Nat.reduceAdd, reduceCtorEq, num, boo, str, ints, aV, aTab, aInst, aS, aT, aC, found, pairA, aFk, vT, num, boo, str, aE_eq, aV]; done) | simp [ends, ite_true, ite_false, reduceIte, Nat.reduceEqDiff, Nat.reduceLeDiff, Nat.reduceLT, Nat.reduceAdd, reduceCtorEq, num, boo, str, ints, aV, aTab, aInst, aS, aT, aC, found, pairA, aFk, vT, num, boo, str, aE_eq, aV]) (by simp only [ends, ite_true, ite_false, reduceIte, Nat.reduceEqDiff, Nat.reduceLeDiff, Nat.reduceLT, Nat.reduceAdd, reduceCtorEq, num, boo, str, ints, aV, aTab, aInst, aS, aT, aC, found, pairA, aFk, vT]) (by simp [idsOk, lookO, updO, ren1]) ?_
    simp -implicitDefEqProofs only [pairA, ↓steps, push_cast, reduceIte, Nat.reduceEqDiff, Nat.reduceAdd, Nat.reduceMul, Nat.reduceLT, Nat.reduceLeDiff, Int.reduceToNat, Int.reduceLE, Int.reduceLT, reduceCtorEq, tte, num, boo, str, ints, aV, aTab, aInst, aS, aT, aC, found, pairA, aFk, vT]
    refine bcase_intro (fun g => ?_) fun g => ?_
    · have g' : (typG (ownR ts) (e.kids.getD n default)).2 ≠ 0 := by simpa using g
      have hf : ferr Prod.snd (e.kids.map (typG (ownR ts))) = (typG (ownR ts) (e.kids.getD n default)).2 := by rw [ferr_map]; exact ferr_at _ _ n h' hi g'
      have hE : typG (ownR ts) e = (0, (typG (ownR ts) (e.kids.getD n default)).2) := by rw [typG_eq (ownR ts) e, typK, hf, if_neg g']
      exact ret_d2 trivial (by rw [← hr, hE]; rfl) (by simp only [ends, ite_true, ite_false, reduceIte, Nat.reduceEqDiff, Nat.reduceLeDiff, Nat.reduceLT, Nat.reduceAdd, reduceCtorEq, num, boo, str, ints, aV, aTab, aInst, aS, aT, aC, found, pairA, aFk, vT])
    · have g' : (typG (ownR ts) (e.kids.getD n default)).2 = 0 := by simpa using g
      refine ⟨⟨hl2.symm, by rw [hl2]; omega⟩, ?_⟩
      exact cnt_again hI n rfl h' (fun i h2 => if h3 : i = n then by rw [h3]; exact g' else hi i (by omega)) (by simp only [hw, hs, hl2, rowsOf_append, ends, ite_true, ite_false, reduceIte, Nat.reduceEqDiff, Nat.reduceLeDiff, Nat.reduceLT, Nat.reduceAdd, reduceCtorEq, num, boo, str, ints, aV, aTab, aInst, aS, aT, aC, found, pairA, aFk, vT]) (by simp [hw, hs, hl2, rowsOf_append, ends, ite_true, ite_false, reduceIte, Nat.reduceEqDiff, Nat.reduceLeDiff, Nat.reduceLT, Nat.reduceAdd, reduceCtorEq, num, boo, str, ints, aV, aTab, aInst, aS, aT, aC, found, pairA, aFk, vT]) (by simp [hw, hs, hl2, rowsOf_append, ends, ite_true, ite_false, reduceIte, Nat.reduceEqDiff, Nat.reduceLeDiff, Nat.reduceLT, Nat.reduceAdd, reduceCtorEq, num, boo, str, ints, aV, aTab, aInst, aS, aT, aC, found, pairA, aFk, vT]) (by simp [hw, hs, hl2, rowsOf_append, ends, ite_true, ite_false, reduceIte, Nat.reduceEqDiff, Nat.reduceLeDiff, Nat.reduceLT, Nat.reduceAdd, reduceCtorEq, num, boo, str, ints, aV, aTab, aInst, aS, aT, aC, found, pairA, aFk, vT])
  simp only [decide_eq_false_iff_not] at h
  obtain rfl : n = e.kids.length := by omega
  clear hI
  have hf : ferr Prod.snd (e.kids.map (typG (ownR ts))) = 0 := by rw [ferr_map]; exact ferr_none _ _ hi
  have hT : tysTo (ownR ts) e e.kids.length = (e.kids.map (typG (ownR ts))).map Prod.fst := by rw [tysTo, List.take_length, List.map_map]; rfl
  have hM : typG (ownR ts) e = ownR ts e (tysTo (ownR ts) e e.kids.length) := by rw [typG_eq (ownR ts) e, typK, if_pos hf, hT]
  rw [hM] at hr
  generalize tysTo (ownR ts) e e.kids.length = l at hl2 hr ⊢
  refine callx_of [[0, 0, 0, 0, 0, 6]] [] rfl (c_plain e) (by first | (simp; done) | (simp [rowsOf_length]; done) | (simp [rowsOf_length]; omega)) (by first | (simp only [ends, ite_true, ite_false, reduceIte, Nat.reduceEqDiff, Nat.reduceLeDiff, Nat.reduceLT, Nat.reduceAdd, reduceCtorEq, num, boo, str, ints, aV, aTab, aInst, aS, aT, aC, found, pairA, aFk, vT, num, boo, str, aE_eq, aV]; done) | simp [ends, ite_true, ite_false, reduceIte, Nat.reduceEqDiff, Nat.reduceLeDiff, Nat.reduceLT, Nat.reduceAdd, reduceCtorEq, num, boo, str, ints, aV, aTab, aInst, aS, aT, aC, found, pairA, aFk, vT, num, boo, str, aE_eq, aV]) (by first | rfl | (simp only [ends, ite_true, ite_false, reduceIte, Nat.reduceEqDiff, Nat.reduceLeDiff, Nat.reduceLT, Nat.reduceAdd, reduceCtorEq, num, boo, str, ints, aV, aTab, aInst, aS, aT, aC, found, pairA, aFk, vT, num, boo, str, aE_eq, aV]; done) | simp [ends, ite_true, ite_false, reduceIte, Nat.reduceEqDiff, Nat.reduceLeDiff, Nat.reduceLT, Nat.reduceAdd, reduceCtorEq, num, boo, str, ints, aV, aTab, aInst, aS, aT, aC, found, pairA, aFk, vT, num, boo, str, aE_eq, aV]) (by simp only [ends, ite_true, ite_false, reduceIte, Nat.reduceEqDiff, Nat.reduceLeDiff, Nat.reduceLT, Nat.reduceAdd, reduceCtorEq, num, boo, str, ints, aV, aTab, aInst, aS, aT, aC, found, pairA, aFk, vT]) (by simp [idsOk, lookO, updO, ren1]) ?_
  simp -implicitDefEqProofs only [↓steps, push_cast, reduceIte, Nat.reduceEqDiff, Nat.reduceAdd, Nat.reduceMul, Nat.reduceLT, Nat.reduceLeDiff, Int.reduceToNat, Int.reduceLE, Int.reduceLT, reduceCtorEq, tte, num, boo, str, ints, aV, aTab, aInst, aS, aT, aC, found, pairA, aFk, vT]
  refine bcase_intro (fun h1 => ?_) fun h1 => ?_
  · have hv : ownR ts e l = (0, 1) := if_pos h1
    exact ret_d2 trivial (by rw [← hr, hv]; rfl) (by simp only [ends, ite_true, ite_false, reduceIte, Nat.reduceEqDiff, Nat.reduceLeDiff, Nat.reduceLT, Nat.reduceAdd, reduceCtorEq, num, boo, str, ints, aV, aTab, aInst, aS, aT, aC, found, pairA, aFk, vT])
  have ho2 : isOp e.op = true ∧ cleanM e = true := by simpa using h1
  have hv1 : ownR ts e l = if !countM e then (0, 9)
      else if (e.op == 5 && (decide (e.col < 0) || decide (e.col ≥ ts.length))) then (0, 3)
      else if (decide (resultR ts e l < 1) || decide (resultR ts e l > 3)) then (0, 4) else (resultR ts e l, 0) := if_neg (by rw [h1]; decide)
  have hkc := kids_count ho2.1
  refine ⟨hl2.symm, ?_⟩
  refine callx_of [[0], [0]] [] rfl (c_rkids e.op e.kids.length) (by first | (simp; done) | (simp [rowsOf_length]; done) | (simp [rowsOf_length]; omega)) (by first | (simp only [ends, ite_true, ite_false, reduceIte, Nat.reduceEqDiff, Nat.reduceLeDiff, Nat.reduceLT, Nat.reduceAdd, reduceCtorEq, num, boo, str, ints, aV, aTab, aInst, aS, aT, aC, found, pairA, aFk, vT, num, boo, str, aE_eq, aV]; done) | simp [ends, ite_true, ite_false, reduceIte, Nat.reduceEqDiff, Nat.reduceLeDiff, Nat.reduceLT, Nat.reduceAdd, reduceCtorEq, num, boo, str, ints, aV, aTab, aInst, aS, aT, aC, found, pairA, aFk, vT, num, boo, str, aE_eq, aV]) (by first | rfl | (simp only [ends, ite_true, ite_false, reduceIte, Nat.reduceEqDiff, Nat.reduceLeDiff, Nat.reduceLT, Nat.reduceAdd, reduceCtorEq, num, boo, str, ints, aV, aTab, aInst, aS, aT, aC, found, pairA, aFk, vT, num, boo, str, aE_eq, aV]; done) | simp [ends, ite_true, ite_false, reduceIte, Nat.reduceEqDiff, Nat.reduceLeDiff, Nat.reduceLT, Nat.reduceAdd, reduceCtorEq, num, boo, str, ints, aV, aTab, aInst, aS, aT, aC, found, pairA, aFk, vT, num, boo, str, aE_eq, aV]) (by simp only [ends, ite_true, ite_false, reduceIte, Nat.reduceEqDiff, Nat.reduceLeDiff, Nat.reduceLT, Nat.reduceAdd, reduceCtorEq, num, boo, str, ints, aV, aTab, aInst, aS, aT, aC, found, pairA, aFk, vT]) (by simp [idsOk, lookO, updO, ren1]) ?_
  simp -implicitDefEqProofs only [↓steps, push_cast, reduceIte, Nat.reduceEqDiff, Nat.reduceAdd, Nat.reduceMul, Nat.reduceLT, Nat.reduceLeDiff, Int.reduceToNat, Int.reduceLE, Int.reduceLT, reduceCtorEq, tte, num, boo, str, ints, aV, aTab, aInst, aS, aT, aC, found, pairA, aFk, vT]
  rw [hkc]
  refine bcase_intro (fun h2 => ?_) fun h2 => ?_
  · have hv : ownR ts e l = (0, 9) := by rw [hv1, if_pos h2]
    exact ret_d2 trivial (by rw [← hr, hv]; rfl) (by simp only [ends, ite_true, ite_false, reduceIte, Nat.reduceEqDiff, Nat.reduceLeDiff, Nat.reduceLT, Nat.reduceAdd, reduceCtorEq, num, boo, str, ints, aV, aTab, aInst, aS, aT, aC, found, pairA, aFk, vT])
  have hcnt : countM e = true := by simpa using h2
  have hv2 : ownR ts e l = if (e.op == 5 && (decide (e.col < 0) || decide (e.col ≥ ts.length))) then (0, 3)
      else if (decide (resultR ts e l < 1) || decide (resultR ts e l > 3)) then (0, 4) else (resultR ts e l, 0) := by rw [hv1, if_neg (by rw [h2]; decide)]
  have hcount := count_kids hcnt
  obtain ⟨n, n1, n2, n3⟩ := op_cases ho2.1
  have hf : findM e.op = opTab.getD n default := by rw [findM, ho2.1, if_pos rfl, opAt, n3, Int.toNat_natCast]
  have hkt := kids_tab0 n (by simpa using n1)
  rw [hf] at hcount
  generalize hO : opTab.getD n default = o at hkt hcount
  have c26 : e.op = 26 → l.length = 3 := by omega
  have c27 : e.op = 27 → l.length = 2 := by omega
  have cE : isOp e.op = true → 5 < e.op → 0 < l.length := by omega
  refine bcase_intro (fun h3 => ?_) fun h3 => ?_
  · have h3' : e.op = 5 := by simpa using h3
    refine bcase_intro (fun h4 => ?_) fun h4 => ?_
    · have hv : ownR ts e l = (0, 3) := by rw [hv2, h3, h4]; rfl
      exact ret_d2 trivial (by rw [← hr, hv]; rfl) (by simp only [ends, ite_true, ite_false, reduceIte, Nat.reduceEqDiff, Nat.reduceLeDiff, Nat.reduceLT, Nat.reduceAdd, reduceCtorEq, num, boo, str, ints, aV, aTab, aInst, aS, aT, aC, found, pairA, aFk, vT])
    refine bcase_intro (fun h5 => ?_) fun h5 => ?_
    · have hv : ownR ts e l = (0, 3) := by rw [hv2, h3, h4, h5]; rfl
      exact ret_d2 trivial (by rw [← hr, hv]; rfl) (by simp only [ends, ite_true, ite_false, reduceIte, Nat.reduceEqDiff, Nat.reduceLeDiff, Nat.reduceLT, Nat.reduceAdd, reduceCtorEq, num, boo, str, ints, aV, aTab, aInst, aS, aT, aC, found, pairA, aFk, vT])
    have hv3 : ownR ts e l = if (decide (resultR ts e l < 1) || decide (resultR ts e l > 3)) then (0, 4) else (resultR ts e l, 0) := by rw [hv2, h3, h4, h5]; rfl
    have hcol : 0 ≤ e.col ∧ e.col < ts.length := by simp only [decide_eq_false_iff_not] at h4 h5; omega
    refine callx_of [[1], [0, 0, 0, 0, 0, 6], [1]] [] rfl (c_result ts e l (by omega) (fun _ => hcol) c26 c27 cE ho2.1) (by first | (simp; done) | (simp [rowsOf_length]; done) | (simp [rowsOf_length]; omega)) (by first | (simp only [ends, ite_true, ite_false, reduceIte, Nat.reduceEqDiff, Nat.reduceLeDiff, Nat.reduceLT, Nat.reduceAdd, reduceCtorEq, num, boo, str, ints, aV, aTab, aInst, aS, aT, aC, found, pairA, aFk, vT, num, boo, str, aE_eq, aV]; done) | simp [ends, ite_true, ite_false, reduceIte, Nat.reduceEqDiff, Nat.reduceLeDiff, Nat.reduceLT, Nat.reduceAdd, reduceCtorEq, num, boo, str, ints, aV, aTab, aInst, aS, aT, aC, found, pairA, aFk, vT, num, boo, str, aE_eq, aV]) (by first | rfl | (simp only [ends, ite_true, ite_false, reduceIte, Nat.reduceEqDiff, Nat.reduceLeDiff, Nat.reduceLT, Nat.reduceAdd, reduceCtorEq, num, boo, str, ints, aV, aTab, aInst, aS, aT, aC, found, pairA, aFk, vT, num, boo, str, aE_eq, aV]; done) | simp [ends, ite_true, ite_false, reduceIte, Nat.reduceEqDiff, Nat.reduceLeDiff, Nat.reduceLT, Nat.reduceAdd, reduceCtorEq, num, boo, str, ints, aV, aTab, aInst, aS, aT, aC, found, pairA, aFk, vT, num, boo, str, aE_eq, aV]) (by simp only [ends, ite_true, ite_false, reduceIte, Nat.reduceEqDiff, Nat.reduceLeDiff, Nat.reduceLT, Nat.reduceAdd, reduceCtorEq, num, boo, str, ints, aV, aTab, aInst, aS, aT, aC, found, pairA, aFk, vT]) (by simp [idsOk, lookO, updO, ren1]) ?_
    simp -implicitDefEqProofs only [↓steps, push_cast, reduceIte, Nat.reduceEqDiff, Nat.reduceAdd, Nat.reduceMul, Nat.reduceLT, Nat.reduceLeDiff, Int.reduceToNat, Int.reduceLE, Int.reduceLT, reduceCtorEq, tte, num, boo, str, ints, aV, aTab, aInst, aS, aT, aC, found, pairA, aFk, vT]
    refine bcase_intro (fun r1 => ?_) fun r1 => ?_
    · have hv : ownR ts e l = (0, 4) := by rw [hv3, r1]; rfl
      exact ret_d2 trivial (by rw [← hr, hv]; rfl) (by simp only [ends, ite_true, ite_false, reduceIte, Nat.reduceEqDiff, Nat.reduceLeDiff, Nat.reduceLT, Nat.reduceAdd, reduceCtorEq, num, boo, str, ints, aV, aTab, aInst, aS, aT, aC, found, pairA, aFk, vT])
    refine bcase_intro (fun r2 => ?_) fun r2 => ?_
    · have hv : ownR ts e l = (0, 4) := by rw [hv3, r2, Bool.or_true]; rfl
      exact ret_d2 trivial (by rw [← hr, hv]; rfl) (by simp only [ends, ite_true, ite_false, reduceIte, Nat.reduceEqDiff, Nat.reduceLeDiff, Nat.reduceLT, Nat.reduceAdd, reduceCtorEq, num, boo, str, ints, aV, aTab, aInst, aS, aT, aC, found, pairA, aFk, vT])
    have hv : ownR ts e l = (resultR ts e l, 0) := by rw [hv3, r1, r2]; rfl
    exact ret_d2 trivial (by rw [← hr, hv]; rfl) (by simp only [ends, ite_true, ite_false, reduceIte, Nat.reduceEqDiff, Nat.reduceLeDiff, Nat.reduceLT, Nat.reduceAdd, reduceCtorEq, num, boo, str, ints, aV, aTab, aInst, aS, aT, aC, found, pairA, aFk, vT])
  have h3' : ¬ e.op = 5 := by simpa using h3
  have hv3 : ownR ts e l = if (decide (resultR ts e l < 1) || decide (resultR ts e l > 3)) then (0, 4) else (resultR ts e l, 0) := by rw [hv2, h3]; rfl
  refine callx_of [[1], [0, 0, 0, 0, 0, 6], [1]] [] rfl (c_result ts e l (by omega) (fun h => absurd h h3') c26 c27 cE ho2.1) (by first | (simp; done) | (simp [rowsOf_length]; done) | (simp [rowsOf_length]; omega)) (by first | (simp only [ends, ite_true, ite_false, reduceIte, Nat.reduceEqDiff, Nat.reduceLeDiff, Nat.reduceLT, Nat.reduceAdd, reduceCtorEq, num, boo, str, ints, aV, aTab, aInst, aS, aT, aC, found, pairA, aFk, vT, num, boo, str, aE_eq, aV]; done) | simp [ends, ite_true, ite_false, reduceIte, Nat.reduceEqDiff, Nat.reduceLeDiff, Nat.reduceLT, Nat.reduceAdd, reduceCtorEq, num, boo, str, ints, aV, aTab, aInst, aS, aT, aC, found, pairA, aFk, vT, num, boo, str, aE_eq, aV]) (by first | rfl | (simp only [ends, ite_true, ite_false, reduceIte, Nat.reduceEqDiff, Nat.reduceLeDiff, Nat.reduceLT, Nat.reduceAdd, reduceCtorEq, num, boo, str, ints, aV, aTab, aInst, aS, aT, aC, found, pairA, aFk, vT, num, boo, str, aE_eq, aV]; done) | simp [ends, ite_true, ite_false, reduceIte, Nat.reduceEqDiff, Nat.reduceLeDiff, Nat.reduceLT, Nat.reduceAdd, reduceCtorEq, num, boo, str, ints, aV, aTab, aInst, aS, aT, aC, found, pairA, aFk, vT, num, boo, str, aE_eq, aV]) (by simp only [ends, ite_true, ite_false, reduceIte, Nat.reduceEqDiff, Nat.reduceLeDiff, Nat.reduceLT, Nat.reduceAdd, reduceCtorEq, num, boo, str, ints, aV, aTab, aInst, aS, aT, aC, found, pairA, aFk, vT]) (by simp [idsOk, lookO, updO, ren1]) ?_
  simp -implicitDefEqProofs only [↓steps, push_cast, reduceIte, Nat.reduceEqDiff, Nat.reduceAdd, Nat.reduceMul, Nat.reduceLT, Nat.reduceLeDiff, Int.reduceToNat, Int.reduceLE, Int.reduceLT, reduceCtorEq, tte, num, boo, str, ints, aV, aTab, aInst, aS, aT, aC, found, pairA, aFk, vT]
  refine bcase_intro (fun r1 => ?_) fun r1 => ?_
  · have hv : ownR ts e l = (0, 4) := by rw [hv3, r1]; rfl
    exact ret_d2 trivial (by rw [← hr, hv]; rfl) (by simp only [ends, ite_true, ite_false, reduceIte, Nat.reduceEqDiff, Nat.reduceLeDiff, Nat.reduceLT, Nat.reduceAdd, reduceCtorEq, num, boo, str, ints, aV, aTab, aInst, aS, aT, aC, found, pairA, aFk, vT])
  refine bcase_intro (fun r2 => ?_) fun r2 => ?_
  · have hv : ownR ts e l = (0, 4) := by rw [hv3, r2, Bool.or_true]; rfl
    exact ret_d2 trivial (by rw [← hr, hv]; rfl) (by simp only [ends, ite_true, ite_false, reduceIte, Nat.reduceEqDiff, Nat.reduceLeDiff, Nat.reduceLT, Nat.reduceAdd, reduceCtorEq, num, boo, str, ints, aV, aTab, aInst, aS, aT, aC, found, pairA, aFk, vT])
  have hv : ownR ts e l = (resultR ts e l, 0) := by rw [hv3, r1, r2]; rfl
  exact ret_d2 trivial (by rw [← hr, hv]; rfl) (by simp only [ends, ite_true, ite_false, reduceIte, Nat.reduceEqDiff, Nat.reduceLeDiff, Nat.reduceLT, Nat.reduceAdd, reduceCtorEq, num, boo, str, ints, aV, aTab, aInst, aS, aT, aC, found, pairA, aFk, vT])
theorem c_rtype (ts : List Int) (hts : ts.length ≤ 1000000000) (e : Ex) (ho : Ok12 e) : ACall Tryd.prog 81 [ints ts, aE e] [] (pairA (typeM (ownM ts) e)) [] := by
  refine ACall.enter mixed ttok Tryd.func81 rfl rfl _ Tryd.ntmps81 (Nat.le_of_ble_eq_true rfl) (by kernel_rfl) _ (congrArg Array.toList Tryd.results81) ?_
  generalize hr : pairA (typeM (ownM ts) e) = R
  simp -implicitDefEqProofs only [argT, ↓steps, push_cast, reduceIte, Nat.reduceEqDiff, Nat.reduceAdd, Nat.reduceMul, Nat.reduceLT, Nat.reduceLeDiff, Int.reduceToNat, Int.reduceLE, Int.reduceLT, reduceCtorEq, tte, num, boo, str, ints, aV, aTab, aInst, aS, aT, aC, found, pairA, aFk, vT]
  refine callx_of [[0, 0, 0, 0, 0, 6]] [] rfl (c_size02 e ho) (by first | (simp; done) | (simp [rowsOf_length]; done) | (simp [rowsOf_length]; omega)) (by first | (simp only [ends, ite_true, ite_false, reduceIte, Nat.reduceEqDiff, Nat.reduceLeDiff, Nat.reduceLT, Nat.reduceAdd, reduceCtorEq, num, boo, str, ints, aV, aTab, aInst, aS, aT, aC, found, pairA, aFk, vT, num, boo, str, aE_eq, aV]; done) | simp [ends, ite_true, ite_false, reduceIte, Nat.reduceEqDiff, Nat.reduceLeDiff, Nat.reduceLT, Nat.reduceAdd, reduceCtorEq, num, boo, str, ints, aV, aTab, aInst, aS, aT, aC, found, pairA, aFk, vT, num, boo, str, aE_eq, aV]) (by first | rfl | (simp only [ends, ite_true, ite_false, reduceIte, Nat.reduceEqDiff, Nat.reduceLeDiff, Nat.reduceLT, Nat.reduceAdd, reduceCtorEq, num, boo, str, ints, aV, aTab, aInst, aS, aT, aC, found, pairA, aFk, vT, num, boo, str, aE_eq, aV]; done) | simp [ends, ite_true, ite_false, reduceIte, Nat.reduceEqDiff, Nat.reduceLeDiff, Nat.reduceLT, Nat.reduceAdd, reduceCtorEq, num, boo, str, ints, aV, aTab, aInst, aS, aT, aC, found, pairA, aFk, vT, num, boo, str, aE_eq, aV]) (by simp only [ends, ite_true, ite_false, reduceIte, Nat.reduceEqDiff, Nat.reduceLeDiff, Nat.reduceLT, Nat.reduceAdd, reduceCtorEq, num, boo, str, ints, aV, aTab, aInst, aS, aT, aC, found, pairA, aFk, vT]) (by simp [idsOk, lookO, updO, ren1]) ?_
  simp -implicitDefEqProofs only [↓steps, push_cast, reduceIte, Nat.reduceEqDiff, Nat.reduceAdd, Nat.reduceMul, Nat.reduceLT, Nat.reduceLeDiff, Int.reduceToNat, Int.reduceLE, Int.reduceLT, reduceCtorEq, tte, num, boo, str, ints, aV, aTab, aInst, aS, aT, aC, found, pairA, aFk, vT]
  refine bcase_intro (fun h => ?_) fun h => ?_
  · have hv : typeM (ownM ts) e = (0, 8) := if_pos (of_decide_eq_true h)
    exact ret_d2 trivial (by rw [← hr, hv]; rfl) (by simp only [ends, ite_true, ite_false, reduceIte, Nat.reduceEqDiff, Nat.reduceLeDiff, Nat.reduceLT, Nat.reduceAdd, reduceCtorEq, num, boo, str, ints, aV, aTab, aInst, aS, aT, aC, found, pairA, aFk, vT])
  have h' : ¬ sizeW e > 200 := of_decide_eq_false h
  refine callx_of [[0, 0, 0, 0, 0, 6]] [] rfl (c_rdepth e ho) (by first | (simp; done) | (simp [rowsOf_length]; done) | (simp [rowsOf_length]; omega)) (by first | (simp only [ends, ite_true, ite_false, reduceIte, Nat.reduceEqDiff, Nat.reduceLeDiff, Nat.reduceLT, Nat.reduceAdd, reduceCtorEq, num, boo, str, ints, aV, aTab, aInst, aS, aT, aC, found, pairA, aFk, vT, num, boo, str, aE_eq, aV]; done) | simp [ends, ite_true, ite_false, reduceIte, Nat.reduceEqDiff, Nat.reduceLeDiff, Nat.reduceLT, Nat.reduceAdd, reduceCtorEq, num, boo, str, ints, aV, aTab, aInst, aS, aT, aC, found, pairA, aFk, vT, num, boo, str, aE_eq, aV]) (by first | rfl | (simp only [ends, ite_true, ite_false, reduceIte, Nat.reduceEqDiff, Nat.reduceLeDiff, Nat.reduceLT, Nat.reduceAdd, reduceCtorEq, num, boo, str, ints, aV, aTab, aInst, aS, aT, aC, found, pairA, aFk, vT, num, boo, str, aE_eq, aV]; done) | simp [ends, ite_true, ite_false, reduceIte, Nat.reduceEqDiff, Nat.reduceLeDiff, Nat.reduceLT, Nat.reduceAdd, reduceCtorEq, num, boo, str, ints, aV, aTab, aInst, aS, aT, aC, found, pairA, aFk, vT, num, boo, str, aE_eq, aV]) (by simp only [ends, ite_true, ite_false, reduceIte, Nat.reduceEqDiff, Nat.reduceLeDiff, Nat.reduceLT, Nat.reduceAdd, reduceCtorEq, num, boo, str, ints, aV, aTab, aInst, aS, aT, aC, found, pairA, aFk, vT]) (by simp [idsOk, lookO, updO, ren1]) ?_
  simp -implicitDefEqProofs only [↓steps, push_cast, reduceIte, Nat.reduceEqDiff, Nat.reduceAdd, Nat.reduceMul, Nat.reduceLT, Nat.reduceLeDiff, Int.reduceToNat, Int.reduceLE, Int.reduceLT, reduceCtorEq, tte, num, boo, str, ints, aV, aTab, aInst, aS, aT, aC, found, pairA, aFk, vT]
  refine bcase_intro (fun g => ?_) fun g => ?_
  · have hv : typeM (ownM ts) e = (0, 13) := by rw [typeM, if_neg h', if_pos (of_decide_eq_true g)]
    exact ret_d2 trivial (by rw [← hr, hv]; rfl) (by simp only [ends, ite_true, ite_false, reduceIte, Nat.reduceEqDiff, Nat.reduceLeDiff, Nat.reduceLT, Nat.reduceAdd, reduceCtorEq, num, boo, str, ints, aV, aTab, aInst, aS, aT, aC, found, pairA, aFk, vT])
  have g' : ¬ depthW e > 24 := of_decide_eq_false g
  refine callx_of [[1], [0, 0, 0, 0, 0, 6]] [] rfl (c_typed ts hts e ho) (by first | (simp; done) | (simp [rowsOf_length]; done) | (simp [rowsOf_length]; omega)) (by first | (simp only [ends, ite_true, ite_false, reduceIte, Nat.reduceEqDiff, Nat.reduceLeDiff, Nat.reduceLT, Nat.reduceAdd, reduceCtorEq, num, boo, str, ints, aV, aTab, aInst, aS, aT, aC, found, pairA, aFk, vT, num, boo, str, aE_eq, aV]; done) | simp [ends, ite_true, ite_false, reduceIte, Nat.reduceEqDiff, Nat.reduceLeDiff, Nat.reduceLT, Nat.reduceAdd, reduceCtorEq, num, boo, str, ints, aV, aTab, aInst, aS, aT, aC, found, pairA, aFk, vT, num, boo, str, aE_eq, aV]) (by first | rfl | (simp only [ends, ite_true, ite_false, reduceIte, Nat.reduceEqDiff, Nat.reduceLeDiff, Nat.reduceLT, Nat.reduceAdd, reduceCtorEq, num, boo, str, ints, aV, aTab, aInst, aS, aT, aC, found, pairA, aFk, vT, num, boo, str, aE_eq, aV]; done) | simp [ends, ite_true, ite_false, reduceIte, Nat.reduceEqDiff, Nat.reduceLeDiff, Nat.reduceLT, Nat.reduceAdd, reduceCtorEq, num, boo, str, ints, aV, aTab, aInst, aS, aT, aC, found, pairA, aFk, vT, num, boo, str, aE_eq, aV]) (by simp only [ends, ite_true, ite_false, reduceIte, Nat.reduceEqDiff, Nat.reduceLeDiff, Nat.reduceLT, Nat.reduceAdd, reduceCtorEq, num, boo, str, ints, aV, aTab, aInst, aS, aT, aC, found, pairA, aFk, vT]) (by simp [idsOk, lookO, updO, ren1]) ?_
  have hv : typeM (ownM ts) e = typG (ownR ts) e := by rw [typeM, if_neg h', if_neg g', typ_eq]
  simp -implicitDefEqProofs only [pairA, ↓steps, push_cast, reduceIte, Nat.reduceEqDiff, Nat.reduceAdd, Nat.reduceMul, Nat.reduceLT, Nat.reduceLeDiff, Int.reduceToNat, Int.reduceLE, Int.reduceLT, reduceCtorEq, tte, num, boo, str, ints, aV, aTab, aInst, aS, aT, aC, found, pairA, aFk, vT]
  exact ret_d2 trivial (by rw [← hr, hv]; rfl) (by simp only [ends, ite_true, ite_false, reduceIte, Nat.reduceEqDiff, Nat.reduceLeDiff, Nat.reduceLT, Nat.reduceAdd, reduceCtorEq, num, boo, str, ints, aV, aTab, aInst, aS, aT, aC, found, pairA, aFk, vT])
end Go.Proofs.YtkccdfaelbepeaaDoor

namespace Go.Proofs.YtkccdfaelbepeaaDoor
open Go.Am
set_option linter.unusedVariables false
set_option maxRecDepth 100000
set_option maxHeartbeats 4000000

def rS (w : ByteArray) : List D := [.lit (.string w)]
theorem c_reserved : ACall Tryd.prog 78 [] [] (.d (.sl 1 (rowsOf rS words))) [] := by
  refine ACall.enter mixed ttok Tryd.func78 rfl rfl _ Tryd.ntmps78 (Nat.le_of_ble_eq_true rfl) (by kernel_rfl) _ (congrArg Array.toList Tryd.results78) ?_
  generalize hr : A.d (.sl 1 (rowsOf rS words)) = R
  simp -implicitDefEqProofs only [argT, ↓steps, push_cast, reduceIte, Nat.reduceEqDiff, Nat.reduceAdd, Nat.reduceMul, Nat.reduceLT, Nat.reduceLeDiff, Int.reduceToNat, Int.reduceLE, Int.reduceLT, reduceCtorEq, tte, num, boo, str, ints, aV, aTab, aInst, aS, aT, aC, found, pairA, aFk, vT, rS]
  refine retx_of [1] rfl (by simp) (by first | (simp; done) | (simp [rowsOf_length]; done) | (simp [rowsOf_length]; omega)) ?_ (by first | rfl | simp only [ends, ite_true, ite_false, reduceIte, Nat.reduceEqDiff, Nat.reduceLeDiff, Nat.reduceLT, Nat.reduceAdd, reduceCtorEq, num, boo, str, ints, aV, aTab, aInst, aS, aT, aC, found, pairA, aFk, vT, rS] | (subst_vars; simp only [ends, ite_true, ite_false, reduceIte, Nat.reduceEqDiff, Nat.reduceLeDiff, Nat.reduceLT, Nat.reduceAdd, reduceCtorEq, num, boo, str, ints, aV, aTab, aInst, aS, aT, aC, found, pairA, aFk, vT, rS])) (by simp only [ends, ite_true, ite_false, reduceIte, Nat.reduceEqDiff, Nat.reduceLeDiff, Nat.reduceLT, Nat.reduceAdd, reduceCtorEq, num, boo, str, ints, aV, aTab, aInst, aS, aT, aC, found, pairA, aFk, vT, rS]) (by simp only [ends, ite_true, ite_false, reduceIte, Nat.reduceEqDiff, Nat.reduceLeDiff, Nat.reduceLT, Nat.reduceAdd, reduceCtorEq, num, boo, str, ints, aV, aTab, aInst, aS, aT, aC, found, pairA, aFk, vT, rS])
  exact hr
def goodR (s : ByteArray) : Bool := (bytesI s).all fun c => !badM c
def nameR (s : ByteArray) : Bool := (((decide (1 ≤ s.size) && decide (s.size ≤ 16)) && letM ((s.data.getD 0 0).toNat : Nat)) && goodR s) && !(words.any fun w => w.toList == s.toList)
theorem c_rname (s : ByteArray) : ACall Tryd.prog 35 [str s] [] (boo (nameR s)) [] := by
  refine ACall.enter mixed ttok Tryd.func35 rfl rfl _ Tryd.ntmps35 (Nat.le_of_ble_eq_true rfl) (by kernel_rfl) _ (congrArg Array.toList Tryd.results35) ?_
  generalize hr : boo (nameR s) = R
  have hr0 := hr
  simp -implicitDefEqProofs only [argT, ↓steps, push_cast, reduceIte, Nat.reduceEqDiff, Nat.reduceAdd, Nat.reduceMul, Nat.reduceLT, Nat.reduceLeDiff, Int.reduceToNat, Int.reduceLE, Int.reduceLT, reduceCtorEq, tte, num, boo, str, ints, aV, aTab, aInst, aS, aT, aC, found, pairA, aFk, vT, rS]
  refine bcase_intro (fun h1 => ?_) fun h1 => ?_
  · have : nameR s = false := by rw [nameR, decide_eq_false (by have := of_decide_eq_true h1; omega)]; rfl
    exact ret_d trivial (by rw [← hr, this]; rfl) (by simp only [ends, ite_true, ite_false, reduceIte, Nat.reduceEqDiff, Nat.reduceLeDiff, Nat.reduceLT, Nat.reduceAdd, reduceCtorEq, num, boo, str, ints, aV, aTab, aInst, aS, aT, aC, found, pairA, aFk, vT, rS])
  have h1' : 1 ≤ s.size := by have := of_decide_eq_false h1; omega
  refine bcase_intro (fun h2 => ?_) fun h2 => ?_
  · have : nameR s = false := by rw [nameR, decide_eq_false (p := s.size ≤ 16) (by have := of_decide_eq_true h2; omega), Bool.and_false]; rfl
    exact ret_d trivial (by rw [← hr, this]; rfl) (by simp only [ends, ite_true, ite_false, reduceIte, Nat.reduceEqDiff, Nat.reduceLeDiff, Nat.reduceLT, Nat.reduceAdd, reduceCtorEq, num, boo, str, ints, aV, aTab, aInst, aS, aT, aC, found, pairA, aFk, vT, rS])
  have h2' : s.size ≤ 16 := by have := of_decide_eq_false h2; omega
  refine ⟨by omega, ?_⟩
  refine bcase_intro (fun h3 => ?_) fun h3 => ?_
  · have : nameR s = false := by rw [nameR, letM, decide_eq_false (p := ((s.data.getD 0 0).toNat : Int) ≥ 97) (by have := of_decide_eq_true h3; omega), Bool.false_and, Bool.and_false]; rfl
    exact ret_d trivial (by rw [← hr, this]; rfl) (by simp only [ends, ite_true, ite_false, reduceIte, Nat.reduceEqDiff, Nat.reduceLeDiff, Nat.reduceLT, Nat.reduceAdd, reduceCtorEq, num, boo, str, ints, aV, aTab, aInst, aS, aT, aC, found, pairA, aFk, vT, rS])
  refine ⟨by omega, ?_⟩
  refine bcase_intro (fun h4 => ?_) fun h4 => ?_
  · have : nameR s = false := by rw [nameR, letM, decide_eq_false (p := ((s.data.getD 0 0).toNat : Int) ≤ 122) (by have := of_decide_eq_true h4; omega), Bool.and_false, Bool.and_false]; rfl
    exact ret_d trivial (by rw [← hr, this]; rfl) (by simp only [ends, ite_true, ite_false, reduceIte, Nat.reduceEqDiff, Nat.reduceLeDiff, Nat.reduceLT, Nat.reduceAdd, reduceCtorEq, num, boo, str, ints, aV, aTab, aInst, aS, aT, aC, found, pairA, aFk, vT, rS])
  have hM : nameR s = (goodR s && !(words.any fun w => w.toList == s.toList)) := by
    rw [nameR, letM, decide_eq_true h1', decide_eq_true h2', decide_eq_true (p := ((s.data.getD 0 0).toNat : Int) ≥ 97) (by have := of_decide_eq_false h3; omega), decide_eq_true (p := ((s.data.getD 0 0).toNat : Int) ≤ 122) (by have := of_decide_eq_false h4; omega)]; rfl
  clear h1 h2 h3 h4
  refine loop_count mixed ttok 3 [0] [] (by simp only [pickT, ends, ite_true, ite_false, reduceIte, Nat.reduceEqDiff, Nat.reduceLeDiff, Nat.reduceLT, Nat.reduceAdd, reduceCtorEq, num, boo, str, ints, aV, aTab, aInst, aS, aT, aC, found, pairA, aFk, vT, rS]; rfl) (by simp only [pickO, consO_some, ends, ite_true, ite_false, reduceIte, Nat.reduceEqDiff, Nat.reduceLeDiff, Nat.reduceLT, Nat.reduceAdd, reduceCtorEq, num, boo, str, ints, aV, aTab, aInst, aS, aT, aC, found, pairA, aFk, vT, rS]; rfl) s.size (fun n => ((bytesI s).drop n).all (fun c => !badM c) = goodR s) (fun _ => []) (fun _ => []) rfl ?_ ?_
  · exact Weak.keepL (by simp [cst, ends, ite_true, ite_false, reduceIte, Nat.reduceEqDiff, Nat.reduceLeDiff, Nat.reduceLT, Nat.reduceAdd, reduceCtorEq, num, boo, str, ints, aV, aTab, aInst, aS, aT, aC, found, pairA, aFk, vT, rS]) (by simp [cst, ends, ite_true, ite_false, reduceIte, Nat.reduceEqDiff, Nat.reduceLeDiff, Nat.reduceLT, Nat.reduceAdd, reduceCtorEq, num, boo, str, ints, aV, aTab, aInst, aS, aT, aC, found, pairA, aFk, vT, rS]) (by simp [cst, ends, ite_true, ite_false, reduceIte, Nat.reduceEqDiff, Nat.reduceLeDiff, Nat.reduceLT, Nat.reduceAdd, reduceCtorEq, num, boo, str, ints, aV, aTab, aInst, aS, aT, aC, found, pairA, aFk, vT, rS])
  intro I hI n hn hi
  simp -implicitDefEqProofs only [cst, ↓steps, push_cast, reduceIte, Nat.reduceEqDiff, Nat.reduceAdd, Nat.reduceMul, Nat.reduceLT, Nat.reduceLeDiff, Int.reduceToNat, Int.reduceLE, Int.reduceLT, reduceCtorEq, tte, num, boo, str, ints, aV, aTab, aInst, aS, aT, aC, found, pairA, aFk, vT, rS]
  refine bcase_intro (fun k => ?_) fun k => ?_
  · simp only [decide_eq_true_eq] at k
    have k' : n < s.size := by omega
    have hw := wrap_succ k' (by omega)
    rw [drop_cons _ n (by rw [bytesI_length]; exact k'), List.all_cons, bytesI_getD s n k'] at hi
    have bad : badM ((s.data.getD n 0).toNat : Nat) = true → nameR s = false := fun h => by rw [hM, ← hi, h]; rfl
    have good : badM ((s.data.getD n 0).toNat : Nat) = false → ((bytesI s).drop (n + 1)).all (fun c => !badM c) = goodR s := fun h => by rw [← hi, h]; rfl
    clear hM hr
    have bad' : badM ((s.data.getD n 0).toNat : Nat) = true → boo false = R := fun h => by rw [← hr0, bad h]
    clear bad hr0
    generalize (((s.data.getD n 0).toNat : Nat) : Int) = c at bad' good ⊢
    refine ⟨(by first | omega | trivial | (refine ⟨?_, ?_⟩ <;> first | omega | trivial | (refine ⟨?_, ?_⟩ <;> first | omega | trivial | (refine ⟨?_, ?_⟩ <;> first | omega | trivial | rfl)))), ?_⟩
    repeat' first
      | refine bcase_intro (fun _ => ?_) fun _ => ?_
      | exact ret_d trivial (bad' (by simp only [badM, letM, Bool.and_eq_true, Bool.or_eq_true, Bool.not_eq_true', Bool.and_eq_false_iff, Bool.or_eq_false_iff, Bool.not_eq_false', decide_eq_true_eq, decide_eq_false_iff_not, bne_iff_ne, bne_eq_false_iff_eq, ne_eq] at *; omega)) (by simp only [ends, ite_true, ite_false, reduceIte, Nat.reduceEqDiff, Nat.reduceLeDiff, Nat.reduceLT, Nat.reduceAdd, reduceCtorEq, num, boo, str, ints, aV, aTab, aInst, aS, aT, aC, found, pairA, aFk, vT, rS])
      | exact cnt_again hI n rfl k' (good (by simp only [badM, letM, Bool.and_eq_true, Bool.or_eq_true, Bool.not_eq_true', Bool.and_eq_false_iff, Bool.or_eq_false_iff, Bool.not_eq_false', decide_eq_true_eq, decide_eq_false_iff_not, bne_iff_ne, bne_eq_false_iff_eq, ne_eq] at *; omega)) (by simp only [hw, ends, ite_true, ite_false, reduceIte, Nat.reduceEqDiff, Nat.reduceLeDiff, Nat.reduceLT, Nat.reduceAdd, reduceCtorEq, num, boo, str, ints, aV, aTab, aInst, aS, aT, aC, found, pairA, aFk, vT, rS]) (by simp [hw, ends, ite_true, ite_false, reduceIte, Nat.reduceEqDiff, Nat.reduceLeDiff, Nat.reduceLT, Nat.reduceAdd, reduceCtorEq, num, boo, str, ints, aV, aTab, aInst, aS, aT, aC, found, pairA, aFk, vT, rS]) (by simp [hw, ends, ite_true, ite_false, reduceIte, Nat.reduceEqDiff, Nat.reduceLeDiff, Nat.reduceLT, Nat.reduceAdd, reduceCtorEq, num, boo, str, ints, aV, aTab, aInst, aS, aT, aC, found, pairA, aFk, vT, rS]) (by simp [hw, ends, ite_true, ite_false, reduceIte, Nat.reduceEqDiff, Nat.reduceLeDiff, Nat.reduceLT, Nat.reduceAdd, reduceCtorEq, num, boo, str, ints, aV, aTab, aInst, aS, aT, aC, found, pairA, aFk, vT, rS])
      | refine ⟨(by first | omega | trivial | (refine ⟨?_, ?_⟩ <;> first | omega | trivial | (refine ⟨?_, ?_⟩ <;> first | omega | trivial | (refine ⟨?_, ?_⟩ <;> first | omega | trivial | rfl)))), ?_⟩
  simp only [decide_eq_false_iff_not] at k
  obtain rfl : n = s.size := by omega
  rw [List.drop_eq_nil_of_le (by rw [bytesI_length]; omega)] at hi
  have hM2 : nameR s = !(words.any fun w => w.toList == s.toList) := by rw [hM, ← hi]; rfl
  clear hM hI hi hn k I
  refine callx_of [] [] rfl (c_reserved) (by first | (simp; done) | (simp [rowsOf_length]; done) | (simp [rowsOf_length]; omega)) (by first | (simp only [ends, ite_true, ite_false, reduceIte, Nat.reduceEqDiff, Nat.reduceLeDiff, Nat.reduceLT, Nat.reduceAdd, reduceCtorEq, num, boo, str, ints, aV, aTab, aInst, aS, aT, aC, found, pairA, aFk, vT, rS, num, boo, str, aE_eq, aV]; done) | simp [ends, ite_true, ite_false, reduceIte, Nat.reduceEqDiff, Nat.reduceLeDiff, Nat.reduceLT, Nat.reduceAdd, reduceCtorEq, num, boo, str, ints, aV, aTab, aInst, aS, aT, aC, found, pairA, aFk, vT, rS, num, boo, str, aE_eq, aV]) (by first | rfl | (simp only [ends, ite_true, ite_false, reduceIte, Nat.reduceEqDiff, Nat.reduceLeDiff, Nat.reduceLT, Nat.reduceAdd, reduceCtorEq, num, boo, str, ints, aV, aTab, aInst, aS, aT, aC, found, pairA, aFk, vT, rS, num, boo, str, aE_eq, aV]; done) | simp [ends, ite_true, ite_false, reduceIte, Nat.reduceEqDiff, Nat.reduceLeDiff, Nat.reduceLT, Nat.reduceAdd, reduceCtorEq, num, boo, str, ints, aV, aTab, aInst, aS, aT, aC, found, pairA, aFk, vT, rS, num, boo, str, aE_eq, aV]) (by simp only [ends, ite_true, ite_false, reduceIte, Nat.reduceEqDiff, Nat.reduceLeDiff, Nat.reduceLT, Nat.reduceAdd, reduceCtorEq, num, boo, str, ints, aV, aTab, aInst, aS, aT, aC, found, pairA, aFk, vT, rS]) (by simp [idsOk, lookO, updO, ren1]) ?_
  simp -implicitDefEqProofs only [↓steps, push_cast, reduceIte, Nat.reduceEqDiff, Nat.reduceAdd, Nat.reduceMul, Nat.reduceLT, Nat.reduceLeDiff, Int.reduceToNat, Int.reduceLE, Int.reduceLT, reduceCtorEq, tte, num, boo, str, ints, aV, aTab, aInst, aS, aT, aC, found, pairA, aFk, vT, rS]
  generalize hwd : words = W at hM2
  have hWl : W.length = 52 := by rw [← hwd]; rfl
  clear hwd
  refine loop_count mixed ttok 5 [0, 4] [] (by simp only [pickT, ends, ite_true, ite_false, reduceIte, Nat.reduceEqDiff, Nat.reduceLeDiff, Nat.reduceLT, Nat.reduceAdd, reduceCtorEq, num, boo, str, ints, aV, aTab, aInst, aS, aT, aC, found, pairA, aFk, vT, rS]; rfl) (by simp only [pickO, consO_some, ends, ite_true, ite_false, reduceIte, Nat.reduceEqDiff, Nat.reduceLeDiff, Nat.reduceLT, Nat.reduceAdd, reduceCtorEq, num, boo, str, ints, aV, aTab, aInst, aS, aT, aC, found, pairA, aFk, vT, rS]; rfl) W.length (fun n => ∀ i, i < n → ((W.getD i default).toList == s.toList) = false) (fun _ => []) (fun _ => []) (fun i h => absurd h (Nat.not_lt_zero _)) ?_ ?_
  · exact Weak.keepL (by simp [cst, ends, ite_true, ite_false, reduceIte, Nat.reduceEqDiff, Nat.reduceLeDiff, Nat.reduceLT, Nat.reduceAdd, reduceCtorEq, num, boo, str, ints, aV, aTab, aInst, aS, aT, aC, found, pairA, aFk, vT, rS]) (by simp [cst, ends, ite_true, ite_false, reduceIte, Nat.reduceEqDiff, Nat.reduceLeDiff, Nat.reduceLT, Nat.reduceAdd, reduceCtorEq, num, boo, str, ints, aV, aTab, aInst, aS, aT, aC, found, pairA, aFk, vT, rS]) (by simp [cst, ends, ite_true, ite_false, reduceIte, Nat.reduceEqDiff, Nat.reduceLeDiff, Nat.reduceLT, Nat.reduceAdd, reduceCtorEq, num, boo, str, ints, aV, aTab, aInst, aS, aT, aC, found, pairA, aFk, vT, rS])
  intro I hI n hn hi
  simp -implicitDefEqProofs only [cst, ↓steps, push_cast, reduceIte, Nat.reduceEqDiff, Nat.reduceAdd, Nat.reduceMul, Nat.reduceLT, Nat.reduceLeDiff, Int.reduceToNat, Int.reduceLE, Int.reduceLT, reduceCtorEq, tte, num, boo, str, ints, aV, aTab, aInst, aS, aT, aC, found, pairA, aFk, vT, rS]
  refine bcase_intro (fun k => ?_) fun k => ?_
  · simp only [decide_eq_true_eq] at k
    have k' : n < W.length := by omega
    have hw := wrap_succ k' (by omega)
    refine ⟨(by first | omega | trivial | (refine ⟨?_, ?_⟩ <;> first | omega | trivial | (refine ⟨?_, ?_⟩ <;> first | omega | trivial | (refine ⟨?_, ?_⟩ <;> first | omega | trivial | rfl)))), ?_⟩
    refine bcase_intro (fun g => ?_) fun g => ?_
    · have : (W.any fun w => w.toList == s.toList) = true := List.any_eq_true.2 ⟨_, getD_mem k', g⟩
      exact ret_d trivial (by rw [← hr0, hM2, this]; rfl) (by simp only [ends, ite_true, ite_false, reduceIte, Nat.reduceEqDiff, Nat.reduceLeDiff, Nat.reduceLT, Nat.reduceAdd, reduceCtorEq, num, boo, str, ints, aV, aTab, aInst, aS, aT, aC, found, pairA, aFk, vT, rS])
    · exact cnt_again hI n rfl k' (fun i h2 => if h3 : i = n then by rw [h3]; exact g else hi i (by omega)) (by simp only [hw, ends, ite_true, ite_false, reduceIte, Nat.reduceEqDiff, Nat.reduceLeDiff, Nat.reduceLT, Nat.reduceAdd, reduceCtorEq, num, boo, str, ints, aV, aTab, aInst, aS, aT, aC, found, pairA, aFk, vT, rS]) (by simp [hw, ends, ite_true, ite_false, reduceIte, Nat.reduceEqDiff, Nat.reduceLeDiff, Nat.reduceLT, Nat.reduceAdd, reduceCtorEq, num, boo, str, ints, aV, aTab, aInst, aS, aT, aC, found, pairA, aFk, vT, rS]) (by simp [hw, ends, ite_true, ite_false, reduceIte, Nat.reduceEqDiff, Nat.reduceLeDiff, Nat.reduceLT, Nat.reduceAdd, reduceCtorEq, num, boo, str, ints, aV, aTab, aInst, aS, aT, aC, found, pairA, aFk, vT, rS]) (by simp [hw, ends, ite_true, ite_false, reduceIte, Nat.reduceEqDiff, Nat.reduceLeDiff, Nat.reduceLT, Nat.reduceAdd, reduceCtorEq, num, boo, str, ints, aV, aTab, aInst, aS, aT, aC, found, pairA, aFk, vT, rS])
  simp only [decide_eq_false_iff_not] at k
  obtain rfl : n = W.length := by omega
  have : (W.any fun w => w.toList == s.toList) = false := by
    rw [List.any_eq_false]
    intro x hx
    obtain ⟨i, h1, rfl⟩ := mem_getD hx
    rw [hi i h1]; decide
  exact ret_d trivial (by rw [← hr0, hM2, this]; rfl) (by simp only [ends, ite_true, ite_false, reduceIte, Nat.reduceEqDiff, Nat.reduceLeDiff, Nat.reduceLT, Nat.reduceAdd, reduceCtorEq, num, boo, str, ints, aV, aTab, aInst, aS, aT, aC, found, pairA, aFk, vT, rS])

/-! The two ways to say what a name is. -/
theorem contains_iff (L p : List UInt8) : Lib.contains L p = true ↔ ∃ a b, L = a ++ (p ++ b) := by
  unfold Lib.contains
  rw [decide_eq_true_eq]
  rcases Lib.index_spec L p with ⟨h1, h2⟩ | ⟨i, h1, h2, h3, _⟩
  · constructor
    · intro h; omega
    · rintro ⟨a, b, rfl⟩
      have := h2 a.length (by simp)
      simp only [Lib.occAt, List.drop_left] at this
      rw [List.isPrefixOf_iff_prefix.2 (List.prefix_append p b)] at this
      cases this
  · constructor
    · intro _
      simp only [Lib.occAt] at h3
      have h4 := List.isPrefixOf_iff_prefix.1 h3
      obtain ⟨b, hb⟩ := h4
      exact ⟨L.take i, b, by rw [hb, List.take_append_drop]⟩
    · intro _; omega
theorem cut32 : ∀ (w s : List UInt8) (x y : List UInt8), (32 : UInt8) ∉ w → (32 : UInt8) ∉ s → w ++ 32 :: x = s ++ 32 :: y → w = s
  | [], [], _, _, _, _, _ => rfl
  | [], c :: s, _, _, _, hs, h => by simp at h; exact absurd (by rw [h.1]; simp) hs
  | c :: w, [], _, _, hw, _, h => by simp at h; exact absurd (by rw [h.1]; simp) hw
  | c :: w, d :: s, x, y, hw, hs, h => by
    simp only [List.cons_append, List.cons.injEq] at h
    rw [h.1, cut32 w s x y (fun hm => hw (by simp [hm])) (fun hm => hs (by simp [hm])) h.2]
theorem jump32 : ∀ (w a x y : List UInt8), (32 : UInt8) ∉ w → w ++ 32 :: x = a ++ 32 :: y → ∃ c, a = w ++ c ∧ 32 :: x = c ++ 32 :: y
  | [], a, x, y, _, h => ⟨a, rfl, h⟩
  | c :: w, [], x, y, hw, h => by simp at h; exact absurd (by rw [h.1]; simp) hw
  | c :: w, d :: a, x, y, hw, h => by
    simp only [List.cons_append, List.cons.injEq] at h
    obtain ⟨c', h1, h2⟩ := jump32 w a x y (fun hm => hw (by simp [hm])) h.2
    exact ⟨c', by rw [h.1, h1]; rfl, h2⟩
def joinW : List (List UInt8) → List UInt8
  | [] => []
  | w :: ws => w ++ 32 :: joinW ws
theorem in_join (s : List UInt8) (hs : (32 : UInt8) ∉ s) : ∀ ws : List (List UInt8), (∀ w ∈ ws, (32 : UInt8) ∉ w) → ((∃ a b, 32 :: joinW ws = a ++ ((32 :: (s ++ [32])) ++ b)) ↔ s ∈ ws)
  | [], _ => by
    constructor
    · rintro ⟨a, b, h⟩
      have := congrArg List.length h
      simp [joinW] at this
      omega
    · intro h; simp at h
  | w :: ws, hw => by
    have hw0 : (32 : UInt8) ∉ w := hw w (by simp)
    have ih := in_join s hs ws (fun v hv => hw v (by simp [hv]))
    constructor
    · rintro ⟨a, b, h⟩
      cases a with
      | nil =>
        simp only [joinW, List.nil_append, List.cons_append, List.cons.injEq, true_and, List.append_assoc] at h
        have := cut32 w s _ _ hw0 hs h
        simp [this]
      | cons x a =>
        simp only [joinW, List.cons_append, List.cons.injEq] at h
        obtain ⟨c, h1, h2⟩ := jump32 w a _ _ hw0 h.2
        exact List.mem_cons_of_mem _ (ih.1 ⟨c, b, by rw [h2]; rfl⟩)
    · intro h
      rcases List.mem_cons.1 h with rfl | h
      · exact ⟨[], joinW ws, by simp [joinW]⟩
      · obtain ⟨a, b, h2⟩ := ih.2 h
        exact ⟨32 :: (w ++ a), b, by rw [joinW, h2]; simp⟩
theorem resv_join : resv.data.toList = 32 :: joinW (words.map (·.data.toList)) := by decide
theorem words_32 : ∀ w ∈ words.map (·.data.toList), (32 : UInt8) ∉ w := by decide
theorem hasW_eq (s : ByteArray) (hg : goodR s = true) : hasW s = words.any fun w => w.toList == s.toList := by
  have h32 : (32 : UInt8) ∉ s.data.toList := by
    intro hm
    have := List.all_eq_true.1 hg (((32 : UInt8).toNat : Nat) : Int) (List.mem_map.2 ⟨32, hm, rfl⟩)
    revert this; decide
  rw [Bool.eq_iff_iff, hasW, contains_iff, resv_join]
  have hd : (⟨#[32]⟩ ++ s ++ ⟨#[32]⟩ : ByteArray).data.toList = 32 :: (s.data.toList ++ [32]) := by
    simp [ByteArray.data_append]
  rw [hd]
  refine (in_join s.data.toList h32 _ words_32).trans ?_
  simp only [List.mem_map, List.any_eq_true, beq_iff_eq, ByteArray.toList_eq]
theorem name_eq (s : ByteArray) : nameR s = nameP s := by
  have h0 : s.data[0]?.getD 0 = s.data.getD 0 0 := by rw [Array.getD_eq_getD_getElem?]
  have h1 : (!(s.toList == [] || decide (s.size > 16))) = (decide (1 ≤ s.size) && decide (s.size ≤ 16)) := by
    have : (s.toList == []) = decide (s.size = 0) := by
      rw [Bool.eq_iff_iff, ByteArray.toList_eq]
      simp only [beq_iff_eq, decide_eq_true_eq]
      rw [← List.length_eq_zero_iff, Array.length_toList]; rfl
    rw [this, Bool.eq_iff_iff]
    simp only [Bool.not_eq_true', Bool.or_eq_false_iff, Bool.and_eq_true, decide_eq_false_iff_not, decide_eq_true_eq]
    omega
  unfold nameR nameP
  rw [h0, h1, show ((bytesI s).all fun c => !badM c) = goodR s from rfl]
  by_cases hg : goodR s = true
  · rw [hasW_eq s hg, hg, Bool.and_true, Bool.and_true]
  · have : goodR s = false := by simpa using hg
    rw [this]; simp
theorem c_rname2 (s : ByteArray) : ACall Tryd.prog 35 [str s] [] (boo (nameP s)) [] := by rw [← name_eq]; exact c_rname s
end Go.Proofs.YtkccdfaelbepeaaDoor

namespace Go.Proofs.YtkccdfaelbepeaaDoor
open Go.Am
set_option linter.unusedVariables false
set_option maxRecDepth 100000
set_option maxHeartbeats 4000000

theorem okKey_false {c : Nat} {l : List Int} {n : Nat} (h : n < l.length) (hn : okAt c l n = false) : okKey c l = false := by rw [okKey, bad_range h hn]; rfl
theorem c_listed (t : Tbl) (l : List Int) (hl : l.length ≤ 1000000000) : ACall Tryd.prog 80 [aT t, ints l] [] (boo (okKey t.columns.length l)) [] := by
  refine ACall.enter mixed ttok Tryd.func80 rfl rfl _ Tryd.ntmps80 (Nat.le_of_ble_eq_true rfl) (by kernel_rfl) _ (congrArg Array.toList Tryd.results80) ?_
  generalize hr : boo (okKey t.columns.length l) = R
  simp -implicitDefEqProofs only [argT, ↓steps, push_cast, reduceIte, Nat.reduceEqDiff, Nat.reduceAdd, Nat.reduceMul, Nat.reduceLT, Nat.reduceLeDiff, Int.reduceToNat, Int.reduceLE, Int.reduceLT, reduceCtorEq, tte, num, boo, str, ints, aV, aTab, aInst, aS, aT, aC, found, pairA, aFk, vT]
  refine loop_count mixed ttok 5 [1, 2] [2] (by simp only [pickT, ends, ite_true, ite_false, reduceIte, Nat.reduceEqDiff, Nat.reduceLeDiff, Nat.reduceLT, Nat.reduceAdd, reduceCtorEq, num, boo, str, ints, aV, aTab, aInst, aS, aT, aC, found, pairA, aFk, vT]; rfl) (by simp only [pickO, consO_some, ends, ite_true, ite_false, reduceIte, Nat.reduceEqDiff, Nat.reduceLeDiff, Nat.reduceLT, Nat.reduceAdd, reduceCtorEq, num, boo, str, ints, aV, aTab, aInst, aS, aT, aC, found, pairA, aFk, vT]; rfl) l.length (fun n => ∀ i, i < n → okAt t.columns.length l i = true) (fun _ => []) (fun _ => []) (fun i h => absurd h (Nat.not_lt_zero _)) ?_ ?_
  · exact Weak.keepL (by simp [cst, ends, ite_true, ite_false, reduceIte, Nat.reduceEqDiff, Nat.reduceLeDiff, Nat.reduceLT, Nat.reduceAdd, reduceCtorEq, num, boo, str, ints, aV, aTab, aInst, aS, aT, aC, found, pairA, aFk, vT]) (by simp [cst, ends, ite_true, ite_false, reduceIte, Nat.reduceEqDiff, Nat.reduceLeDiff, Nat.reduceLT, Nat.reduceAdd, reduceCtorEq, num, boo, str, ints, aV, aTab, aInst, aS, aT, aC, found, pairA, aFk, vT]) (by simp [cst, ends, ite_true, ite_false, reduceIte, Nat.reduceEqDiff, Nat.reduceLeDiff, Nat.reduceLT, Nat.reduceAdd, reduceCtorEq, num, boo, str, ints, aV, aTab, aInst, aS, aT, aC, found, pairA, aFk, vT])
  intro I hI n hn hi
  simp -implicitDefEqProofs only [cst, ↓steps, push_cast, reduceIte, Nat.reduceEqDiff, Nat.reduceAdd, Nat.reduceMul, Nat.reduceLT, Nat.reduceLeDiff, Int.reduceToNat, Int.reduceLE, Int.reduceLT, reduceCtorEq, tte, num, boo, str, ints, aV, aTab, aInst, aS, aT, aC, found, pairA, aFk, vT]
  refine bcase_intro (fun h => ?_) fun h => ?_
  · simp only [decide_eq_true_eq] at h
    have h' : n < l.length := by omega
    have hw := wrap_succ h' (by omega)
    have hbad : okAt t.columns.length l n = false → boo false = R := fun hb => by rw [← hr, okKey_false h' hb]
    refine ⟨(by first | omega | trivial | (refine ⟨?_, ?_⟩ <;> first | omega | trivial | (refine ⟨?_, ?_⟩ <;> first | omega | trivial | (refine ⟨?_, ?_⟩ <;> first | omega | trivial | rfl)))), ?_⟩
    refine bcase_intro (fun g1 => ?_) fun g1 => ?_
    · refine ⟨drawx_intro (by kernel_rfl), ?_⟩
      exact ret_d trivial (hbad (by rw [okAt, decide_eq_false (by have := of_decide_eq_true g1; omega)]; rfl)) (by simp only [ends, ite_true, ite_false, reduceIte, Nat.reduceEqDiff, Nat.reduceLeDiff, Nat.reduceLT, Nat.reduceAdd, reduceCtorEq, num, boo, str, ints, aV, aTab, aInst, aS, aT, aC, found, pairA, aFk, vT])
    refine ⟨(by first | omega | trivial | (refine ⟨?_, ?_⟩ <;> first | omega | trivial | (refine ⟨?_, ?_⟩ <;> first | omega | trivial | (refine ⟨?_, ?_⟩ <;> first | omega | trivial | rfl)))), drawx_intro (by kernel_rfl), ?_⟩
    refine bcase_intro (fun g2 => ?_) fun g2 => ?_
    · exact ret_d trivial (hbad (by rw [okAt, decide_eq_false (p := l.getD n default < t.columns.length) (by have := of_decide_eq_true g2; omega), Bool.and_false]; rfl)) (by simp only [ends, ite_true, ite_false, reduceIte, Nat.reduceEqDiff, Nat.reduceLeDiff, Nat.reduceLT, Nat.reduceAdd, reduceCtorEq, num, boo, str, ints, aV, aTab, aInst, aS, aT, aC, found, pairA, aFk, vT])
    have hin : (decide (0 ≤ l.getD n default) && decide (l.getD n default < t.columns.length)) = true := by
      have := of_decide_eq_false g1; have := of_decide_eq_false g2
      simp only [Bool.and_eq_true, decide_eq_true_eq]; omega
    refine loop_count mixed ttok 6 [1, 2, 5] [2] (by simp only [pickT, ends, ite_true, ite_false, reduceIte, Nat.reduceEqDiff, Nat.reduceLeDiff, Nat.reduceLT, Nat.reduceAdd, reduceCtorEq, num, boo, str, ints, aV, aTab, aInst, aS, aT, aC, found, pairA, aFk, vT]; rfl) (by simp only [pickO, consO_some, ends, ite_true, ite_false, reduceIte, Nat.reduceEqDiff, Nat.reduceLeDiff, Nat.reduceLT, Nat.reduceAdd, reduceCtorEq, num, boo, str, ints, aV, aTab, aInst, aS, aT, aC, found, pairA, aFk, vT]; rfl) n (fun k => ∀ i, i < k → l.getD i default ≠ l.getD n default) (fun _ => []) (fun _ => []) (fun i h => absurd h (Nat.not_lt_zero _)) ?_ ?_
    · exact Weak.keepL (by simp [cst, ends, ite_true, ite_false, reduceIte, Nat.reduceEqDiff, Nat.reduceLeDiff, Nat.reduceLT, Nat.reduceAdd, reduceCtorEq, num, boo, str, ints, aV, aTab, aInst, aS, aT, aC, found, pairA, aFk, vT]) (by simp [cst, ends, ite_true, ite_false, reduceIte, Nat.reduceEqDiff, Nat.reduceLeDiff, Nat.reduceLT, Nat.reduceAdd, reduceCtorEq, num, boo, str, ints, aV, aTab, aInst, aS, aT, aC, found, pairA, aFk, vT]) (by simp [cst, ends, ite_true, ite_false, reduceIte, Nat.reduceEqDiff, Nat.reduceLeDiff, Nat.reduceLT, Nat.reduceAdd, reduceCtorEq, num, boo, str, ints, aV, aTab, aInst, aS, aT, aC, found, pairA, aFk, vT])
    intro J hJ k hk hki
    simp -implicitDefEqProofs only [cst, ↓steps, push_cast, reduceIte, Nat.reduceEqDiff, Nat.reduceAdd, Nat.reduceMul, Nat.reduceLT, Nat.reduceLeDiff, Int.reduceToNat, Int.reduceLE, Int.reduceLT, reduceCtorEq, tte, num, boo, str, ints, aV, aTab, aInst, aS, aT, aC, found, pairA, aFk, vT]
    refine bcase_intro (fun q => ?_) fun q => ?_
    · simp only [decide_eq_true_eq] at q
      have q' : k < n := by omega
      have hwk := wrap_succ q' (by omega)
      refine ⟨(by first | omega | trivial | (refine ⟨?_, ?_⟩ <;> first | omega | trivial | (refine ⟨?_, ?_⟩ <;> first | omega | trivial | (refine ⟨?_, ?_⟩ <;> first | omega | trivial | rfl)))), (by first | omega | trivial | (refine ⟨?_, ?_⟩ <;> first | omega | trivial | (refine ⟨?_, ?_⟩ <;> first | omega | trivial | (refine ⟨?_, ?_⟩ <;> first | omega | trivial | rfl)))), drawx_intro (by kernel_rfl), ?_⟩
      refine bcase_intro (fun e => ?_) fun e => ?_
      · have he : l.getD k default = l.getD n default := by simpa using e
        exact ret_d trivial (hbad (by
          have : (l.take n).contains (l.getD n default) = true := by
            rw [← he, List.contains_iff_mem]
            have hk2 : k < (l.take n).length := by simp; omega
            have := List.getElem_mem hk2
            rw [List.getElem_take] at this
            rwa [List.getD_eq_getElem?_getD, List.getElem?_eq_getElem (by omega)]
          rw [okAt, this, Bool.not_true, Bool.and_false])) (by simp only [ends, ite_true, ite_false, reduceIte, Nat.reduceEqDiff, Nat.reduceLeDiff, Nat.reduceLT, Nat.reduceAdd, reduceCtorEq, num, boo, str, ints, aV, aTab, aInst, aS, aT, aC, found, pairA, aFk, vT])
      · have he : l.getD k default ≠ l.getD n default := by simpa using e
        exact cnt_again hJ k rfl q' (fun i h2 => if h3 : i = k then by rw [h3]; exact he else hki i (by omega)) (by simp only [hwk, ends, ite_true, ite_false, reduceIte, Nat.reduceEqDiff, Nat.reduceLeDiff, Nat.reduceLT, Nat.reduceAdd, reduceCtorEq, num, boo, str, ints, aV, aTab, aInst, aS, aT, aC, found, pairA, aFk, vT]) (by simp [hwk, ends, ite_true, ite_false, reduceIte, Nat.reduceEqDiff, Nat.reduceLeDiff, Nat.reduceLT, Nat.reduceAdd, reduceCtorEq, num, boo, str, ints, aV, aTab, aInst, aS, aT, aC, found, pairA, aFk, vT]) (by simp [hwk, ends, ite_true, ite_false, reduceIte, Nat.reduceEqDiff, Nat.reduceLeDiff, Nat.reduceLT, Nat.reduceAdd, reduceCtorEq, num, boo, str, ints, aV, aTab, aInst, aS, aT, aC, found, pairA, aFk, vT]) (by simp [hwk, ends, ite_true, ite_false, reduceIte, Nat.reduceEqDiff, Nat.reduceLeDiff, Nat.reduceLT, Nat.reduceAdd, reduceCtorEq, num, boo, str, ints, aV, aTab, aInst, aS, aT, aC, found, pairA, aFk, vT])
    · simp only [decide_eq_false_iff_not] at q
      obtain rfl : k = n := by omega
      have hok : okAt t.columns.length l k = true := by
        rw [okAt, hin, Bool.true_and, Bool.not_eq_true', ← Bool.not_eq_true, List.contains_iff_mem]
        intro hm
        obtain ⟨i, hi3, he⟩ := List.getElem_of_mem hm
        have hi4 : i < k := by simp at hi3; omega
        rw [List.getElem_take] at he
        refine hki i hi4 ?_
        rw [← he, List.getD_eq_getElem?_getD, List.getElem?_eq_getElem (by omega)]; rfl
      exact cnt_again hI k rfl h' (fun i h2 => if h3 : i = k then by rw [h3]; exact hok else hi i (by omega)) (by simp only [hw, ends, ite_true, ite_false, reduceIte, Nat.reduceEqDiff, Nat.reduceLeDiff, Nat.reduceLT, Nat.reduceAdd, reduceCtorEq, num, boo, str, ints, aV, aTab, aInst, aS, aT, aC, found, pairA, aFk, vT]) (by simp [hw, ends, ite_true, ite_false, reduceIte, Nat.reduceEqDiff, Nat.reduceLeDiff, Nat.reduceLT, Nat.reduceAdd, reduceCtorEq, num, boo, str, ints, aV, aTab, aInst, aS, aT, aC, found, pairA, aFk, vT]) (by simp [hw, ends, ite_true, ite_false, reduceIte, Nat.reduceEqDiff, Nat.reduceLeDiff, Nat.reduceLT, Nat.reduceAdd, reduceCtorEq, num, boo, str, ints, aV, aTab, aInst, aS, aT, aC, found, pairA, aFk, vT]) (by simp [hw, ends, ite_true, ite_false, reduceIte, Nat.reduceEqDiff, Nat.reduceLeDiff, Nat.reduceLT, Nat.reduceAdd, reduceCtorEq, num, boo, str, ints, aV, aTab, aInst, aS, aT, aC, found, pairA, aFk, vT])
  · simp only [decide_eq_false_iff_not] at h
    obtain rfl : n = l.length := by omega
    have : okKey t.columns.length l = decide ((l.length : Int) > 0) := by
      rw [okKey, all_range.2 hi, Bool.true_and]
      cases l <;> simp
    exact ret_d trivial (by rw [← hr, this]; rfl) (by simp only [ends, ite_true, ite_false, reduceIte, Nat.reduceEqDiff, Nat.reduceLeDiff, Nat.reduceLT, Nat.reduceAdd, reduceCtorEq, num, boo, str, ints, aV, aTab, aInst, aS, aT, aC, found, pairA, aFk, vT])

theorem c_target (s : Sch) (i j : Nat) (hs : s.length ≤ 1000) (hi : i < s.length) (hj : j < (s.getD i default).foreigns.length) : ACall Tryd.prog 38 [aS s, num i, num j] [] (found (byT s ((s.getD i default).foreigns.getD j default).table)) [] := by
  refine ACall.enter mixed ttok Tryd.func38 rfl rfl _ Tryd.ntmps38 (Nat.le_of_ble_eq_true rfl) (by kernel_rfl) _ (congrArg Array.toList Tryd.results38) ?_
  generalize hr : found (byT s ((s.getD i default).foreigns.getD j default).table) = R
  simp -implicitDefEqProofs only [argT, ↓steps, push_cast, reduceIte, Nat.reduceEqDiff, Nat.reduceAdd, Nat.reduceMul, Nat.reduceLT, Nat.reduceLeDiff, Int.reduceToNat, Int.reduceLE, Int.reduceLT, reduceCtorEq, tte, num, boo, str, ints, aV, aTab, aInst, aS, aT, aC, found, pairA, aFk, vT]
  refine bcase_intro (fun h => absurd (of_decide_eq_true h) (by omega)) fun _ => ?_
  refine bcase_intro (fun h => absurd (of_decide_eq_true h) (by omega)) fun _ => ?_
  refine bcase_intro (fun h => absurd (of_decide_eq_true h) (by omega)) fun _ => ?_
  refine ⟨by omega, ?_⟩
  refine bcase_intro (fun h => absurd (of_decide_eq_true h) (by omega)) fun _ => ?_
  refine ⟨by omega, by omega, ?_⟩
  refine callx_of [[6], [0]] [] rfl (c_rfind s ((s.getD i default).foreigns.getD j default).table (by omega)) (by first | (simp; done) | (simp [rowsOf_length]; done) | (simp [rowsOf_length]; omega)) (by first | (simp only [ends, ite_true, ite_false, reduceIte, Nat.reduceEqDiff, Nat.reduceLeDiff, Nat.reduceLT, Nat.reduceAdd, reduceCtorEq, num, boo, str, ints, aV, aTab, aInst, aS, aT, aC, found, pairA, aFk, vT, num, boo, str, aE_eq, aV]; done) | simp [ends, ite_true, ite_false, reduceIte, Nat.reduceEqDiff, Nat.reduceLeDiff, Nat.reduceLT, Nat.reduceAdd, reduceCtorEq, num, boo, str, ints, aV, aTab, aInst, aS, aT, aC, found, pairA, aFk, vT, num, boo, str, aE_eq, aV]) (by first | rfl | (simp only [ends, ite_true, ite_false, reduceIte, Nat.reduceEqDiff, Nat.reduceLeDiff, Nat.reduceLT, Nat.reduceAdd, reduceCtorEq, num, boo, str, ints, aV, aTab, aInst, aS, aT, aC, found, pairA, aFk, vT, num, boo, str, aE_eq, aV]; done) | simp [ends, ite_true, ite_false, reduceIte, Nat.reduceEqDiff, Nat.reduceLeDiff, Nat.reduceLT, Nat.reduceAdd, reduceCtorEq, num, boo, str, ints, aV, aTab, aInst, aS, aT, aC, found, pairA, aFk, vT, num, boo, str, aE_eq, aV]) (by simp only [ends, ite_true, ite_false, reduceIte, Nat.reduceEqDiff, Nat.reduceLeDiff, Nat.reduceLT, Nat.reduceAdd, reduceCtorEq, num, boo, str, ints, aV, aTab, aInst, aS, aT, aC, found, pairA, aFk, vT]) (by simp [idsOk, lookO, updO, ren1]) ?_
  simp -implicitDefEqProofs only [↓steps, push_cast, reduceIte, Nat.reduceEqDiff, Nat.reduceAdd, Nat.reduceMul, Nat.reduceLT, Nat.reduceLeDiff, Int.reduceToNat, Int.reduceLE, Int.reduceLT, reduceCtorEq, tte, num, boo, str, ints, aV, aTab, aInst, aS, aT, aC, found, pairA, aFk, vT]
  refine ⟨drawx_intro (by kernel_rfl), ?_⟩
  exact ret_d2 trivial (by rw [← hr]; rfl) (by simp only [ends, ite_true, ite_false, reduceIte, Nat.reduceEqDiff, Nat.reduceLeDiff, Nat.reduceLT, Nat.reduceAdd, reduceCtorEq, num, boo, str, ints, aV, aTab, aInst, aS, aT, aC, found, pairA, aFk, vT])

theorem fidx_self {α : Type} [Inhabited α] (p : α → Bool) : ∀ (l : List α) (i : Nat), i < l.length → p (l.getD i default) = true → 0 ≤ fidx p l ∧ fidx p l ≤ i
  | [], i, h, _ => by simp at h
  | x :: l, 0, _, hp => by simp at hp; simp [fidx, hp]
  | x :: l, i + 1, h, hp => by
    have := fidx_self p l i (by simpa using h) (by simpa using hp)
    simp only [fidx]
    split
    · omega
    · rw [if_neg (by omega)]; omega
theorem byC_self (l : List Col) (i : Nat) (h : i < l.length) : (posOf (byC l (l.getD i default).name) < i) ↔ posOf (byC l (l.getD i default).name) ≠ i := by
  have : 0 ≤ byC l (l.getD i default).name ∧ byC l (l.getD i default).name ≤ i := fidx_self (fun t : Col => t.name.toList == (l.getD i default).name.toList) l i h (by simp)
  unfold posOf
  rw [if_neg (by omega)]
  omega
theorem byT_self (l : Sch) (i : Nat) (h : i < l.length) : (posOf (byT l (l.getD i default).name) < i) ↔ posOf (byT l (l.getD i default).name) ≠ i := by
  have : 0 ≤ byT l (l.getD i default).name ∧ byT l (l.getD i default).name ≤ i := fidx_self (fun t : Tbl => t.name.toList == (l.getD i default).name.toList) l i h (by simp)
  unfold posOf
  rw [if_neg (by omega)]
  omega

theorem c_rtable (t : Tbl) (ht : SmallT t) : ACall Tryd.prog 37 [aT t] [] (num (tableM t)) [] := by
  refine ACall.enter mixed ttok Tryd.func37 rfl rfl _ Tryd.ntmps37 (Nat.le_of_ble_eq_true rfl) (by kernel_rfl) _ (congrArg Array.toList Tryd.results37) ?_
  generalize hr : num (tableM t) = R
  simp -implicitDefEqProofs only [argT, ↓steps, push_cast, reduceIte, Nat.reduceEqDiff, Nat.reduceAdd, Nat.reduceMul, Nat.reduceLT, Nat.reduceLeDiff, Int.reduceToNat, Int.reduceLE, Int.reduceLT, reduceCtorEq, tte, num, boo, str, ints, aV, aTab, aInst, aS, aT, aC, found, pairA, aFk, vT]
  have hcl := ht.cols
  have hkl := ht.chk
  have hpl := ht.prim
  have hul := ht.uniq
  have hfl := ht.fors
  have hbig : bigT t = true → retx (some (True, A.d (D.lit (Value.int .i64 8)))) ⟨[], [(1, vT t)]⟩ R [] := fun hb => ret_d trivial (by rw [← hr, tableM, if_pos hb]; rfl) (by simp only [ends, ite_true, ite_false, reduceIte, Nat.reduceEqDiff, Nat.reduceLeDiff, Nat.reduceLT, Nat.reduceAdd, reduceCtorEq, num, boo, str, ints, aV, aTab, aInst, aS, aT, aC, found, pairA, aFk, vT])
  simp only [vT] at hbig
  refine bcase_intro (fun h1 => ?_) fun h1 => ?_
  · exact hbig (by rw [bigT, h1]; simp only [Bool.true_or])
  refine bcase_intro (fun h2 => ?_) fun h2 => ?_
  · exact hbig (by rw [bigT, h2]; simp only [Bool.or_true, Bool.true_or])
  refine bcase_intro (fun h3 => ?_) fun h3 => ?_
  · exact hbig (by rw [bigT, h3]; simp only [Bool.or_true, Bool.true_or])
  refine bcase_intro (fun h4 => ?_) fun h4 => ?_
  · exact hbig (by rw [bigT, h4]; simp only [Bool.or_true])
  clear hbig
  have hb : ¬ bigT t = true := by rw [bigT, h1, h2, h3, h4]; decide
  refine bcase_intro (fun h5 => ?_) fun h5 => ?_
  · have h5' : t.columns.length = 0 := by simpa using h5
    exact ret_d trivial (by rw [← hr, tableM, if_neg hb, if_pos h5']; rfl) (by simp only [ends, ite_true, ite_false, reduceIte, Nat.reduceEqDiff, Nat.reduceLeDiff, Nat.reduceLT, Nat.reduceAdd, reduceCtorEq, num, boo, str, ints, aV, aTab, aInst, aS, aT, aC, found, pairA, aFk, vT])
  have h5' : ¬ t.columns.length = 0 := by simpa using h5
  have hM : tableM t = if ferrN (colErr t) t.columns.length ≠ 0 then ferrN (colErr t) t.columns.length
      else if keysM t ≠ 0 then keysM t else ferr (chkErr t) t.checks := by rw [tableM, if_neg hb, if_neg h5']
  clear h1 h2 h3 h4 h5
  refine loop_count mixed ttok 3 [1] [1] (by simp only [pickT, ends, ite_true, ite_false, reduceIte, Nat.reduceEqDiff, Nat.reduceLeDiff, Nat.reduceLT, Nat.reduceAdd, reduceCtorEq, num, boo, str, ints, aV, aTab, aInst, aS, aT, aC, found, pairA, aFk, vT]; rfl) (by simp only [pickO, consO_some, ends, ite_true, ite_false, reduceIte, Nat.reduceEqDiff, Nat.reduceLeDiff, Nat.reduceLT, Nat.reduceAdd, reduceCtorEq, num, boo, str, ints, aV, aTab, aInst, aS, aT, aC, found, pairA, aFk, vT]; rfl) t.columns.length (fun n => ∀ i, i < n → colErr t i = 0) (fun _ => []) (fun _ => []) (fun i h => absurd h (Nat.not_lt_zero _)) ?_ ?_
  · exact Weak.keepL (by simp [cst, ends, ite_true, ite_false, reduceIte, Nat.reduceEqDiff, Nat.reduceLeDiff, Nat.reduceLT, Nat.reduceAdd, reduceCtorEq, num, boo, str, ints, aV, aTab, aInst, aS, aT, aC, found, pairA, aFk, vT]) (by simp [cst, ends, ite_true, ite_false, reduceIte, Nat.reduceEqDiff, Nat.reduceLeDiff, Nat.reduceLT, Nat.reduceAdd, reduceCtorEq, num, boo, str, ints, aV, aTab, aInst, aS, aT, aC, found, pairA, aFk, vT]) (by simp [cst, ends, ite_true, ite_false, reduceIte, Nat.reduceEqDiff, Nat.reduceLeDiff, Nat.reduceLT, Nat.reduceAdd, reduceCtorEq, num, boo, str, ints, aV, aTab, aInst, aS, aT, aC, found, pairA, aFk, vT])
  intro I hI n hn hi
  simp -implicitDefEqProofs only [cst, ↓steps, push_cast, reduceIte, Nat.reduceEqDiff, Nat.reduceAdd, Nat.reduceMul, Nat.reduceLT, Nat.reduceLeDiff, Int.reduceToNat, Int.reduceLE, Int.reduceLT, reduceCtorEq, tte, num, boo, str, ints, aV, aTab, aInst, aS, aT, aC, found, pairA, aFk, vT]
  refine bcase_intro (fun h => ?_) fun h => ?_
  · simp only [decide_eq_true_eq] at h
    have h' : n < t.columns.length := by omega
    have hw := wrap_succ h' (by omega)
    have hE : colErr t n ≠ 0 → num (colErr t n) = R := fun hne => by
      have := ferrN_at h' hi hne
      rw [← hr, hM, this, if_pos hne]
    refine ⟨(by first | omega | trivial | (refine ⟨?_, ?_⟩ <;> first | omega | trivial | (refine ⟨?_, ?_⟩ <;> first | omega | trivial | (refine ⟨?_, ?_⟩ <;> first | omega | trivial | rfl)))), ?_⟩
    refine callx_of [[0]] [] rfl (c_rname2 (t.columns.getD n default).name) (by first | (simp; done) | (simp [rowsOf_length]; done) | (simp [rowsOf_length]; omega)) (by first | (simp only [ends, ite_true, ite_false, reduceIte, Nat.reduceEqDiff, Nat.reduceLeDiff, Nat.reduceLT, Nat.reduceAdd, reduceCtorEq, num, boo, str, ints, aV, aTab, aInst, aS, aT, aC, found, pairA, aFk, vT, num, boo, str, aE_eq, aV]; done) | simp [ends, ite_true, ite_false, reduceIte, Nat.reduceEqDiff, Nat.reduceLeDiff, Nat.reduceLT, Nat.reduceAdd, reduceCtorEq, num, boo, str, ints, aV, aTab, aInst, aS, aT, aC, found, pairA, aFk, vT, num, boo, str, aE_eq, aV]) (by first | rfl | (simp only [ends, ite_true, ite_false, reduceIte, Nat.reduceEqDiff, Nat.reduceLeDiff, Nat.reduceLT, Nat.reduceAdd, reduceCtorEq, num, boo, str, ints, aV, aTab, aInst, aS, aT, aC, found, pairA, aFk, vT, num, boo, str, aE_eq, aV]; done) | simp [ends, ite_true, ite_false, reduceIte, Nat.reduceEqDiff, Nat.reduceLeDiff, Nat.reduceLT, Nat.reduceAdd, reduceCtorEq, num, boo, str, ints, aV, aTab, aInst, aS, aT, aC, found, pairA, aFk, vT, num, boo, str, aE_eq, aV]) (by simp only [ends, ite_true, ite_false, reduceIte, Nat.reduceEqDiff, Nat.reduceLeDiff, Nat.reduceLT, Nat.reduceAdd, reduceCtorEq, num, boo, str, ints, aV, aTab, aInst, aS, aT, aC, found, pairA, aFk, vT]) (by simp [idsOk, lookO, updO, ren1]) ?_
    simp -implicitDefEqProofs only [↓steps, push_cast, reduceIte, Nat.reduceEqDiff, Nat.reduceAdd, Nat.reduceMul, Nat.reduceLT, Nat.reduceLeDiff, Int.reduceToNat, Int.reduceLE, Int.reduceLT, reduceCtorEq, tte, num, boo, str, ints, aV, aTab, aInst, aS, aT, aC, found, pairA, aFk, vT]
    refine bcase_intro (fun g1 => ?_) fun g1 => ?_
    · have hc : colErr t n = 3 := if_pos g1
      exact ret_d trivial (by rw [← hE (by rw [hc]; decide), hc]; rfl) (by simp only [ends, ite_true, ite_false, reduceIte, Nat.reduceEqDiff, Nat.reduceLeDiff, Nat.reduceLT, Nat.reduceAdd, reduceCtorEq, num, boo, str, ints, aV, aTab, aInst, aS, aT, aC, found, pairA, aFk, vT])
    refine callx_of [[0, 3, 1, 1, 2, 6], [0]] [] rfl (c_rcolumn t (t.columns.getD n default).name (by omega)) (by first | (simp; done) | (simp [rowsOf_length]; done) | (simp [rowsOf_length]; omega)) (by first | (simp only [ends, ite_true, ite_false, reduceIte, Nat.reduceEqDiff, Nat.reduceLeDiff, Nat.reduceLT, Nat.reduceAdd, reduceCtorEq, num, boo, str, ints, aV, aTab, aInst, aS, aT, aC, found, pairA, aFk, vT, num, boo, str, aE_eq, aV]; done) | simp [ends, ite_true, ite_false, reduceIte, Nat.reduceEqDiff, Nat.reduceLeDiff, Nat.reduceLT, Nat.reduceAdd, reduceCtorEq, num, boo, str, ints, aV, aTab, aInst, aS, aT, aC, found, pairA, aFk, vT, num, boo, str, aE_eq, aV]) (by first | rfl | (simp only [ends, ite_true, ite_false, reduceIte, Nat.reduceEqDiff, Nat.reduceLeDiff, Nat.reduceLT, Nat.reduceAdd, reduceCtorEq, num, boo, str, ints, aV, aTab, aInst, aS, aT, aC, found, pairA, aFk, vT, num, boo, str, aE_eq, aV]; done) | simp [ends, ite_true, ite_false, reduceIte, Nat.reduceEqDiff, Nat.reduceLeDiff, Nat.reduceLT, Nat.reduceAdd, reduceCtorEq, num, boo, str, ints, aV, aTab, aInst, aS, aT, aC, found, pairA, aFk, vT, num, boo, str, aE_eq, aV]) (by simp only [ends, ite_true, ite_false, reduceIte, Nat.reduceEqDiff, Nat.reduceLeDiff, Nat.reduceLT, Nat.reduceAdd, reduceCtorEq, num, boo, str, ints, aV, aTab, aInst, aS, aT, aC, found, pairA, aFk, vT]) (by simp [idsOk, lookO, updO, ren1]) ?_
    simp -implicitDefEqProofs only [↓steps, push_cast, reduceIte, Nat.reduceEqDiff, Nat.reduceAdd, Nat.reduceMul, Nat.reduceLT, Nat.reduceLeDiff, Int.reduceToNat, Int.reduceLE, Int.reduceLT, reduceCtorEq, tte, num, boo, str, ints, aV, aTab, aInst, aS, aT, aC, found, pairA, aFk, vT]
    refine bcase_intro (fun g2 => ?_) fun g2 => ?_
    · have g2' : posOf (byC t.columns (t.columns.getD n default).name) ≠ n := by simpa [posOf] using g2
      have hc : colErr t n = 5 := by rw [colErr, if_neg (by rw [g1]; decide), if_pos ((byC_self t.columns n h').2 g2')]
      exact ret_d trivial (by rw [← hE (by rw [hc]; decide), hc]; rfl) (by simp only [ends, ite_true, ite_false, reduceIte, Nat.reduceEqDiff, Nat.reduceLeDiff, Nat.reduceLT, Nat.reduceAdd, reduceCtorEq, num, boo, str, ints, aV, aTab, aInst, aS, aT, aC, found, pairA, aFk, vT])
    have g2' : ¬ posOf (byC t.columns (t.columns.getD n default).name) ≠ n := by simpa [posOf] using g2
    have hcB : colErr t n = if badType (t.columns.getD n default).type then 4 else 0 := by
      rw [colErr, if_neg (by rw [g1]; decide), if_neg (fun q => g2' ((byC_self t.columns n h').1 q))]
    have hbt : badType (t.columns.getD n default).type = (decide ((t.columns.getD n default).type < 1) || decide ((t.columns.getD n default).type > 3)) := by
      rw [Bool.eq_iff_iff]
      simp only [badType, Bool.and_eq_true, Bool.or_eq_true, bne_iff_ne, ne_eq, decide_eq_true_eq]
      omega
    have hinv : badType (t.columns.getD n default).type = false → ∀ i, i < n + 1 → colErr t i = 0 := fun hb i h2 => if h3 : i = n then by rw [h3, hcB, hb]; rfl else hi i (by omega)
    refine bcase_intro (fun g3 => ?_) fun g3 => ?_
    · have hc : colErr t n = 4 := by rw [hcB, hbt, g3]; rfl
      exact ret_d trivial (by rw [← hE (by rw [hc]; decide), hc]; rfl) (by simp only [ends, ite_true, ite_false, reduceIte, Nat.reduceEqDiff, Nat.reduceLeDiff, Nat.reduceLT, Nat.reduceAdd, reduceCtorEq, num, boo, str, ints, aV, aTab, aInst, aS, aT, aC, found, pairA, aFk, vT])
    refine bcase_intro (fun g4 => ?_) fun g4 => ?_
    · have hc : colErr t n = 4 := by rw [hcB, hbt, g4, Bool.or_true]; rfl
      exact ret_d trivial (by rw [← hE (by rw [hc]; decide), hc]; rfl) (by simp only [ends, ite_true, ite_false, reduceIte, Nat.reduceEqDiff, Nat.reduceLeDiff, Nat.reduceLT, Nat.reduceAdd, reduceCtorEq, num, boo, str, ints, aV, aTab, aInst, aS, aT, aC, found, pairA, aFk, vT])
    exact cnt_again hI n rfl h' (hinv (by rw [hbt, g3, g4]; rfl)) (by simp only [hw, ends, ite_true, ite_false, reduceIte, Nat.reduceEqDiff, Nat.reduceLeDiff, Nat.reduceLT, Nat.reduceAdd, reduceCtorEq, num, boo, str, ints, aV, aTab, aInst, aS, aT, aC, found, pairA, aFk, vT]) (by simp [hw, ends, ite_true, ite_false, reduceIte, Nat.reduceEqDiff, Nat.reduceLeDiff, Nat.reduceLT, Nat.reduceAdd, reduceCtorEq, num, boo, str, ints, aV, aTab, aInst, aS, aT, aC, found, pairA, aFk, vT]) (by simp [hw, ends, ite_true, ite_false, reduceIte, Nat.reduceEqDiff, Nat.reduceLeDiff, Nat.reduceLT, Nat.reduceAdd, reduceCtorEq, num, boo, str, ints, aV, aTab, aInst, aS, aT, aC, found, pairA, aFk, vT]) (by simp [hw, ends, ite_true, ite_false, reduceIte, Nat.reduceEqDiff, Nat.reduceLeDiff, Nat.reduceLT, Nat.reduceAdd, reduceCtorEq, num, boo, str, ints, aV, aTab, aInst, aS, aT, aC, found, pairA, aFk, vT])
  simp only [decide_eq_false_iff_not] at h
  obtain rfl : n = t.columns.length := by omega
  clear hI
  have hM2 : tableM t = if keysM t ≠ 0 then keysM t else ferr (chkErr t) t.checks := by rw [hM, ferrN_none hi, if_neg (by decide)]
  clear hM h hi hn I
  refine callx_of [[0, 3, 1, 1, 2, 6], [1]] [] rfl (c_listed t t.primary (by omega)) (by first | (simp; done) | (simp [rowsOf_length]; done) | (simp [rowsOf_length]; omega)) (by first | (simp only [ends, ite_true, ite_false, reduceIte, Nat.reduceEqDiff, Nat.reduceLeDiff, Nat.reduceLT, Nat.reduceAdd, reduceCtorEq, num, boo, str, ints, aV, aTab, aInst, aS, aT, aC, found, pairA, aFk, vT, num, boo, str, aE_eq, aV]; done) | simp [ends, ite_true, ite_false, reduceIte, Nat.reduceEqDiff, Nat.reduceLeDiff, Nat.reduceLT, Nat.reduceAdd, reduceCtorEq, num, boo, str, ints, aV, aTab, aInst, aS, aT, aC, found, pairA, aFk, vT, num, boo, str, aE_eq, aV]) (by first | rfl | (simp only [ends, ite_true, ite_false, reduceIte, Nat.reduceEqDiff, Nat.reduceLeDiff, Nat.reduceLT, Nat.reduceAdd, reduceCtorEq, num, boo, str, ints, aV, aTab, aInst, aS, aT, aC, found, pairA, aFk, vT, num, boo, str, aE_eq, aV]; done) | simp [ends, ite_true, ite_false, reduceIte, Nat.reduceEqDiff, Nat.reduceLeDiff, Nat.reduceLT, Nat.reduceAdd, reduceCtorEq, num, boo, str, ints, aV, aTab, aInst, aS, aT, aC, found, pairA, aFk, vT, num, boo, str, aE_eq, aV]) (by simp only [ends, ite_true, ite_false, reduceIte, Nat.reduceEqDiff, Nat.reduceLeDiff, Nat.reduceLT, Nat.reduceAdd, reduceCtorEq, num, boo, str, ints, aV, aTab, aInst, aS, aT, aC, found, pairA, aFk, vT]) (by simp [idsOk, lookO, updO, ren1]) ?_
  simp -implicitDefEqProofs only [↓steps, push_cast, reduceIte, Nat.reduceEqDiff, Nat.reduceAdd, Nat.reduceMul, Nat.reduceLT, Nat.reduceLeDiff, Int.reduceToNat, Int.reduceLE, Int.reduceLT, reduceCtorEq, tte, num, boo, str, ints, aV, aTab, aInst, aS, aT, aC, found, pairA, aFk, vT]
  refine bcase_intro (fun p1 => ?_) fun p1 => ?_
  · have p1' : okKey t.columns.length t.primary = false := by simpa using p1
    have hk : keysM t = 6 := by rw [keysM, p1']; rfl
    exact ret_d trivial (by rw [← hr, hM2, hk]; rfl) (by simp only [ends, ite_true, ite_false, reduceIte, Nat.reduceEqDiff, Nat.reduceLeDiff, Nat.reduceLT, Nat.reduceAdd, reduceCtorEq, num, boo, str, ints, aV, aTab, aInst, aS, aT, aC, found, pairA, aFk, vT])
  have p1' : okKey t.columns.length t.primary = true := by simpa using p1
  have hin := okKey_in p1'
  refine loop_count mixed ttok 7 [1] [1] (by simp only [pickT, ends, ite_true, ite_false, reduceIte, Nat.reduceEqDiff, Nat.reduceLeDiff, Nat.reduceLT, Nat.reduceAdd, reduceCtorEq, num, boo, str, ints, aV, aTab, aInst, aS, aT, aC, found, pairA, aFk, vT]; rfl) (by simp only [pickO, consO_some, ends, ite_true, ite_false, reduceIte, Nat.reduceEqDiff, Nat.reduceLeDiff, Nat.reduceLT, Nat.reduceAdd, reduceCtorEq, num, boo, str, ints, aV, aTab, aInst, aS, aT, aC, found, pairA, aFk, vT]; rfl) t.primary.length (fun n => ∀ i, i < n → nullAt t (t.primary.getD i default) = false) (fun _ => []) (fun _ => []) (fun i h => absurd h (Nat.not_lt_zero _)) ?_ ?_
  · exact Weak.keepL (by simp [cst, ends, ite_true, ite_false, reduceIte, Nat.reduceEqDiff, Nat.reduceLeDiff, Nat.reduceLT, Nat.reduceAdd, reduceCtorEq, num, boo, str, ints, aV, aTab, aInst, aS, aT, aC, found, pairA, aFk, vT]) (by simp [cst, ends, ite_true, ite_false, reduceIte, Nat.reduceEqDiff, Nat.reduceLeDiff, Nat.reduceLT, Nat.reduceAdd, reduceCtorEq, num, boo, str, ints, aV, aTab, aInst, aS, aT, aC, found, pairA, aFk, vT]) (by simp [cst, ends, ite_true, ite_false, reduceIte, Nat.reduceEqDiff, Nat.reduceLeDiff, Nat.reduceLT, Nat.reduceAdd, reduceCtorEq, num, boo, str, ints, aV, aTab, aInst, aS, aT, aC, found, pairA, aFk, vT])
  intro I hI n hn hi
  simp -implicitDefEqProofs only [cst, ↓steps, push_cast, reduceIte, Nat.reduceEqDiff, Nat.reduceAdd, Nat.reduceMul, Nat.reduceLT, Nat.reduceLeDiff, Int.reduceToNat, Int.reduceLE, Int.reduceLT, reduceCtorEq, tte, num, boo, str, ints, aV, aTab, aInst, aS, aT, aC, found, pairA, aFk, vT]
  refine bcase_intro (fun h => ?_) fun h => ?_
  · simp only [decide_eq_true_eq] at h
    have h' : n < t.primary.length := by omega
    have hw := wrap_succ h' (by omega)
    have hic := hin _ (getD_mem h')
    obtain ⟨hc0, hc1⟩ := hic
    refine ⟨(by first | omega | trivial | (refine ⟨?_, ?_⟩ <;> first | omega | trivial | (refine ⟨?_, ?_⟩ <;> first | omega | trivial | (refine ⟨?_, ?_⟩ <;> first | omega | trivial | rfl)))), ⟨hc0, hc1⟩, drawx_intro (by kernel_rfl), ?_⟩
    refine bcase_intro (fun g => ?_) fun g => ?_
    · have hk : keysM t = 4 := by
        have : t.primary.any (nullAt t) = true := List.any_eq_true.2 ⟨_, getD_mem h', g⟩
        rw [keysM, p1', this]; rfl
      exact ret_d trivial (by rw [← hr, hM2, hk]; rfl) (by simp only [ends, ite_true, ite_false, reduceIte, Nat.reduceEqDiff, Nat.reduceLeDiff, Nat.reduceLT, Nat.reduceAdd, reduceCtorEq, num, boo, str, ints, aV, aTab, aInst, aS, aT, aC, found, pairA, aFk, vT])
    · exact cnt_again hI n rfl h' (fun i h2 => if h3 : i = n then by rw [h3]; exact g else hi i (by omega)) (by simp only [hw, ends, ite_true, ite_false, reduceIte, Nat.reduceEqDiff, Nat.reduceLeDiff, Nat.reduceLT, Nat.reduceAdd, reduceCtorEq, num, boo, str, ints, aV, aTab, aInst, aS, aT, aC, found, pairA, aFk, vT]) (by simp [hw, ends, ite_true, ite_false, reduceIte, Nat.reduceEqDiff, Nat.reduceLeDiff, Nat.reduceLT, Nat.reduceAdd, reduceCtorEq, num, boo, str, ints, aV, aTab, aInst, aS, aT, aC, found, pairA, aFk, vT]) (by simp [hw, ends, ite_true, ite_false, reduceIte, Nat.reduceEqDiff, Nat.reduceLeDiff, Nat.reduceLT, Nat.reduceAdd, reduceCtorEq, num, boo, str, ints, aV, aTab, aInst, aS, aT, aC, found, pairA, aFk, vT]) (by simp [hw, ends, ite_true, ite_false, reduceIte, Nat.reduceEqDiff, Nat.reduceLeDiff, Nat.reduceLT, Nat.reduceAdd, reduceCtorEq, num, boo, str, ints, aV, aTab, aInst, aS, aT, aC, found, pairA, aFk, vT])
  simp only [decide_eq_false_iff_not] at h
  obtain rfl : n = t.primary.length := by omega
  clear hI
  have hany : t.primary.any (nullAt t) = false := by
    rw [List.any_eq_false]; intro x hx
    obtain ⟨i, h1, rfl⟩ := mem_getD hx
    rw [hi i h1]; decide
  have hkM : keysM t = if (moreKeys t).all (okKey t.columns.length) then 0 else 6 := by rw [keysM, p1', hany]; rfl
  have hbad : (∃ l ∈ moreKeys t, okKey t.columns.length l = false) → num 6 = R := fun ⟨l, hl, hk⟩ => by
    have : (moreKeys t).all (okKey t.columns.length) = false := List.all_eq_false.2 ⟨l, hl, by rw [hk]; decide⟩
    rw [← hr, hM2, hkM, this]; rfl
  clear hi hn h I
  refine loop_count mixed ttok 8 [1] [1] (by simp only [pickT, ends, ite_true, ite_false, reduceIte, Nat.reduceEqDiff, Nat.reduceLeDiff, Nat.reduceLT, Nat.reduceAdd, reduceCtorEq, num, boo, str, ints, aV, aTab, aInst, aS, aT, aC, found, pairA, aFk, vT]; rfl) (by simp only [pickO, consO_some, ends, ite_true, ite_false, reduceIte, Nat.reduceEqDiff, Nat.reduceLeDiff, Nat.reduceLT, Nat.reduceAdd, reduceCtorEq, num, boo, str, ints, aV, aTab, aInst, aS, aT, aC, found, pairA, aFk, vT]; rfl) t.uniques.length (fun n => ∀ i, i < n → okKey t.columns.length (t.uniques.getD i default) = true) (fun _ => []) (fun _ => []) (fun i h => absurd h (Nat.not_lt_zero _)) ?_ ?_
  · exact Weak.keepL (by simp [cst, ends, ite_true, ite_false, reduceIte, Nat.reduceEqDiff, Nat.reduceLeDiff, Nat.reduceLT, Nat.reduceAdd, reduceCtorEq, num, boo, str, ints, aV, aTab, aInst, aS, aT, aC, found, pairA, aFk, vT]) (by simp [cst, ends, ite_true, ite_false, reduceIte, Nat.reduceEqDiff, Nat.reduceLeDiff, Nat.reduceLT, Nat.reduceAdd, reduceCtorEq, num, boo, str, ints, aV, aTab, aInst, aS, aT, aC, found, pairA, aFk, vT]) (by simp [cst, ends, ite_true, ite_false, reduceIte, Nat.reduceEqDiff, Nat.reduceLeDiff, Nat.reduceLT, Nat.reduceAdd, reduceCtorEq, num, boo, str, ints, aV, aTab, aInst, aS, aT, aC, found, pairA, aFk, vT])
  intro I hI n hn hi
  simp -implicitDefEqProofs only [cst, ↓steps, push_cast, reduceIte, Nat.reduceEqDiff, Nat.reduceAdd, Nat.reduceMul, Nat.reduceLT, Nat.reduceLeDiff, Int.reduceToNat, Int.reduceLE, Int.reduceLT, reduceCtorEq, tte, num, boo, str, ints, aV, aTab, aInst, aS, aT, aC, found, pairA, aFk, vT]
  refine bcase_intro (fun h => ?_) fun h => ?_
  · simp only [decide_eq_true_eq] at h
    have h' : n < t.uniques.length := by omega
    have hw := wrap_succ h' (by omega)
    have hlu := ht.uniqs _ (getD_mem h')
    refine ⟨(by first | omega | trivial | (refine ⟨?_, ?_⟩ <;> first | omega | trivial | (refine ⟨?_, ?_⟩ <;> first | omega | trivial | (refine ⟨?_, ?_⟩ <;> first | omega | trivial | rfl)))), ?_⟩
    refine callx_of [[0, 3, 1, 1, 2, 6], [1]] [] rfl (c_listed t (t.uniques.getD n default) (by omega)) (by first | (simp; done) | (simp [rowsOf_length]; done) | (simp [rowsOf_length]; omega)) (by first | (simp only [ends, ite_true, ite_false, reduceIte, Nat.reduceEqDiff, Nat.reduceLeDiff, Nat.reduceLT, Nat.reduceAdd, reduceCtorEq, num, boo, str, ints, aV, aTab, aInst, aS, aT, aC, found, pairA, aFk, vT, num, boo, str, aE_eq, aV]; done) | simp [ends, ite_true, ite_false, reduceIte, Nat.reduceEqDiff, Nat.reduceLeDiff, Nat.reduceLT, Nat.reduceAdd, reduceCtorEq, num, boo, str, ints, aV, aTab, aInst, aS, aT, aC, found, pairA, aFk, vT, num, boo, str, aE_eq, aV]) (by first | rfl | (simp only [ends, ite_true, ite_false, reduceIte, Nat.reduceEqDiff, Nat.reduceLeDiff, Nat.reduceLT, Nat.reduceAdd, reduceCtorEq, num, boo, str, ints, aV, aTab, aInst, aS, aT, aC, found, pairA, aFk, vT, num, boo, str, aE_eq, aV]; done) | simp [ends, ite_true, ite_false, reduceIte, Nat.reduceEqDiff, Nat.reduceLeDiff, Nat.reduceLT, Nat.reduceAdd, reduceCtorEq, num, boo, str, ints, aV, aTab, aInst, aS, aT, aC, found, pairA, aFk, vT, num, boo, str, aE_eq, aV]) (by simp only [ends, ite_true, ite_false, reduceIte, Nat.reduceEqDiff, Nat.reduceLeDiff, Nat.reduceLT, Nat.reduceAdd, reduceCtorEq, num, boo, str, ints, aV, aTab, aInst, aS, aT, aC, found, pairA, aFk, vT]) (by simp [idsOk, lookO, updO, ren1]) ?_
    simp -implicitDefEqProofs only [↓steps, push_cast, reduceIte, Nat.reduceEqDiff, Nat.reduceAdd, Nat.reduceMul, Nat.reduceLT, Nat.reduceLeDiff, Int.reduceToNat, Int.reduceLE, Int.reduceLT, reduceCtorEq, tte, num, boo, str, ints, aV, aTab, aInst, aS, aT, aC, found, pairA, aFk, vT]
    refine ⟨drawx_intro (by kernel_rfl), ?_⟩
    refine bcase_intro (fun g => ?_) fun g => ?_
    · have g' : okKey t.columns.length (t.uniques.getD n default) = false := by simpa using g
      exact ret_d trivial (hbad ⟨_, List.mem_append.2 (.inl (getD_mem h')), g'⟩) (by simp only [ends, ite_true, ite_false, reduceIte, Nat.reduceEqDiff, Nat.reduceLeDiff, Nat.reduceLT, Nat.reduceAdd, reduceCtorEq, num, boo, str, ints, aV, aTab, aInst, aS, aT, aC, found, pairA, aFk, vT])
    · have g' : okKey t.columns.length (t.uniques.getD n default) = true := by simpa using g
      exact cnt_again hI n rfl h' (fun i h2 => if h3 : i = n then by rw [h3]; exact g' else hi i (by omega)) (by simp only [hw, ends, ite_true, ite_false, reduceIte, Nat.reduceEqDiff, Nat.reduceLeDiff, Nat.reduceLT, Nat.reduceAdd, reduceCtorEq, num, boo, str, ints, aV, aTab, aInst, aS, aT, aC, found, pairA, aFk, vT]) (by simp [hw, ends, ite_true, ite_false, reduceIte, Nat.reduceEqDiff, Nat.reduceLeDiff, Nat.reduceLT, Nat.reduceAdd, reduceCtorEq, num, boo, str, ints, aV, aTab, aInst, aS, aT, aC, found, pairA, aFk, vT]) (by simp [hw, ends, ite_true, ite_false, reduceIte, Nat.reduceEqDiff, Nat.reduceLeDiff, Nat.reduceLT, Nat.reduceAdd, reduceCtorEq, num, boo, str, ints, aV, aTab, aInst, aS, aT, aC, found, pairA, aFk, vT]) (by simp [hw, ends, ite_true, ite_false, reduceIte, Nat.reduceEqDiff, Nat.reduceLeDiff, Nat.reduceLT, Nat.reduceAdd, reduceCtorEq, num, boo, str, ints, aV, aTab, aInst, aS, aT, aC, found, pairA, aFk, vT])
  simp only [decide_eq_false_iff_not] at h
  obtain rfl : n = t.uniques.length := by omega
  clear hI
  have hU := hi
  clear hi hn h I
  refine loop_count mixed ttok 9 [1] [1] (by simp only [pickT, ends, ite_true, ite_false, reduceIte, Nat.reduceEqDiff, Nat.reduceLeDiff, Nat.reduceLT, Nat.reduceAdd, reduceCtorEq, num, boo, str, ints, aV, aTab, aInst, aS, aT, aC, found, pairA, aFk, vT]; rfl) (by simp only [pickO, consO_some, ends, ite_true, ite_false, reduceIte, Nat.reduceEqDiff, Nat.reduceLeDiff, Nat.reduceLT, Nat.reduceAdd, reduceCtorEq, num, boo, str, ints, aV, aTab, aInst, aS, aT, aC, found, pairA, aFk, vT]; rfl) t.foreigns.length (fun n => ∀ i, i < n → okKey t.columns.length (t.foreigns.getD i default).columns = true) (fun _ => []) (fun _ => []) (fun i h => absurd h (Nat.not_lt_zero _)) ?_ ?_
  · exact Weak.keepL (by simp [cst, ends, ite_true, ite_false, reduceIte, Nat.reduceEqDiff, Nat.reduceLeDiff, Nat.reduceLT, Nat.reduceAdd, reduceCtorEq, num, boo, str, ints, aV, aTab, aInst, aS, aT, aC, found, pairA, aFk, vT]) (by simp [cst, ends, ite_true, ite_false, reduceIte, Nat.reduceEqDiff, Nat.reduceLeDiff, Nat.reduceLT, Nat.reduceAdd, reduceCtorEq, num, boo, str, ints, aV, aTab, aInst, aS, aT, aC, found, pairA, aFk, vT]) (by simp [cst, ends, ite_true, ite_false, reduceIte, Nat.reduceEqDiff, Nat.reduceLeDiff, Nat.reduceLT, Nat.reduceAdd, reduceCtorEq, num, boo, str, ints, aV, aTab, aInst, aS, aT, aC, found, pairA, aFk, vT])
  intro I hI n hn hi
  simp -implicitDefEqProofs only [cst, ↓steps, push_cast, reduceIte, Nat.reduceEqDiff, Nat.reduceAdd, Nat.reduceMul, Nat.reduceLT, Nat.reduceLeDiff, Int.reduceToNat, Int.reduceLE, Int.reduceLT, reduceCtorEq, tte, num, boo, str, ints, aV, aTab, aInst, aS, aT, aC, found, pairA, aFk, vT]
  refine bcase_intro (fun h => ?_) fun h => ?_
  · simp only [decide_eq_true_eq] at h
    have h' : n < t.foreigns.length := by omega
    have hw := wrap_succ h' (by omega)
    have hlu := ht.forss _ (getD_mem h')
    refine ⟨(by first | omega | trivial | (refine ⟨?_, ?_⟩ <;> first | omega | trivial | (refine ⟨?_, ?_⟩ <;> first | omega | trivial | (refine ⟨?_, ?_⟩ <;> first | omega | trivial | rfl)))), ?_⟩
    refine callx_of [[0, 3, 1, 1, 2, 6], [1]] [] rfl (c_listed t (t.foreigns.getD n default).columns (by omega)) (by first | (simp; done) | (simp [rowsOf_length]; done) | (simp [rowsOf_length]; omega)) (by first | (simp only [ends, ite_true, ite_false, reduceIte, Nat.reduceEqDiff, Nat.reduceLeDiff, Nat.reduceLT, Nat.reduceAdd, reduceCtorEq, num, boo, str, ints, aV, aTab, aInst, aS, aT, aC, found, pairA, aFk, vT, num, boo, str, aE_eq, aV]; done) | simp [ends, ite_true, ite_false, reduceIte, Nat.reduceEqDiff, Nat.reduceLeDiff, Nat.reduceLT, Nat.reduceAdd, reduceCtorEq, num, boo, str, ints, aV, aTab, aInst, aS, aT, aC, found, pairA, aFk, vT, num, boo, str, aE_eq, aV]) (by first | rfl | (simp only [ends, ite_true, ite_false, reduceIte, Nat.reduceEqDiff, Nat.reduceLeDiff, Nat.reduceLT, Nat.reduceAdd, reduceCtorEq, num, boo, str, ints, aV, aTab, aInst, aS, aT, aC, found, pairA, aFk, vT, num, boo, str, aE_eq, aV]; done) | simp [ends, ite_true, ite_false, reduceIte, Nat.reduceEqDiff, Nat.reduceLeDiff, Nat.reduceLT, Nat.reduceAdd, reduceCtorEq, num, boo, str, ints, aV, aTab, aInst, aS, aT, aC, found, pairA, aFk, vT, num, boo, str, aE_eq, aV]) (by simp only [ends, ite_true, ite_false, reduceIte, Nat.reduceEqDiff, Nat.reduceLeDiff, Nat.reduceLT, Nat.reduceAdd, reduceCtorEq, num, boo, str, ints, aV, aTab, aInst, aS, aT, aC, found, pairA, aFk, vT]) (by simp [idsOk, lookO, updO, ren1]) ?_
    simp -implicitDefEqProofs only [↓steps, push_cast, reduceIte, Nat.reduceEqDiff, Nat.reduceAdd, Nat.reduceMul, Nat.reduceLT, Nat.reduceLeDiff, Int.reduceToNat, Int.reduceLE, Int.reduceLT, reduceCtorEq, tte, num, boo, str, ints, aV, aTab, aInst, aS, aT, aC, found, pairA, aFk, vT]
    refine ⟨drawx_intro (by kernel_rfl), ?_⟩
    refine bcase_intro (fun g => ?_) fun g => ?_
    · have g' : okKey t.columns.length (t.foreigns.getD n default).columns = false := by simpa using g
      exact ret_d trivial (hbad ⟨_, List.mem_append.2 (.inr (List.mem_map.2 ⟨_, getD_mem h', rfl⟩)), g'⟩) (by simp only [ends, ite_true, ite_false, reduceIte, Nat.reduceEqDiff, Nat.reduceLeDiff, Nat.reduceLT, Nat.reduceAdd, reduceCtorEq, num, boo, str, ints, aV, aTab, aInst, aS, aT, aC, found, pairA, aFk, vT])
    · have g' : okKey t.columns.length (t.foreigns.getD n default).columns = true := by simpa using g
      exact cnt_again hI n rfl h' (fun i h2 => if h3 : i = n then by rw [h3]; exact g' else hi i (by omega)) (by simp only [hw, ends, ite_true, ite_false, reduceIte, Nat.reduceEqDiff, Nat.reduceLeDiff, Nat.reduceLT, Nat.reduceAdd, reduceCtorEq, num, boo, str, ints, aV, aTab, aInst, aS, aT, aC, found, pairA, aFk, vT]) (by simp [hw, ends, ite_true, ite_false, reduceIte, Nat.reduceEqDiff, Nat.reduceLeDiff, Nat.reduceLT, Nat.reduceAdd, reduceCtorEq, num, boo, str, ints, aV, aTab, aInst, aS, aT, aC, found, pairA, aFk, vT]) (by simp [hw, ends, ite_true, ite_false, reduceIte, Nat.reduceEqDiff, Nat.reduceLeDiff, Nat.reduceLT, Nat.reduceAdd, reduceCtorEq, num, boo, str, ints, aV, aTab, aInst, aS, aT, aC, found, pairA, aFk, vT]) (by simp [hw, ends, ite_true, ite_false, reduceIte, Nat.reduceEqDiff, Nat.reduceLeDiff, Nat.reduceLT, Nat.reduceAdd, reduceCtorEq, num, boo, str, ints, aV, aTab, aInst, aS, aT, aC, found, pairA, aFk, vT])
  simp only [decide_eq_false_iff_not] at h
  obtain rfl : n = t.foreigns.length := by omega
  clear hI
  have hk0 : keysM t = 0 := by
    have : (moreKeys t).all (okKey t.columns.length) = true := by
      rw [List.all_eq_true]
      intro l hl
      rcases List.mem_append.1 hl with hl | hl
      · obtain ⟨i, h1, rfl⟩ := mem_getD hl; exact hU i h1
      · obtain ⟨f, hf, rfl⟩ := List.mem_map.1 hl
        obtain ⟨i, h1, rfl⟩ := mem_getD hf; exact hi i h1
    rw [hkM, this]; rfl
  rw [hk0, if_neg (by decide)] at hM2
  clear hi hn h I hbad hkM hU
  refine loop_count mixed ttok 10 [1] [1] (by simp only [pickT, ends, ite_true, ite_false, reduceIte, Nat.reduceEqDiff, Nat.reduceLeDiff, Nat.reduceLT, Nat.reduceAdd, reduceCtorEq, num, boo, str, ints, aV, aTab, aInst, aS, aT, aC, found, pairA, aFk, vT]; rfl) (by simp only [pickO, consO_some, ends, ite_true, ite_false, reduceIte, Nat.reduceEqDiff, Nat.reduceLeDiff, Nat.reduceLT, Nat.reduceAdd, reduceCtorEq, num, boo, str, ints, aV, aTab, aInst, aS, aT, aC, found, pairA, aFk, vT]; rfl) t.checks.length (fun n => ∀ i, i < n → chkErr t (t.checks.getD i default) = 0) (fun _ => []) (fun _ => []) (fun i h => absurd h (Nat.not_lt_zero _)) ?_ ?_
  · exact Weak.keepL (by simp [cst, ends, ite_true, ite_false, reduceIte, Nat.reduceEqDiff, Nat.reduceLeDiff, Nat.reduceLT, Nat.reduceAdd, reduceCtorEq, num, boo, str, ints, aV, aTab, aInst, aS, aT, aC, found, pairA, aFk, vT]) (by simp [cst, ends, ite_true, ite_false, reduceIte, Nat.reduceEqDiff, Nat.reduceLeDiff, Nat.reduceLT, Nat.reduceAdd, reduceCtorEq, num, boo, str, ints, aV, aTab, aInst, aS, aT, aC, found, pairA, aFk, vT]) (by simp [cst, ends, ite_true, ite_false, reduceIte, Nat.reduceEqDiff, Nat.reduceLeDiff, Nat.reduceLT, Nat.reduceAdd, reduceCtorEq, num, boo, str, ints, aV, aTab, aInst, aS, aT, aC, found, pairA, aFk, vT])
  intro I hI n hn hi
  simp -implicitDefEqProofs only [cst, ↓steps, push_cast, reduceIte, Nat.reduceEqDiff, Nat.reduceAdd, Nat.reduceMul, Nat.reduceLT, Nat.reduceLeDiff, Int.reduceToNat, Int.reduceLE, Int.reduceLT, reduceCtorEq, tte, num, boo, str, ints, aV, aTab, aInst, aS, aT, aC, found, pairA, aFk, vT]
  refine bcase_intro (fun h => ?_) fun h => ?_
  · simp only [decide_eq_true_eq] at h
    have h' : n < t.checks.length := by omega
    have hw := wrap_succ h' (by omega)
    have hE : chkErr t (t.checks.getD n default) ≠ 0 → num (chkErr t (t.checks.getD n default)) = R := fun hne => by
      have := ferr_at (chkErr t) t.checks n h' hi hne
      rw [← hr, hM2, this]
    have hl : (typesOf t).length ≤ 1000000000 := by rw [typesOf, List.length_map]; omega
    refine callx_of [[0, 3, 1, 1, 2, 6]] [] rfl (c_rtypes t (by omega)) (by first | (simp; done) | (simp [rowsOf_length]; done) | (simp [rowsOf_length]; omega)) (by first | (simp only [ends, ite_true, ite_false, reduceIte, Nat.reduceEqDiff, Nat.reduceLeDiff, Nat.reduceLT, Nat.reduceAdd, reduceCtorEq, num, boo, str, ints, aV, aTab, aInst, aS, aT, aC, found, pairA, aFk, vT, num, boo, str, aE_eq, aV]; done) | simp [ends, ite_true, ite_false, reduceIte, Nat.reduceEqDiff, Nat.reduceLeDiff, Nat.reduceLT, Nat.reduceAdd, reduceCtorEq, num, boo, str, ints, aV, aTab, aInst, aS, aT, aC, found, pairA, aFk, vT, num, boo, str, aE_eq, aV]) (by first | rfl | (simp only [ends, ite_true, ite_false, reduceIte, Nat.reduceEqDiff, Nat.reduceLeDiff, Nat.reduceLT, Nat.reduceAdd, reduceCtorEq, num, boo, str, ints, aV, aTab, aInst, aS, aT, aC, found, pairA, aFk, vT, num, boo, str, aE_eq, aV]; done) | simp [ends, ite_true, ite_false, reduceIte, Nat.reduceEqDiff, Nat.reduceLeDiff, Nat.reduceLT, Nat.reduceAdd, reduceCtorEq, num, boo, str, ints, aV, aTab, aInst, aS, aT, aC, found, pairA, aFk, vT, num, boo, str, aE_eq, aV]) (by simp only [ends, ite_true, ite_false, reduceIte, Nat.reduceEqDiff, Nat.reduceLeDiff, Nat.reduceLT, Nat.reduceAdd, reduceCtorEq, num, boo, str, ints, aV, aTab, aInst, aS, aT, aC, found, pairA, aFk, vT]) (by simp [idsOk, lookO, updO, ren1]) ?_
    simp -implicitDefEqProofs only [↓steps, push_cast, reduceIte, Nat.reduceEqDiff, Nat.reduceAdd, Nat.reduceMul, Nat.reduceLT, Nat.reduceLeDiff, Int.reduceToNat, Int.reduceLE, Int.reduceLT, reduceCtorEq, tte, num, boo, str, ints, aV, aTab, aInst, aS, aT, aC, found, pairA, aFk, vT]
    refine ⟨(by first | omega | trivial | (refine ⟨?_, ?_⟩ <;> first | omega | trivial | (refine ⟨?_, ?_⟩ <;> first | omega | trivial | (refine ⟨?_, ?_⟩ <;> first | omega | trivial | rfl)))), ?_⟩
    refine callx_of [[1], [0, 0, 0, 0, 0, 6]] [] rfl (c_rtype (typesOf t) hl (t.checks.getD n default) (ht.chks _ (getD_mem h'))) (by first | (simp; done) | (simp [rowsOf_length]; done) | (simp [rowsOf_length]; omega)) (by first | (simp only [ends, ite_true, ite_false, reduceIte, Nat.reduceEqDiff, Nat.reduceLeDiff, Nat.reduceLT, Nat.reduceAdd, reduceCtorEq, num, boo, str, ints, aV, aTab, aInst, aS, aT, aC, found, pairA, aFk, vT, num, boo, str, aE_eq, aV]; done) | simp [ends, ite_true, ite_false, reduceIte, Nat.reduceEqDiff, Nat.reduceLeDiff, Nat.reduceLT, Nat.reduceAdd, reduceCtorEq, num, boo, str, ints, aV, aTab, aInst, aS, aT, aC, found, pairA, aFk, vT, num, boo, str, aE_eq, aV]) (by first | rfl | (simp only [ends, ite_true, ite_false, reduceIte, Nat.reduceEqDiff, Nat.reduceLeDiff, Nat.reduceLT, Nat.reduceAdd, reduceCtorEq, num, boo, str, ints, aV, aTab, aInst, aS, aT, aC, found, pairA, aFk, vT, num, boo, str, aE_eq, aV]; done) | simp [ends, ite_true, ite_false, reduceIte, Nat.reduceEqDiff, Nat.reduceLeDiff, Nat.reduceLT, Nat.reduceAdd, reduceCtorEq, num, boo, str, ints, aV, aTab, aInst, aS, aT, aC, found, pairA, aFk, vT, num, boo, str, aE_eq, aV]) (by simp only [ends, ite_true, ite_false, reduceIte, Nat.reduceEqDiff, Nat.reduceLeDiff, Nat.reduceLT, Nat.reduceAdd, reduceCtorEq, num, boo, str, ints, aV, aTab, aInst, aS, aT, aC, found, pairA, aFk, vT]) (by simp [idsOk, lookO, updO, ren1]) ?_
    simp -implicitDefEqProofs only [pairA, ↓steps, push_cast, reduceIte, Nat.reduceEqDiff, Nat.reduceAdd, Nat.reduceMul, Nat.reduceLT, Nat.reduceLeDiff, Int.reduceToNat, Int.reduceLE, Int.reduceLT, reduceCtorEq, tte, num, boo, str, ints, aV, aTab, aInst, aS, aT, aC, found, pairA, aFk, vT]
    refine ⟨drawx_intro (by kernel_rfl), ?_⟩
    refine bcase_intro (fun g1 => ?_) fun g1 => ?_
    · have g1' : (typeM (ownM (typesOf t)) (t.checks.getD n default)).2 ≠ 0 := by simpa using g1
      have hc : chkErr t (t.checks.getD n default) = (typeM (ownM (typesOf t)) (t.checks.getD n default)).2 := if_pos g1'
      exact ret_d trivial (by rw [← hE (by rw [hc]; exact g1'), hc]; rfl) (by simp only [ends, ite_true, ite_false, reduceIte, Nat.reduceEqDiff, Nat.reduceLeDiff, Nat.reduceLT, Nat.reduceAdd, reduceCtorEq, num, boo, str, ints, aV, aTab, aInst, aS, aT, aC, found, pairA, aFk, vT])
    have g1' : ¬ (typeM (ownM (typesOf t)) (t.checks.getD n default)).2 ≠ 0 := by simpa using g1
    refine bcase_intro (fun g2 => ?_) fun g2 => ?_
    · have g2' : (typeM (ownM (typesOf t)) (t.checks.getD n default)).1 ≠ 2 := by simpa using g2
      have hc : chkErr t (t.checks.getD n default) = 4 := by rw [chkErr, if_neg g1', if_pos g2']
      exact ret_d trivial (by rw [← hE (by rw [hc]; decide), hc]; rfl) (by simp only [ends, ite_true, ite_false, reduceIte, Nat.reduceEqDiff, Nat.reduceLeDiff, Nat.reduceLT, Nat.reduceAdd, reduceCtorEq, num, boo, str, ints, aV, aTab, aInst, aS, aT, aC, found, pairA, aFk, vT])
    have g2' : ¬ (typeM (ownM (typesOf t)) (t.checks.getD n default)).1 ≠ 2 := by simpa using g2
    have hc : chkErr t (t.checks.getD n default) = 0 := by rw [chkErr, if_neg g1', if_neg g2']
    exact cnt_again hI n rfl h' (fun i h2 => if h3 : i = n then by rw [h3]; exact hc else hi i (by omega)) (by simp only [hw, ends, ite_true, ite_false, reduceIte, Nat.reduceEqDiff, Nat.reduceLeDiff, Nat.reduceLT, Nat.reduceAdd, reduceCtorEq, num, boo, str, ints, aV, aTab, aInst, aS, aT, aC, found, pairA, aFk, vT]) (by simp [hw, ends, ite_true, ite_false, reduceIte, Nat.reduceEqDiff, Nat.reduceLeDiff, Nat.reduceLT, Nat.reduceAdd, reduceCtorEq, num, boo, str, ints, aV, aTab, aInst, aS, aT, aC, found, pairA, aFk, vT]) (by simp [hw, ends, ite_true, ite_false, reduceIte, Nat.reduceEqDiff, Nat.reduceLeDiff, Nat.reduceLT, Nat.reduceAdd, reduceCtorEq, num, boo, str, ints, aV, aTab, aInst, aS, aT, aC, found, pairA, aFk, vT]) (by simp [hw, ends, ite_true, ite_false, reduceIte, Nat.reduceEqDiff, Nat.reduceLeDiff, Nat.reduceLT, Nat.reduceAdd, reduceCtorEq, num, boo, str, ints, aV, aTab, aInst, aS, aT, aC, found, pairA, aFk, vT])
  simp only [decide_eq_false_iff_not] at h
  obtain rfl : n = t.checks.length := by omega
  exact ret_d trivial (by rw [← hr, hM2, ferr_none _ _ hi]; rfl) (by simp only [ends, ite_true, ite_false, reduceIte, Nat.reduceEqDiff, Nat.reduceLeDiff, Nat.reduceLT, Nat.reduceAdd, reduceCtorEq, num, boo, str, ints, aV, aTab, aInst, aS, aT, aC, found, pairA, aFk, vT])
end Go.Proofs.YtkccdfaelbepeaaDoor

namespace Go.Proofs.YtkccdfaelbepeaaDoor
open Go.Am
set_option linter.unusedVariables false
set_option maxRecDepth 100000
set_option maxHeartbeats 4000000

def rB (b : Bool) : List D := [.lit (.bool b)]
def doneL (s : Sch) (p : List Int) : List Bool := (List.range s.length).map fun i : Nat => p.contains (i : Int)
theorem doneL_length (s : Sch) (p : List Int) : (doneL s p).length = s.length := by simp [doneL]
theorem doneL_get (s : Sch) (p : List Int) (i : Nat) (h : i < s.length) : (doneL s p).getD i default = p.contains (i : Int) := by
  rw [doneL, List.getD_eq_getElem?_getD, List.getElem?_map, List.getElem?_range h]; rfl
theorem doneL_nil (s : Sch) : doneL s [] = List.replicate s.length false := by
  apply List.ext_getElem?
  intro i
  simp only [doneL, List.getElem?_map, List.getElem?_replicate]
  by_cases h : i < s.length
  · rw [List.getElem?_range h, if_pos h]; rfl
  · rw [List.getElem?_eq_none (by simp; omega), if_neg h]; rfl
theorem doneL_set (s : Sch) (p : List Int) (k : Int) (h0 : 0 ≤ k) (h1 : k < s.length) : (doneL s p).set k.toNat true = doneL s (p ++ [k]) := by
  apply List.ext_getElem?
  intro i
  rw [List.getElem?_set, doneL_length]
  by_cases hi : i < s.length
  · simp only [doneL, List.getElem?_map]
    rw [List.getElem?_range hi]
    by_cases hk : k.toNat = i
    · rw [if_pos hk, if_pos (by omega)]
      have : k = (i : Int) := by omega
      simp [this]
    · rw [if_neg hk]
      have : ¬ (i : Int) = k := by omega
      simp [this]
  · rw [if_neg (by omega)]
    simp only [doneL, List.getElem?_map]
    rw [List.getElem?_eq_none (by simp; omega)]; rfl

/-- The head of a loop that has no counter. -/
def cst0 (kt : List (Nat × A)) (ts : Nat → List (Nat × A)) (os : Nat → List (Nat × Ob)) (n : Nat) : SL := ⟨ts n ++ kt, os n⟩
theorem loop_count0 {P : Program} {tt : Types} (hm : P.follows .mixedOrders = true) (T' : tt.ok P) {c : Code} {K : Exit → SL → Prop} {t : List (Nat × A)} {o : List (Nat × Ob)} {kt : List (Nat × A)}
    (keep : List Nat) (hk : pickT t keep = kt) (N : Nat) (Inv : Nat → Prop) (ts : Nat → List (Nat × A)) (os : Nat → List (Nat × Ob)) (h0 : Inv 0)
    (hw : Weak (SL.mk t o).st (cst0 kt ts os 0).st)
    (step : ∀ (I : {n : Nat // n ≤ N ∧ Inv n} → SL), (∀ x, I x = cst0 kt ts os x.1) → ∀ (n : Nat) (hn : n ≤ N) (hi : Inv n), ev P tt c (loopK I (fun x => N - x.1) ⟨n, hn, hi⟩ K) (cst0 kt ts os n)) :
    loopx P c K ⟨t, o⟩ :=
  loop_intro hm T' (fun x : {n : Nat // n ≤ N ∧ Inv n} => cst0 kt ts os x.1) (fun x => N - x.1) ⟨0, Nat.zero_le _, h0⟩ hw fun ⟨n, hn, hi⟩ => step _ (fun _ => rfl) n hn hi
theorem cnt_again0 {N : Nat} {Inv : Nat → Prop} {I : {n : Nat // n ≤ N ∧ Inv n} → SL} {kt : List (Nat × A)} {ts : Nat → List (Nat × A)} {os : Nat → List (Nat × Ob)} (hI : ∀ x, I x = cst0 kt ts os x.1)
    (n : Nat) {x : {n : Nat // n ≤ N ∧ Inv n}} (hx : x.1 = n) {K : Exit → SL → Prop} {t : List (Nat × A)} {o : List (Nat × Ob)} (h1 : n < N) (h2 : Inv (n + 1))
    (hw : Weak (SL.mk t o).st (cst0 kt ts os (n + 1)).st) : loopK I (fun x => N - x.1) x K .normal ⟨t, o⟩ := by
  refine ⟨⟨n + 1, h1, h2⟩, by show N - (n + 1) < N - x.1; omega, ?_⟩
  rw [hI]
  exact hw

/-- The pick, after j places were looked at. -/
def vv (s : Sch) (p : List Int) : Nat → Int
  | 0 => -1
  | j + 1 => if freeAt s p j then j else -1
theorem vv_pick {s : Sch} {p : List Int} {j : Nat} (hj : j ≤ s.length) (hji : ∀ i, i + 1 < j → freeAt s p i = false) (h : j = s.length ∨ ¬ vv s p j < 0) : vv s p j = pickM s p := by
  have hg : ∀ i, i < s.length → (List.range s.length).getD i default = i := fun i hi => range_getD hi
  cases j with
  | zero =>
    rcases h with h | h
    · have : pickM s p = -1 := by rw [pickM, ← h]; rfl
      rw [this]; rfl
    · exact absurd (show (-1 : Int) < 0 by decide) h
  | succ j =>
    by_cases hf : freeAt s p j = true
    · have h1 : vv s p (j + 1) = j := if_pos hf
      rw [h1, pickM]
      symm
      refine fidx_at (freeAt s p) (List.range s.length) j (by simp; omega) (fun i hi => ?_) ?_
      · rw [hg i (by omega)]; exact hji i (by omega)
      · rw [hg j (by omega)]; exact hf
    · have hf' : freeAt s p j = false := by simpa using hf
      have h1 : vv s p (j + 1) = -1 := if_neg hf
      rw [h1] at h ⊢
      have hj2 : j + 1 = s.length := h.resolve_right (by decide)
      rw [pickM]
      symm
      refine fidx_none (freeAt s p) (List.range s.length) fun i hi => ?_
      rw [List.length_range] at hi
      rw [hg i hi]
      by_cases hij : i = j
      · rw [hij]; exact hf'
      · exact hji i (by omega)
def frK (s : Sch) (p : List Int) (j k : Nat) : Bool := (!p.contains (j : Int)) && ((fks s j).take k).all fun f => p.contains (byT s f.table)
theorem frK_zero (s : Sch) (p : List Int) (j : Nat) : frK s p j 0 = !p.contains (j : Int) := by rw [frK]; simp
theorem frK_succ (s : Sch) (p : List Int) (j k : Nat) (h : k < (fks s j).length) : frK s p j (k + 1) = (frK s p j k && p.contains (byT s ((fks s j).getD k default).table)) := by
  rw [frK, frK, take_snoc _ _ h, List.all_append]; simp [Bool.and_assoc]
theorem frK_all (s : Sch) (p : List Int) (j : Nat) : frK s p j (fks s j).length = freeAt s p j := by rw [frK, List.take_length]; rfl
theorem setB_rows (l : List Bool) (k : Nat) (h : k < l.length) : (rowsOf rB l).set k (D.lit (Value.bool true) :: List.drop 1 ((rowsOf rB l).getD k [])) = rowsOf rB (l.set k true) := by
  have h1 : (rowsOf rB l).getD k [] = rB (l.getD k default) := by
    simp only [rowsOf, List.getD_eq_getElem?_getD, List.getElem?_map, List.getElem?_eq_getElem h]; rfl
  rw [h1]
  show (rowsOf rB l).set k (rB true) = _
  rw [rowsOf, rowsOf, List.map_set]
theorem c_rorder (s : Sch) (hs : s.length ≤ 6) (hf : ∀ t ∈ s, t.foreigns.length ≤ 1000) (hall : ∀ t ∈ s, ∀ f ∈ t.foreigns, 0 ≤ byT s f.table) :
    ACall Tryd.prog 39 [aS s] [] (.tup [ints (orderP s), num (orderE s)]) [] := by
  refine ACall.enter mixed ttok Tryd.func39 rfl rfl _ Tryd.ntmps39 (Nat.le_of_ble_eq_true rfl) (by kernel_rfl) _ (congrArg Array.toList Tryd.results39) ?_
  generalize hr : A.tup [ints (orderP s), num (orderE s)] = R
  simp -implicitDefEqProofs only [argT, ↓steps, push_cast, reduceIte, Nat.reduceEqDiff, Nat.reduceAdd, Nat.reduceMul, Nat.reduceLT, Nat.reduceLeDiff, Int.reduceToNat, Int.reduceLE, Int.reduceLT, reduceCtorEq, tte, num, boo, str, ints, aV, aTab, aInst, aS, aT, aC, found, pairA, aFk, vT, rB]
  refine loop_count mixed ttok 4 [1] [1] (by simp only [pickT, ends, ite_true, ite_false, reduceIte, Nat.reduceEqDiff, Nat.reduceLeDiff, Nat.reduceLT, Nat.reduceAdd, reduceCtorEq, num, boo, str, ints, aV, aTab, aInst, aS, aT, aC, found, pairA, aFk, vT, rB]; rfl) (by simp only [pickO, consO_some, ends, ite_true, ite_false, reduceIte, Nat.reduceEqDiff, Nat.reduceLeDiff, Nat.reduceLT, Nat.reduceAdd, reduceCtorEq, num, boo, str, ints, aV, aTab, aInst, aS, aT, aC, found, pairA, aFk, vT, rB]; rfl) s.length (fun _ => True) (fun _ => []) (fun _ => []) trivial ?_ ?_
  · exact Weak.keepL (by simp [cst, ends, ite_true, ite_false, reduceIte, Nat.reduceEqDiff, Nat.reduceLeDiff, Nat.reduceLT, Nat.reduceAdd, reduceCtorEq, num, boo, str, ints, aV, aTab, aInst, aS, aT, aC, found, pairA, aFk, vT, rB]) (by simp [cst, ends, ite_true, ite_false, reduceIte, Nat.reduceEqDiff, Nat.reduceLeDiff, Nat.reduceLT, Nat.reduceAdd, reduceCtorEq, num, boo, str, ints, aV, aTab, aInst, aS, aT, aC, found, pairA, aFk, vT, rB]) (by simp [cst, ends, ite_true, ite_false, reduceIte, Nat.reduceEqDiff, Nat.reduceLeDiff, Nat.reduceLT, Nat.reduceAdd, reduceCtorEq, num, boo, str, ints, aV, aTab, aInst, aS, aT, aC, found, pairA, aFk, vT, rB])
  intro I hI n hn hi
  simp -implicitDefEqProofs only [cst, ↓steps, push_cast, reduceIte, Nat.reduceEqDiff, Nat.reduceAdd, Nat.reduceMul, Nat.reduceLT, Nat.reduceLeDiff, Int.reduceToNat, Int.reduceLE, Int.reduceLT, reduceCtorEq, tte, num, boo, str, ints, aV, aTab, aInst, aS, aT, aC, found, pairA, aFk, vT, rB]
  refine bcase_intro (fun h => ?_) fun h => ?_
  · simp only [decide_eq_true_eq] at h
    have h' : n < s.length := by omega
    have hw := wrap_succ h' (by omega)
    have hlF := hf _ (getD_mem h')
    have hallF := hall _ (getD_mem h')
    refine loop_count mixed ttok 5 [1, 4] [1] (by simp only [pickT, ends, ite_true, ite_false, reduceIte, Nat.reduceEqDiff, Nat.reduceLeDiff, Nat.reduceLT, Nat.reduceAdd, reduceCtorEq, num, boo, str, ints, aV, aTab, aInst, aS, aT, aC, found, pairA, aFk, vT, rB]; rfl) (by simp only [pickO, consO_some, ends, ite_true, ite_false, reduceIte, Nat.reduceEqDiff, Nat.reduceLeDiff, Nat.reduceLT, Nat.reduceAdd, reduceCtorEq, num, boo, str, ints, aV, aTab, aInst, aS, aT, aC, found, pairA, aFk, vT, rB]; rfl) (s.getD n default).foreigns.length (fun _ => True) (fun _ => []) (fun _ => []) trivial ?_ ?_
    · exact Weak.keepL (by simp [cst, ends, ite_true, ite_false, reduceIte, Nat.reduceEqDiff, Nat.reduceLeDiff, Nat.reduceLT, Nat.reduceAdd, reduceCtorEq, num, boo, str, ints, aV, aTab, aInst, aS, aT, aC, found, pairA, aFk, vT, rB]) (by simp [cst, ends, ite_true, ite_false, reduceIte, Nat.reduceEqDiff, Nat.reduceLeDiff, Nat.reduceLT, Nat.reduceAdd, reduceCtorEq, num, boo, str, ints, aV, aTab, aInst, aS, aT, aC, found, pairA, aFk, vT, rB]) (by simp [cst, ends, ite_true, ite_false, reduceIte, Nat.reduceEqDiff, Nat.reduceLeDiff, Nat.reduceLT, Nat.reduceAdd, reduceCtorEq, num, boo, str, ints, aV, aTab, aInst, aS, aT, aC, found, pairA, aFk, vT, rB])
    intro J hJ k hk _
    simp -implicitDefEqProofs only [cst, ↓steps, push_cast, reduceIte, Nat.reduceEqDiff, Nat.reduceAdd, Nat.reduceMul, Nat.reduceLT, Nat.reduceLeDiff, Int.reduceToNat, Int.reduceLE, Int.reduceLT, reduceCtorEq, tte, num, boo, str, ints, aV, aTab, aInst, aS, aT, aC, found, pairA, aFk, vT, rB]
    refine ⟨(by first | omega | trivial | (refine ⟨?_, ?_⟩ <;> first | omega | trivial | (refine ⟨?_, ?_⟩ <;> first | omega | trivial | (refine ⟨?_, ?_⟩ <;> first | omega | trivial | rfl)))), ?_⟩
    refine bcase_intro (fun g => ?_) fun g => ?_
    · simp only [decide_eq_true_eq] at g
      have k' : k < (s.getD n default).foreigns.length := by omega
      have hwk := wrap_succ k' (by omega)
      refine callx_of [[6], [0], [0]] [] rfl (c_target s n k (by omega) h' k') (by first | (simp; done) | (simp [rowsOf_length]; done) | (simp [rowsOf_length]; omega)) (by first | (simp only [ends, ite_true, ite_false, reduceIte, Nat.reduceEqDiff, Nat.reduceLeDiff, Nat.reduceLT, Nat.reduceAdd, reduceCtorEq, num, boo, str, ints, aV, aTab, aInst, aS, aT, aC, found, pairA, aFk, vT, rB, num, boo, str, aE_eq, aV]; done) | simp [ends, ite_true, ite_false, reduceIte, Nat.reduceEqDiff, Nat.reduceLeDiff, Nat.reduceLT, Nat.reduceAdd, reduceCtorEq, num, boo, str, ints, aV, aTab, aInst, aS, aT, aC, found, pairA, aFk, vT, rB, num, boo, str, aE_eq, aV]) (by first | rfl | (simp only [ends, ite_true, ite_false, reduceIte, Nat.reduceEqDiff, Nat.reduceLeDiff, Nat.reduceLT, Nat.reduceAdd, reduceCtorEq, num, boo, str, ints, aV, aTab, aInst, aS, aT, aC, found, pairA, aFk, vT, rB, num, boo, str, aE_eq, aV]; done) | simp [ends, ite_true, ite_false, reduceIte, Nat.reduceEqDiff, Nat.reduceLeDiff, Nat.reduceLT, Nat.reduceAdd, reduceCtorEq, num, boo, str, ints, aV, aTab, aInst, aS, aT, aC, found, pairA, aFk, vT, rB, num, boo, str, aE_eq, aV]) (by simp only [ends, ite_true, ite_false, reduceIte, Nat.reduceEqDiff, Nat.reduceLeDiff, Nat.reduceLT, Nat.reduceAdd, reduceCtorEq, num, boo, str, ints, aV, aTab, aInst, aS, aT, aC, found, pairA, aFk, vT, rB]) (by simp [idsOk, lookO, updO, ren1]) ?_
      simp -implicitDefEqProofs only [↓steps, push_cast, reduceIte, Nat.reduceEqDiff, Nat.reduceAdd, Nat.reduceMul, Nat.reduceLT, Nat.reduceLeDiff, Int.reduceToNat, Int.reduceLE, Int.reduceLT, reduceCtorEq, tte, num, boo, str, ints, aV, aTab, aInst, aS, aT, aC, found, pairA, aFk, vT, rB]
      have hge := hallF _ (getD_mem k')
      refine bcase_intro (fun h => absurd h (by rw [decide_eq_true hge]; decide)) fun _ => ?_
      exact cnt_again hJ k rfl k' trivial (by simp only [hwk, ends, ite_true, ite_false, reduceIte, Nat.reduceEqDiff, Nat.reduceLeDiff, Nat.reduceLT, Nat.reduceAdd, reduceCtorEq, num, boo, str, ints, aV, aTab, aInst, aS, aT, aC, found, pairA, aFk, vT, rB]) (by simp [hwk, ends, ite_true, ite_false, reduceIte, Nat.reduceEqDiff, Nat.reduceLeDiff, Nat.reduceLT, Nat.reduceAdd, reduceCtorEq, num, boo, str, ints, aV, aTab, aInst, aS, aT, aC, found, pairA, aFk, vT, rB]) (by simp [hwk, ends, ite_true, ite_false, reduceIte, Nat.reduceEqDiff, Nat.reduceLeDiff, Nat.reduceLT, Nat.reduceAdd, reduceCtorEq, num, boo, str, ints, aV, aTab, aInst, aS, aT, aC, found, pairA, aFk, vT, rB]) (by simp [hwk, ends, ite_true, ite_false, reduceIte, Nat.reduceEqDiff, Nat.reduceLeDiff, Nat.reduceLT, Nat.reduceAdd, reduceCtorEq, num, boo, str, ints, aV, aTab, aInst, aS, aT, aC, found, pairA, aFk, vT, rB])
    · exact cnt_again hI n rfl h' trivial (by simp only [hw, ends, ite_true, ite_false, reduceIte, Nat.reduceEqDiff, Nat.reduceLeDiff, Nat.reduceLT, Nat.reduceAdd, reduceCtorEq, num, boo, str, ints, aV, aTab, aInst, aS, aT, aC, found, pairA, aFk, vT, rB]) (by simp [hw, ends, ite_true, ite_false, reduceIte, Nat.reduceEqDiff, Nat.reduceLeDiff, Nat.reduceLT, Nat.reduceAdd, reduceCtorEq, num, boo, str, ints, aV, aTab, aInst, aS, aT, aC, found, pairA, aFk, vT, rB]) (by simp [hw, ends, ite_true, ite_false, reduceIte, Nat.reduceEqDiff, Nat.reduceLeDiff, Nat.reduceLT, Nat.reduceAdd, reduceCtorEq, num, boo, str, ints, aV, aTab, aInst, aS, aT, aC, found, pairA, aFk, vT, rB]) (by simp [hw, ends, ite_true, ite_false, reduceIte, Nat.reduceEqDiff, Nat.reduceLeDiff, Nat.reduceLT, Nat.reduceAdd, reduceCtorEq, num, boo, str, ints, aV, aTab, aInst, aS, aT, aC, found, pairA, aFk, vT, rB])
  clear hI hi hn I
  clear h
  refine ⟨⟨by omega, by omega, by omega⟩, ?_⟩
  have hrep : List.replicate s.length [D.lit (Value.bool false)] = rowsOf rB (doneL s []) := by rw [doneL_nil, rowsOf, List.map_replicate]; rfl
  rw [hrep]
  refine loop_count0 mixed ttok [1, 8] (by simp only [pickT, ends, ite_true, ite_false, reduceIte, Nat.reduceEqDiff, Nat.reduceLeDiff, Nat.reduceLT, Nat.reduceAdd, reduceCtorEq, num, boo, str, ints, aV, aTab, aInst, aS, aT, aC, found, pairA, aFk, vT, rB]; rfl) s.length (fun n => ∀ i, i < n → 0 ≤ pickM s (picks s i)) (fun n => [(9, .vec 500 n)])
    (fun n => [(46, .vec 4 1 (rowsOf rB (doneL s (picks s n))) 0), (500, .vec 3 1 (rowsOf rI (picks s n)) 0), (1, .var [.d (.sl 6 (rowsOf rT s))])]) (fun i h => absurd h (Nat.not_lt_zero _)) ?_ ?_
  · exact (Weak.nilL 9 500 3 1 rfl rfl).trans (Weak.keepL (by simp [cst0, ends, ite_true, ite_false, reduceIte, Nat.reduceEqDiff, Nat.reduceLeDiff, Nat.reduceLT, Nat.reduceAdd, reduceCtorEq, num, boo, str, ints, aV, aTab, aInst, aS, aT, aC, found, pairA, aFk, vT, rB]) (by simp [cst0, picks, ends, ite_true, ite_false, reduceIte, Nat.reduceEqDiff, Nat.reduceLeDiff, Nat.reduceLT, Nat.reduceAdd, reduceCtorEq, num, boo, str, ints, aV, aTab, aInst, aS, aT, aC, found, pairA, aFk, vT, rB]) (by simp [cst0, ends, ite_true, ite_false, reduceIte, Nat.reduceEqDiff, Nat.reduceLeDiff, Nat.reduceLT, Nat.reduceAdd, reduceCtorEq, num, boo, str, ints, aV, aTab, aInst, aS, aT, aC, found, pairA, aFk, vT, rB]))
  intro I hI n hn hi
  have hpl := picks_length s n
  generalize hp : picks s n = p at hpl
  have hdl := doneL_length s p
  simp -implicitDefEqProofs only [cst0, hp, ↓steps, push_cast, reduceIte, Nat.reduceEqDiff, Nat.reduceAdd, Nat.reduceMul, Nat.reduceLT, Nat.reduceLeDiff, Int.reduceToNat, Int.reduceLE, Int.reduceLT, reduceCtorEq, tte, num, boo, str, ints, aV, aTab, aInst, aS, aT, aC, found, pairA, aFk, vT, rB]
  refine ⟨hpl.symm, ?_⟩
  refine bcase_intro (fun h => ?_) fun h => ?_
  · simp only [decide_eq_true_eq] at h
    have h' : n < s.length := by omega
    refine loop_count mixed ttok 11 [1, 8, 9] [46, 500, 1] (by simp only [pickT, ends, ite_true, ite_false, reduceIte, Nat.reduceEqDiff, Nat.reduceLeDiff, Nat.reduceLT, Nat.reduceAdd, reduceCtorEq, num, boo, str, ints, aV, aTab, aInst, aS, aT, aC, found, pairA, aFk, vT, rB]; rfl) (by simp only [pickO, consO_some, ends, ite_true, ite_false, reduceIte, Nat.reduceEqDiff, Nat.reduceLeDiff, Nat.reduceLT, Nat.reduceAdd, reduceCtorEq, num, boo, str, ints, aV, aTab, aInst, aS, aT, aC, found, pairA, aFk, vT, rB]; rfl) s.length (fun j => ∀ i, i + 1 < j → freeAt s p i = false)
      (fun j => [(10, .d (.lit (.int .i64 (vv s p j))))]) (fun _ => []) (fun i h => absurd h (by omega)) ?_ ?_
    · exact Weak.keepL (by simp [cst, vv, ends, ite_true, ite_false, reduceIte, Nat.reduceEqDiff, Nat.reduceLeDiff, Nat.reduceLT, Nat.reduceAdd, reduceCtorEq, num, boo, str, ints, aV, aTab, aInst, aS, aT, aC, found, pairA, aFk, vT, rB]) (by simp [cst, ends, ite_true, ite_false, reduceIte, Nat.reduceEqDiff, Nat.reduceLeDiff, Nat.reduceLT, Nat.reduceAdd, reduceCtorEq, num, boo, str, ints, aV, aTab, aInst, aS, aT, aC, found, pairA, aFk, vT, rB]) (by simp [cst, ends, ite_true, ite_false, reduceIte, Nat.reduceEqDiff, Nat.reduceLeDiff, Nat.reduceLT, Nat.reduceAdd, reduceCtorEq, num, boo, str, ints, aV, aTab, aInst, aS, aT, aC, found, pairA, aFk, vT, rB])
    intro J hJ j hj hji
    simp -implicitDefEqProofs only [cst, ↓steps, push_cast, reduceIte, Nat.reduceEqDiff, Nat.reduceAdd, Nat.reduceMul, Nat.reduceLT, Nat.reduceLeDiff, Int.reduceToNat, Int.reduceLE, Int.reduceLT, reduceCtorEq, tte, num, boo, str, ints, aV, aTab, aInst, aS, aT, aC, found, pairA, aFk, vT, rB]
    have hFe : (s.getD j default).foreigns = fks s j := rfl
    refine bcase_intro (fun q1 => ?_) fun q1 => ?_
    · simp only [decide_eq_true_eq] at q1
      have j' : j < s.length := by omega
      have hwj := wrap_succ j' (by omega)
      refine bcase_intro (fun q2 => ?_) fun q2 => ?_
      · have q2' : vv s p j < 0 := of_decide_eq_true q2
        have hji2 : ∀ i, i + 1 < j + 1 → freeAt s p i = false := fun i h2 => by
          by_cases h3 : i + 1 = j
          · subst h3
            simp only [vv] at q2'
            split at q2'
            · omega
            · rename_i hh; simpa using hh
          · exact hji i (by omega)
        refine ⟨⟨by omega, hdl.symm⟩, by omega, hdl.symm, ?_⟩
        have hlF := hf _ (getD_mem j')
        have hallF := hall _ (getD_mem j')
        have hd0 := doneL_get s p j j'
        rw [hd0, ← frK_zero s p j]
        rw [hFe] at hlF hallF
        refine loop_count mixed ttok 13 [1, 8, 9, 10, 11] [46, 500, 1] (by simp only [pickT, ends, ite_true, ite_false, reduceIte, Nat.reduceEqDiff, Nat.reduceLeDiff, Nat.reduceLT, Nat.reduceAdd, reduceCtorEq, num, boo, str, ints, aV, aTab, aInst, aS, aT, aC, found, pairA, aFk, vT, rB]; rfl) (by simp only [pickO, consO_some, ends, ite_true, ite_false, reduceIte, Nat.reduceEqDiff, Nat.reduceLeDiff, Nat.reduceLT, Nat.reduceAdd, reduceCtorEq, num, boo, str, ints, aV, aTab, aInst, aS, aT, aC, found, pairA, aFk, vT, rB]; rfl) (fks s j).length (fun _ => True) (fun k => [(12, .d (.lit (.bool (frK s p j k))))]) (fun _ => []) trivial ?_ ?_
        · exact Weak.keepL (by simp [cst, ends, ite_true, ite_false, reduceIte, Nat.reduceEqDiff, Nat.reduceLeDiff, Nat.reduceLT, Nat.reduceAdd, reduceCtorEq, num, boo, str, ints, aV, aTab, aInst, aS, aT, aC, found, pairA, aFk, vT, rB]) (by simp [cst, ends, ite_true, ite_false, reduceIte, Nat.reduceEqDiff, Nat.reduceLeDiff, Nat.reduceLT, Nat.reduceAdd, reduceCtorEq, num, boo, str, ints, aV, aTab, aInst, aS, aT, aC, found, pairA, aFk, vT, rB]) (by simp [cst, ends, ite_true, ite_false, reduceIte, Nat.reduceEqDiff, Nat.reduceLeDiff, Nat.reduceLT, Nat.reduceAdd, reduceCtorEq, num, boo, str, ints, aV, aTab, aInst, aS, aT, aC, found, pairA, aFk, vT, rB])
        intro Q hQ k hk _
        simp -implicitDefEqProofs only [cst, hFe, ↓steps, push_cast, reduceIte, Nat.reduceEqDiff, Nat.reduceAdd, Nat.reduceMul, Nat.reduceLT, Nat.reduceLeDiff, Int.reduceToNat, Int.reduceLE, Int.reduceLT, reduceCtorEq, tte, num, boo, str, ints, aV, aTab, aInst, aS, aT, aC, found, pairA, aFk, vT, rB]
        refine ⟨(by first | omega | trivial | (refine ⟨?_, ?_⟩ <;> first | omega | trivial | (refine ⟨?_, ?_⟩ <;> first | omega | trivial | (refine ⟨?_, ?_⟩ <;> first | omega | trivial | rfl)))), ?_⟩
        refine bcase_intro (fun g => ?_) fun g => ?_
        · simp only [decide_eq_true_eq] at g
          have k' : k < (fks s j).length := by omega
          have hwk := wrap_succ k' (by omega)
          have hge := hallF _ (getD_mem k')
          have hlt : byT s ((fks s j).getD k default).table < s.length := fidx_lt _ _
          refine callx_of [[6], [0], [0]] [] rfl (c_target s j k (by omega) j' k') (by first | (simp; done) | (simp [rowsOf_length]; done) | (simp [rowsOf_length]; omega)) (by first | (simp only [ends, ite_true, ite_false, reduceIte, Nat.reduceEqDiff, Nat.reduceLeDiff, Nat.reduceLT, Nat.reduceAdd, reduceCtorEq, num, boo, str, ints, aV, aTab, aInst, aS, aT, aC, found, pairA, aFk, vT, rB, num, boo, str, aE_eq, aV]; done) | simp [ends, ite_true, ite_false, reduceIte, Nat.reduceEqDiff, Nat.reduceLeDiff, Nat.reduceLT, Nat.reduceAdd, reduceCtorEq, num, boo, str, ints, aV, aTab, aInst, aS, aT, aC, found, pairA, aFk, vT, rB, num, boo, str, aE_eq, aV]) (by first | rfl | (simp only [ends, ite_true, ite_false, reduceIte, Nat.reduceEqDiff, Nat.reduceLeDiff, Nat.reduceLT, Nat.reduceAdd, reduceCtorEq, num, boo, str, ints, aV, aTab, aInst, aS, aT, aC, found, pairA, aFk, vT, rB, num, boo, str, aE_eq, aV]; done) | simp [ends, ite_true, ite_false, reduceIte, Nat.reduceEqDiff, Nat.reduceLeDiff, Nat.reduceLT, Nat.reduceAdd, reduceCtorEq, num, boo, str, ints, aV, aTab, aInst, aS, aT, aC, found, pairA, aFk, vT, rB, num, boo, str, aE_eq, aV]) (by simp only [ends, ite_true, ite_false, reduceIte, Nat.reduceEqDiff, Nat.reduceLeDiff, Nat.reduceLT, Nat.reduceAdd, reduceCtorEq, num, boo, str, ints, aV, aTab, aInst, aS, aT, aC, found, pairA, aFk, vT, rB]) (by simp [idsOk, lookO, updO, ren1]) ?_
          simp -implicitDefEqProofs only [hFe, ↓steps, push_cast, reduceIte, Nat.reduceEqDiff, Nat.reduceAdd, Nat.reduceMul, Nat.reduceLT, Nat.reduceLeDiff, Int.reduceToNat, Int.reduceLE, Int.reduceLT, reduceCtorEq, tte, num, boo, str, ints, aV, aTab, aInst, aS, aT, aC, found, pairA, aFk, vT, rB]
          have hd1 := doneL_get s p (byT s ((fks s j).getD k default).table).toNat (by omega)
          rw [Int.toNat_of_nonneg hge] at hd1
          simp only [if_neg (show ¬ 0 > byT s ((fks s j).getD k default).table by omega)]
          have hsk := frK_succ s p j k k'
          refine bcase_intro (fun f1 => ?_) fun f1 => ?_
          · refine ⟨⟨⟨hge, hlt⟩, hdl.symm⟩, by omega, hdl.symm, ?_⟩
            rw [hd1]
            exact cnt_again hQ k rfl k' trivial (by simp only [hwk, hsk, f1, ends, ite_true, ite_false, reduceIte, Nat.reduceEqDiff, Nat.reduceLeDiff, Nat.reduceLT, Nat.reduceAdd, reduceCtorEq, num, boo, str, ints, aV, aTab, aInst, aS, aT, aC, found, pairA, aFk, vT, rB]) (by simp [hwk, hsk, f1, ends, ite_true, ite_false, reduceIte, Nat.reduceEqDiff, Nat.reduceLeDiff, Nat.reduceLT, Nat.reduceAdd, reduceCtorEq, num, boo, str, ints, aV, aTab, aInst, aS, aT, aC, found, pairA, aFk, vT, rB]) (by simp [hwk, hsk, f1, ends, ite_true, ite_false, reduceIte, Nat.reduceEqDiff, Nat.reduceLeDiff, Nat.reduceLT, Nat.reduceAdd, reduceCtorEq, num, boo, str, ints, aV, aTab, aInst, aS, aT, aC, found, pairA, aFk, vT, rB]) (by simp [hwk, hsk, f1, ends, ite_true, ite_false, reduceIte, Nat.reduceEqDiff, Nat.reduceLeDiff, Nat.reduceLT, Nat.reduceAdd, reduceCtorEq, num, boo, str, ints, aV, aTab, aInst, aS, aT, aC, found, pairA, aFk, vT, rB])
          · exact cnt_again hQ k rfl k' trivial (by simp only [hwk, hsk, f1, ends, ite_true, ite_false, reduceIte, Nat.reduceEqDiff, Nat.reduceLeDiff, Nat.reduceLT, Nat.reduceAdd, reduceCtorEq, num, boo, str, ints, aV, aTab, aInst, aS, aT, aC, found, pairA, aFk, vT, rB]) (by simp [hwk, hsk, f1, ends, ite_true, ite_false, reduceIte, Nat.reduceEqDiff, Nat.reduceLeDiff, Nat.reduceLT, Nat.reduceAdd, reduceCtorEq, num, boo, str, ints, aV, aTab, aInst, aS, aT, aC, found, pairA, aFk, vT, rB]) (by simp [hwk, hsk, f1, ends, ite_true, ite_false, reduceIte, Nat.reduceEqDiff, Nat.reduceLeDiff, Nat.reduceLT, Nat.reduceAdd, reduceCtorEq, num, boo, str, ints, aV, aTab, aInst, aS, aT, aC, found, pairA, aFk, vT, rB]) (by simp [hwk, hsk, f1, ends, ite_true, ite_false, reduceIte, Nat.reduceEqDiff, Nat.reduceLeDiff, Nat.reduceLT, Nat.reduceAdd, reduceCtorEq, num, boo, str, ints, aV, aTab, aInst, aS, aT, aC, found, pairA, aFk, vT, rB])
        · simp only [decide_eq_false_iff_not] at g
          obtain rfl : k = (fks s j).length := by omega
          rw [frK_all]
          refine bcase_intro (fun f1 => ?_) fun f1 => ?_
          · have hvs : vv s p (j + 1) = j := if_pos f1
            exact cnt_again hJ j rfl j' hji2 (by simp only [hwj, hvs, ends, ite_true, ite_false, reduceIte, Nat.reduceEqDiff, Nat.reduceLeDiff, Nat.reduceLT, Nat.reduceAdd, reduceCtorEq, num, boo, str, ints, aV, aTab, aInst, aS, aT, aC, found, pairA, aFk, vT, rB]) (by simp [hwj, hvs, ends, ite_true, ite_false, reduceIte, Nat.reduceEqDiff, Nat.reduceLeDiff, Nat.reduceLT, Nat.reduceAdd, reduceCtorEq, num, boo, str, ints, aV, aTab, aInst, aS, aT, aC, found, pairA, aFk, vT, rB]) (by simp [hwj, hvs, ends, ite_true, ite_false, reduceIte, Nat.reduceEqDiff, Nat.reduceLeDiff, Nat.reduceLT, Nat.reduceAdd, reduceCtorEq, num, boo, str, ints, aV, aTab, aInst, aS, aT, aC, found, pairA, aFk, vT, rB]) (by simp [hwj, hvs, ends, ite_true, ite_false, reduceIte, Nat.reduceEqDiff, Nat.reduceLeDiff, Nat.reduceLT, Nat.reduceAdd, reduceCtorEq, num, boo, str, ints, aV, aTab, aInst, aS, aT, aC, found, pairA, aFk, vT, rB])
          · have hvs : vv s p (j + 1) = vv s p j := by
              have h1 : vv s p (j + 1) = -1 := by simp only [vv, f1]; rfl
              rw [h1]
              cases j with
              | zero => rfl
              | succ i => simp only [vv] at q2' ⊢; split at q2' <;> first | omega | (rename_i hh; rw [if_neg hh])
            exact cnt_again hJ j rfl j' hji2 (by simp only [hwj, hvs, ends, ite_true, ite_false, reduceIte, Nat.reduceEqDiff, Nat.reduceLeDiff, Nat.reduceLT, Nat.reduceAdd, reduceCtorEq, num, boo, str, ints, aV, aTab, aInst, aS, aT, aC, found, pairA, aFk, vT, rB]) (by simp [hwj, hvs, ends, ite_true, ite_false, reduceIte, Nat.reduceEqDiff, Nat.reduceLeDiff, Nat.reduceLT, Nat.reduceAdd, reduceCtorEq, num, boo, str, ints, aV, aTab, aInst, aS, aT, aC, found, pairA, aFk, vT, rB]) (by simp [hwj, hvs, ends, ite_true, ite_false, reduceIte, Nat.reduceEqDiff, Nat.reduceLeDiff, Nat.reduceLT, Nat.reduceAdd, reduceCtorEq, num, boo, str, ints, aV, aTab, aInst, aS, aT, aC, found, pairA, aFk, vT, rB]) (by simp [hwj, hvs, ends, ite_true, ite_false, reduceIte, Nat.reduceEqDiff, Nat.reduceLeDiff, Nat.reduceLT, Nat.reduceAdd, reduceCtorEq, num, boo, str, ints, aV, aTab, aInst, aS, aT, aC, found, pairA, aFk, vT, rB])
      · have hv := vv_pick hj hji (.inr (of_decide_eq_false q2))
        have hE : pickM s p < 0 → A.tup [ints [], num 7] = R := fun hneg => by
          have hno : orderOk s = false := bad_range h' (by rw [hp]; exact decide_eq_false (by omega))
          rw [← hr, orderP, orderE, hno]; rfl
        rw [hv]
        refine bcase_intro (fun hneg => ?_) fun hneg => ?_
        · have hR := hE (of_decide_eq_true hneg)
          subst hR
          refine retx_tup [[1], [0]] rfl (by simp) (by first | (simp; done) | (simp [rowsOf_length]; done) | (simp [rowsOf_length]; omega)) ?_ (by first | rfl | simp only [ends, ite_true, ite_false, reduceIte, Nat.reduceEqDiff, Nat.reduceLeDiff, Nat.reduceLT, Nat.reduceAdd, reduceCtorEq, num, boo, str, ints, aV, aTab, aInst, aS, aT, aC, found, pairA, aFk, vT, rB] | (subst_vars; simp only [ends, ite_true, ite_false, reduceIte, Nat.reduceEqDiff, Nat.reduceLeDiff, Nat.reduceLT, Nat.reduceAdd, reduceCtorEq, num, boo, str, ints, aV, aTab, aInst, aS, aT, aC, found, pairA, aFk, vT, rB])) (by simp only [ends, ite_true, ite_false, reduceIte, Nat.reduceEqDiff, Nat.reduceLeDiff, Nat.reduceLT, Nat.reduceAdd, reduceCtorEq, num, boo, str, ints, aV, aTab, aInst, aS, aT, aC, found, pairA, aFk, vT, rB]) (by simp only [ends, ite_true, ite_false, reduceIte, Nat.reduceEqDiff, Nat.reduceLeDiff, Nat.reduceLT, Nat.reduceAdd, reduceCtorEq, num, boo, str, ints, aV, aTab, aInst, aS, aT, aC, found, pairA, aFk, vT, rB])
          rfl
        have hge : 0 ≤ pickM s p := by have := of_decide_eq_false hneg; omega
        have hlt : pickM s p < s.length := by have := fidx_lt (freeAt s p) (List.range s.length); rw [List.length_range] at this; exact this
        have hinv : ∀ i, i < n + 1 → 0 ≤ pickM s (picks s i) := fun i h2 => if h3 : i = n then by rw [h3, hp]; exact hge else hi i (by omega)
        have hpk : picks s (n + 1) = p ++ [pickM s p] := by rw [picks, hp]
        have hds := doneL_set s p (pickM s p) hge hlt
        refine ⟨⟨⟨hge, hlt⟩, hdl.symm⟩, ⟨hdl.symm, by omega, by omega⟩, ⟨hpl.symm, by omega⟩, ?_⟩
        rw [setB_rows _ _ (by omega), hds, ← hpk]
        exact cnt_again0 hI n rfl h' hinv (Weak.keepL (by simp [cst0, hpl, ends, ite_true, ite_false, reduceIte, Nat.reduceEqDiff, Nat.reduceLeDiff, Nat.reduceLT, Nat.reduceAdd, reduceCtorEq, num, boo, str, ints, aV, aTab, aInst, aS, aT, aC, found, pairA, aFk, vT, rB]) (by simp [cst0, ends, ite_true, ite_false, reduceIte, Nat.reduceEqDiff, Nat.reduceLeDiff, Nat.reduceLT, Nat.reduceAdd, reduceCtorEq, num, boo, str, ints, aV, aTab, aInst, aS, aT, aC, found, pairA, aFk, vT, rB]) (by simp [cst0, ends, ite_true, ite_false, reduceIte, Nat.reduceEqDiff, Nat.reduceLeDiff, Nat.reduceLT, Nat.reduceAdd, reduceCtorEq, num, boo, str, ints, aV, aTab, aInst, aS, aT, aC, found, pairA, aFk, vT, rB]))
    · have hv := vv_pick hj hji (.inl (by have := of_decide_eq_false q1; omega))
      have hE : pickM s p < 0 → A.tup [ints [], num 7] = R := fun hneg => by
        have hno : orderOk s = false := bad_range h' (by rw [hp]; exact decide_eq_false (by omega))
        rw [← hr, orderP, orderE, hno]; rfl
      rw [hv]
      refine bcase_intro (fun hneg => ?_) fun hneg => ?_
      · have hR := hE (of_decide_eq_true hneg)
        subst hR
        refine retx_tup [[1], [0]] rfl (by simp) (by first | (simp; done) | (simp [rowsOf_length]; done) | (simp [rowsOf_length]; omega)) ?_ (by first | rfl | simp only [ends, ite_true, ite_false, reduceIte, Nat.reduceEqDiff, Nat.reduceLeDiff, Nat.reduceLT, Nat.reduceAdd, reduceCtorEq, num, boo, str, ints, aV, aTab, aInst, aS, aT, aC, found, pairA, aFk, vT, rB] | (subst_vars; simp only [ends, ite_true, ite_false, reduceIte, Nat.reduceEqDiff, Nat.reduceLeDiff, Nat.reduceLT, Nat.reduceAdd, reduceCtorEq, num, boo, str, ints, aV, aTab, aInst, aS, aT, aC, found, pairA, aFk, vT, rB])) (by simp only [ends, ite_true, ite_false, reduceIte, Nat.reduceEqDiff, Nat.reduceLeDiff, Nat.reduceLT, Nat.reduceAdd, reduceCtorEq, num, boo, str, ints, aV, aTab, aInst, aS, aT, aC, found, pairA, aFk, vT, rB]) (by simp only [ends, ite_true, ite_false, reduceIte, Nat.reduceEqDiff, Nat.reduceLeDiff, Nat.reduceLT, Nat.reduceAdd, reduceCtorEq, num, boo, str, ints, aV, aTab, aInst, aS, aT, aC, found, pairA, aFk, vT, rB])
        rfl
      have hge : 0 ≤ pickM s p := by have := of_decide_eq_false hneg; omega
      have hlt : pickM s p < s.length := by have := fidx_lt (freeAt s p) (List.range s.length); rw [List.length_range] at this; exact this
      have hinv : ∀ i, i < n + 1 → 0 ≤ pickM s (picks s i) := fun i h2 => if h3 : i = n then by rw [h3, hp]; exact hge else hi i (by omega)
      have hpk : picks s (n + 1) = p ++ [pickM s p] := by rw [picks, hp]
      have hds := doneL_set s p (pickM s p) hge hlt
      refine ⟨⟨⟨hge, hlt⟩, hdl.symm⟩, ⟨hdl.symm, by omega, by omega⟩, ⟨hpl.symm, by omega⟩, ?_⟩
      rw [setB_rows _ _ (by omega), hds, ← hpk]
      exact cnt_again0 hI n rfl h' hinv (Weak.keepL (by simp [cst0, hpl, ends, ite_true, ite_false, reduceIte, Nat.reduceEqDiff, Nat.reduceLeDiff, Nat.reduceLT, Nat.reduceAdd, reduceCtorEq, num, boo, str, ints, aV, aTab, aInst, aS, aT, aC, found, pairA, aFk, vT, rB]) (by simp [cst0, ends, ite_true, ite_false, reduceIte, Nat.reduceEqDiff, Nat.reduceLeDiff, Nat.reduceLT, Nat.reduceAdd, reduceCtorEq, num, boo, str, ints, aV, aTab, aInst, aS, aT, aC, found, pairA, aFk, vT, rB]) (by simp [cst0, ends, ite_true, ite_false, reduceIte, Nat.reduceEqDiff, Nat.reduceLeDiff, Nat.reduceLT, Nat.reduceAdd, reduceCtorEq, num, boo, str, ints, aV, aTab, aInst, aS, aT, aC, found, pairA, aFk, vT, rB]))
  · simp only [decide_eq_false_iff_not] at h
    obtain rfl : n = s.length := by omega
    have hok : orderOk s = true := all_range.2 fun i hi2 => decide_eq_true (hi i hi2)
    have hR : A.tup [ints p, num 0] = R := by rw [← hr, orderP, orderE, hok, ← hp]; rfl
    subst hR
    refine retx_tup [[1], [0]] rfl (by simp) (by first | (simp; done) | (simp [rowsOf_length]; done) | (simp [rowsOf_length]; omega)) ?_ (by first | rfl | simp only [ends, ite_true, ite_false, reduceIte, Nat.reduceEqDiff, Nat.reduceLeDiff, Nat.reduceLT, Nat.reduceAdd, reduceCtorEq, num, boo, str, ints, aV, aTab, aInst, aS, aT, aC, found, pairA, aFk, vT, rB] | (subst_vars; simp only [ends, ite_true, ite_false, reduceIte, Nat.reduceEqDiff, Nat.reduceLeDiff, Nat.reduceLT, Nat.reduceAdd, reduceCtorEq, num, boo, str, ints, aV, aTab, aInst, aS, aT, aC, found, pairA, aFk, vT, rB])) (by simp only [ends, ite_true, ite_false, reduceIte, Nat.reduceEqDiff, Nat.reduceLeDiff, Nat.reduceLT, Nat.reduceAdd, reduceCtorEq, num, boo, str, ints, aV, aTab, aInst, aS, aT, aC, found, pairA, aFk, vT, rB]) (by simp only [ends, ite_true, ite_false, reduceIte, Nat.reduceEqDiff, Nat.reduceLeDiff, Nat.reduceLT, Nat.reduceAdd, reduceCtorEq, num, boo, str, ints, aV, aTab, aInst, aS, aT, aC, found, pairA, aFk, vT, rB])
    rfl
end Go.Proofs.YtkccdfaelbepeaaDoor

namespace Go.Proofs.YtkccdfaelbepeaaDoor
open Go.Am
set_option linter.unusedVariables false
set_option maxRecDepth 100000
set_option maxHeartbeats 4000000

theorem c_rsvalid (s : Sch) (hs : SmallS s) : ACall Tryd.prog 15 [aS s] [] (num (validS s)) [] := by
  refine ACall.enter mixed ttok Tryd.func15 rfl rfl _ Tryd.ntmps15 (Nat.le_of_ble_eq_true rfl) (by kernel_rfl) _ (congrArg Array.toList Tryd.results15) ?_
  generalize hr : num (validS s) = R
  have hl := hs.len
  simp -implicitDefEqProofs only [argT, ↓steps, push_cast, reduceIte, Nat.reduceEqDiff, Nat.reduceAdd, Nat.reduceMul, Nat.reduceLT, Nat.reduceLeDiff, Int.reduceToNat, Int.reduceLE, Int.reduceLT, reduceCtorEq, tte, num, boo, str, ints, aV, aTab, aInst, aS, aT, aC, found, pairA, aFk, vT]
  refine bcase_intro (fun h0 => ?_) fun h0 => ?_
  · exact ret_d trivial (by rw [← hr, validS, if_pos (of_decide_eq_true h0)]; rfl) (by simp only [ends, ite_true, ite_false, reduceIte, Nat.reduceEqDiff, Nat.reduceLeDiff, Nat.reduceLT, Nat.reduceAdd, reduceCtorEq, num, boo, str, ints, aV, aTab, aInst, aS, aT, aC, found, pairA, aFk, vT])
  have h0' : ¬ (s.length : Int) > 6 := of_decide_eq_false h0
  have hM : validS s = if ferrN (tabErr s) s.length ≠ 0 then ferrN (tabErr s) s.length
      else if ferr (refErr s) s ≠ 0 then ferr (refErr s) s else orderE s := by rw [validS, if_neg h0']
  refine loop_count mixed ttok 3 [1] [1] (by simp only [pickT, ends, ite_true, ite_false, reduceIte, Nat.reduceEqDiff, Nat.reduceLeDiff, Nat.reduceLT, Nat.reduceAdd, reduceCtorEq, num, boo, str, ints, aV, aTab, aInst, aS, aT, aC, found, pairA, aFk, vT]; rfl) (by simp only [pickO, consO_some, ends, ite_true, ite_false, reduceIte, Nat.reduceEqDiff, Nat.reduceLeDiff, Nat.reduceLT, Nat.reduceAdd, reduceCtorEq, num, boo, str, ints, aV, aTab, aInst, aS, aT, aC, found, pairA, aFk, vT]; rfl) s.length (fun n => ∀ i, i < n → tabErr s i = 0) (fun _ => []) (fun _ => []) (fun i h => absurd h (Nat.not_lt_zero _)) ?_ ?_
  · exact Weak.keepL (by simp [cst, ends, ite_true, ite_false, reduceIte, Nat.reduceEqDiff, Nat.reduceLeDiff, Nat.reduceLT, Nat.reduceAdd, reduceCtorEq, num, boo, str, ints, aV, aTab, aInst, aS, aT, aC, found, pairA, aFk, vT]) (by simp [cst, ends, ite_true, ite_false, reduceIte, Nat.reduceEqDiff, Nat.reduceLeDiff, Nat.reduceLT, Nat.reduceAdd, reduceCtorEq, num, boo, str, ints, aV, aTab, aInst, aS, aT, aC, found, pairA, aFk, vT]) (by simp [cst, ends, ite_true, ite_false, reduceIte, Nat.reduceEqDiff, Nat.reduceLeDiff, Nat.reduceLT, Nat.reduceAdd, reduceCtorEq, num, boo, str, ints, aV, aTab, aInst, aS, aT, aC, found, pairA, aFk, vT])
  intro I hI n hn hi
  simp -implicitDefEqProofs only [cst, ↓steps, push_cast, reduceIte, Nat.reduceEqDiff, Nat.reduceAdd, Nat.reduceMul, Nat.reduceLT, Nat.reduceLeDiff, Int.reduceToNat, Int.reduceLE, Int.reduceLT, reduceCtorEq, tte, num, boo, str, ints, aV, aTab, aInst, aS, aT, aC, found, pairA, aFk, vT]
  refine bcase_intro (fun h => ?_) fun h => ?_
  · simp only [decide_eq_true_eq] at h
    have h' : n < s.length := by omega
    have hw := wrap_succ h' (by omega)
    have hE : tabErr s n ≠ 0 → num (tabErr s n) = R := fun hne => by
      have := ferrN_at h' hi hne
      rw [← hr, hM, this, if_pos hne]
    have hg : s.getD n default ∈ s := getD_mem h'
    refine ⟨(by first | omega | trivial | (refine ⟨?_, ?_⟩ <;> first | omega | trivial | (refine ⟨?_, ?_⟩ <;> first | omega | trivial | (refine ⟨?_, ?_⟩ <;> first | omega | trivial | rfl)))), ?_⟩
    refine callx_of [[0]] [] rfl (c_rname2 (s.getD n default).name) (by first | (simp; done) | (simp [rowsOf_length]; done) | (simp [rowsOf_length]; omega)) (by first | (simp only [ends, ite_true, ite_false, reduceIte, Nat.reduceEqDiff, Nat.reduceLeDiff, Nat.reduceLT, Nat.reduceAdd, reduceCtorEq, num, boo, str, ints, aV, aTab, aInst, aS, aT, aC, found, pairA, aFk, vT, num, boo, str, aE_eq, aV]; done) | simp [ends, ite_true, ite_false, reduceIte, Nat.reduceEqDiff, Nat.reduceLeDiff, Nat.reduceLT, Nat.reduceAdd, reduceCtorEq, num, boo, str, ints, aV, aTab, aInst, aS, aT, aC, found, pairA, aFk, vT, num, boo, str, aE_eq, aV]) (by first | rfl | (simp only [ends, ite_true, ite_false, reduceIte, Nat.reduceEqDiff, Nat.reduceLeDiff, Nat.reduceLT, Nat.reduceAdd, reduceCtorEq, num, boo, str, ints, aV, aTab, aInst, aS, aT, aC, found, pairA, aFk, vT, num, boo, str, aE_eq, aV]; done) | simp [ends, ite_true, ite_false, reduceIte, Nat.reduceEqDiff, Nat.reduceLeDiff, Nat.reduceLT, Nat.reduceAdd, reduceCtorEq, num, boo, str, ints, aV, aTab, aInst, aS, aT, aC, found, pairA, aFk, vT, num, boo, str, aE_eq, aV]) (by simp only [ends, ite_true, ite_false, reduceIte, Nat.reduceEqDiff, Nat.reduceLeDiff, Nat.reduceLT, Nat.reduceAdd, reduceCtorEq, num, boo, str, ints, aV, aTab, aInst, aS, aT, aC, found, pairA, aFk, vT]) (by simp [idsOk, lookO, updO, ren1]) ?_
    simp -implicitDefEqProofs only [↓steps, push_cast, reduceIte, Nat.reduceEqDiff, Nat.reduceAdd, Nat.reduceMul, Nat.reduceLT, Nat.reduceLeDiff, Int.reduceToNat, Int.reduceLE, Int.reduceLT, reduceCtorEq, tte, num, boo, str, ints, aV, aTab, aInst, aS, aT, aC, found, pairA, aFk, vT]
    refine bcase_intro (fun g1 => ?_) fun g1 => ?_
    · have hc : tabErr s n = 3 := if_pos g1
      exact ret_d trivial (by rw [← hE (by rw [hc]; decide), hc]; rfl) (by simp only [ends, ite_true, ite_false, reduceIte, Nat.reduceEqDiff, Nat.reduceLeDiff, Nat.reduceLT, Nat.reduceAdd, reduceCtorEq, num, boo, str, ints, aV, aTab, aInst, aS, aT, aC, found, pairA, aFk, vT])
    refine ⟨(by first | omega | trivial | (refine ⟨?_, ?_⟩ <;> first | omega | trivial | (refine ⟨?_, ?_⟩ <;> first | omega | trivial | (refine ⟨?_, ?_⟩ <;> first | omega | trivial | rfl)))), ?_⟩
    refine callx_of [[6], [0]] [] rfl (c_rfind s (s.getD n default).name (by omega)) (by first | (simp; done) | (simp [rowsOf_length]; done) | (simp [rowsOf_length]; omega)) (by first | (simp only [ends, ite_true, ite_false, reduceIte, Nat.reduceEqDiff, Nat.reduceLeDiff, Nat.reduceLT, Nat.reduceAdd, reduceCtorEq, num, boo, str, ints, aV, aTab, aInst, aS, aT, aC, found, pairA, aFk, vT, num, boo, str, aE_eq, aV]; done) | simp [ends, ite_true, ite_false, reduceIte, Nat.reduceEqDiff, Nat.reduceLeDiff, Nat.reduceLT, Nat.reduceAdd, reduceCtorEq, num, boo, str, ints, aV, aTab, aInst, aS, aT, aC, found, pairA, aFk, vT, num, boo, str, aE_eq, aV]) (by first | rfl | (simp only [ends, ite_true, ite_false, reduceIte, Nat.reduceEqDiff, Nat.reduceLeDiff, Nat.reduceLT, Nat.reduceAdd, reduceCtorEq, num, boo, str, ints, aV, aTab, aInst, aS, aT, aC, found, pairA, aFk, vT, num, boo, str, aE_eq, aV]; done) | simp [ends, ite_true, ite_false, reduceIte, Nat.reduceEqDiff, Nat.reduceLeDiff, Nat.reduceLT, Nat.reduceAdd, reduceCtorEq, num, boo, str, ints, aV, aTab, aInst, aS, aT, aC, found, pairA, aFk, vT, num, boo, str, aE_eq, aV]) (by simp only [ends, ite_true, ite_false, reduceIte, Nat.reduceEqDiff, Nat.reduceLeDiff, Nat.reduceLT, Nat.reduceAdd, reduceCtorEq, num, boo, str, ints, aV, aTab, aInst, aS, aT, aC, found, pairA, aFk, vT]) (by simp [idsOk, lookO, updO, ren1]) ?_
    simp -implicitDefEqProofs only [↓steps, push_cast, reduceIte, Nat.reduceEqDiff, Nat.reduceAdd, Nat.reduceMul, Nat.reduceLT, Nat.reduceLeDiff, Int.reduceToNat, Int.reduceLE, Int.reduceLT, reduceCtorEq, tte, num, boo, str, ints, aV, aTab, aInst, aS, aT, aC, found, pairA, aFk, vT]
    refine ⟨drawx_intro (by kernel_rfl), ?_⟩
    refine bcase_intro (fun g2 => ?_) fun g2 => ?_
    · have g2' : posOf (byT s (s.getD n default).name) ≠ n := by simpa [posOf] using g2
      have hc : tabErr s n = 5 := by rw [tabErr, if_neg (by rw [g1]; decide), if_pos ((byT_self s n h').2 g2')]
      exact ret_d trivial (by rw [← hE (by rw [hc]; decide), hc]; rfl) (by simp only [ends, ite_true, ite_false, reduceIte, Nat.reduceEqDiff, Nat.reduceLeDiff, Nat.reduceLT, Nat.reduceAdd, reduceCtorEq, num, boo, str, ints, aV, aTab, aInst, aS, aT, aC, found, pairA, aFk, vT])
    have g2' : ¬ posOf (byT s (s.getD n default).name) ≠ n := by simpa [posOf] using g2
    have hcB : tabErr s n = tableM (s.getD n default) := by rw [tabErr, if_neg (by rw [g1]; decide), if_neg (fun q => g2' ((byT_self s n h').1 q))]
    refine ⟨(by first | omega | trivial | (refine ⟨?_, ?_⟩ <;> first | omega | trivial | (refine ⟨?_, ?_⟩ <;> first | omega | trivial | (refine ⟨?_, ?_⟩ <;> first | omega | trivial | rfl)))), ?_⟩
    refine callx_of [[0, 3, 1, 1, 2, 6]] [] rfl (c_rtable (s.getD n default) (hs.tab _ hg)) (by first | (simp; done) | (simp [rowsOf_length]; done) | (simp [rowsOf_length]; omega)) (by first | (simp only [ends, ite_true, ite_false, reduceIte, Nat.reduceEqDiff, Nat.reduceLeDiff, Nat.reduceLT, Nat.reduceAdd, reduceCtorEq, num, boo, str, ints, aV, aTab, aInst, aS, aT, aC, found, pairA, aFk, vT, num, boo, str, aE_eq, aV]; done) | simp [ends, ite_true, ite_false, reduceIte, Nat.reduceEqDiff, Nat.reduceLeDiff, Nat.reduceLT, Nat.reduceAdd, reduceCtorEq, num, boo, str, ints, aV, aTab, aInst, aS, aT, aC, found, pairA, aFk, vT, num, boo, str, aE_eq, aV]) (by first | rfl | (simp only [ends, ite_true, ite_false, reduceIte, Nat.reduceEqDiff, Nat.reduceLeDiff, Nat.reduceLT, Nat.reduceAdd, reduceCtorEq, num, boo, str, ints, aV, aTab, aInst, aS, aT, aC, found, pairA, aFk, vT, num, boo, str, aE_eq, aV]; done) | simp [ends, ite_true, ite_false, reduceIte, Nat.reduceEqDiff, Nat.reduceLeDiff, Nat.reduceLT, Nat.reduceAdd, reduceCtorEq, num, boo, str, ints, aV, aTab, aInst, aS, aT, aC, found, pairA, aFk, vT, num, boo, str, aE_eq, aV]) (by simp only [ends, ite_true, ite_false, reduceIte, Nat.reduceEqDiff, Nat.reduceLeDiff, Nat.reduceLT, Nat.reduceAdd, reduceCtorEq, num, boo, str, ints, aV, aTab, aInst, aS, aT, aC, found, pairA, aFk, vT]) (by simp [idsOk, lookO, updO, ren1]) ?_
    simp -implicitDefEqProofs only [↓steps, push_cast, reduceIte, Nat.reduceEqDiff, Nat.reduceAdd, Nat.reduceMul, Nat.reduceLT, Nat.reduceLeDiff, Int.reduceToNat, Int.reduceLE, Int.reduceLT, reduceCtorEq, tte, num, boo, str, ints, aV, aTab, aInst, aS, aT, aC, found, pairA, aFk, vT]
    refine bcase_intro (fun g3 => ?_) fun g3 => ?_
    · have g3' : tabErr s n ≠ 0 := by rw [hcB]; simpa using g3
      exact ret_d trivial (by rw [← hE g3', hcB]; rfl) (by simp only [ends, ite_true, ite_false, reduceIte, Nat.reduceEqDiff, Nat.reduceLeDiff, Nat.reduceLT, Nat.reduceAdd, reduceCtorEq, num, boo, str, ints, aV, aTab, aInst, aS, aT, aC, found, pairA, aFk, vT])
    · have g3' : tabErr s n = 0 := by rw [hcB]; simpa using g3
      exact cnt_again hI n rfl h' (fun i h2 => if h3 : i = n then by rw [h3]; exact g3' else hi i (by omega)) (by simp only [hw, ends, ite_true, ite_false, reduceIte, Nat.reduceEqDiff, Nat.reduceLeDiff, Nat.reduceLT, Nat.reduceAdd, reduceCtorEq, num, boo, str, ints, aV, aTab, aInst, aS, aT, aC, found, pairA, aFk, vT]) (by simp [hw, ends, ite_true, ite_false, reduceIte, Nat.reduceEqDiff, Nat.reduceLeDiff, Nat.reduceLT, Nat.reduceAdd, reduceCtorEq, num, boo, str, ints, aV, aTab, aInst, aS, aT, aC, found, pairA, aFk, vT]) (by simp [hw, ends, ite_true, ite_false, reduceIte, Nat.reduceEqDiff, Nat.reduceLeDiff, Nat.reduceLT, Nat.reduceAdd, reduceCtorEq, num, boo, str, ints, aV, aTab, aInst, aS, aT, aC, found, pairA, aFk, vT]) (by simp [hw, ends, ite_true, ite_false, reduceIte, Nat.reduceEqDiff, Nat.reduceLeDiff, Nat.reduceLT, Nat.reduceAdd, reduceCtorEq, num, boo, str, ints, aV, aTab, aInst, aS, aT, aC, found, pairA, aFk, vT])
  simp only [decide_eq_false_iff_not] at h
  obtain rfl : n = s.length := by omega
  have hM2 : validS s = if ferr (refErr s) s ≠ 0 then ferr (refErr s) s else orderE s := by rw [hM, ferrN_none hi, if_neg (by decide)]
  have htab : ∀ t ∈ s, tableM t = 0 := fun t ht => by
    obtain ⟨i, h1, h2⟩ := mem_getD ht
    rw [← h2]; exact tabErr_table (hi i h1)
  clear hI hM h hi hn I
  refine loop_count mixed ttok 7 [1] [1] (by simp only [pickT, ends, ite_true, ite_false, reduceIte, Nat.reduceEqDiff, Nat.reduceLeDiff, Nat.reduceLT, Nat.reduceAdd, reduceCtorEq, num, boo, str, ints, aV, aTab, aInst, aS, aT, aC, found, pairA, aFk, vT]; rfl) (by simp only [pickO, consO_some, ends, ite_true, ite_false, reduceIte, Nat.reduceEqDiff, Nat.reduceLeDiff, Nat.reduceLT, Nat.reduceAdd, reduceCtorEq, num, boo, str, ints, aV, aTab, aInst, aS, aT, aC, found, pairA, aFk, vT]; rfl) s.length (fun n => ∀ i, i < n → refErr s (s.getD i default) = 0) (fun _ => []) (fun _ => []) (fun i h => absurd h (Nat.not_lt_zero _)) ?_ ?_
  · exact Weak.keepL (by simp [cst, ends, ite_true, ite_false, reduceIte, Nat.reduceEqDiff, Nat.reduceLeDiff, Nat.reduceLT, Nat.reduceAdd, reduceCtorEq, num, boo, str, ints, aV, aTab, aInst, aS, aT, aC, found, pairA, aFk, vT]) (by simp [cst, ends, ite_true, ite_false, reduceIte, Nat.reduceEqDiff, Nat.reduceLeDiff, Nat.reduceLT, Nat.reduceAdd, reduceCtorEq, num, boo, str, ints, aV, aTab, aInst, aS, aT, aC, found, pairA, aFk, vT]) (by simp [cst, ends, ite_true, ite_false, reduceIte, Nat.reduceEqDiff, Nat.reduceLeDiff, Nat.reduceLT, Nat.reduceAdd, reduceCtorEq, num, boo, str, ints, aV, aTab, aInst, aS, aT, aC, found, pairA, aFk, vT])
  intro I hI n hn hi
  simp -implicitDefEqProofs only [cst, ↓steps, push_cast, reduceIte, Nat.reduceEqDiff, Nat.reduceAdd, Nat.reduceMul, Nat.reduceLT, Nat.reduceLeDiff, Int.reduceToNat, Int.reduceLE, Int.reduceLT, reduceCtorEq, tte, num, boo, str, ints, aV, aTab, aInst, aS, aT, aC, found, pairA, aFk, vT]
  refine bcase_intro (fun h => ?_) fun h => ?_
  · simp only [decide_eq_true_eq] at h
    have h' : n < s.length := by omega
    have hw := wrap_succ h' (by omega)
    have hg : s.getD n default ∈ s := getD_mem h'
    have hE : refErr s (s.getD n default) ≠ 0 → num (refErr s (s.getD n default)) = R := fun hne => by
      have := ferr_at (refErr s) s n h' hi hne
      rw [← hr, hM2, this, if_pos hne]
    have hT := hs.tab _ hg
    have hTf := hT.fors
    have hfs := table_fors (htab _ hg)
    refine loop_count mixed ttok 8 [1, 7] [1] (by simp only [pickT, ends, ite_true, ite_false, reduceIte, Nat.reduceEqDiff, Nat.reduceLeDiff, Nat.reduceLT, Nat.reduceAdd, reduceCtorEq, num, boo, str, ints, aV, aTab, aInst, aS, aT, aC, found, pairA, aFk, vT]; rfl) (by simp only [pickO, consO_some, ends, ite_true, ite_false, reduceIte, Nat.reduceEqDiff, Nat.reduceLeDiff, Nat.reduceLT, Nat.reduceAdd, reduceCtorEq, num, boo, str, ints, aV, aTab, aInst, aS, aT, aC, found, pairA, aFk, vT]; rfl) (s.getD n default).foreigns.length (fun k => ∀ i, i < k → refM s (s.getD n default) ((s.getD n default).foreigns.getD i default) = 0) (fun _ => []) (fun _ => []) (fun i h => absurd h (Nat.not_lt_zero _)) ?_ ?_
    · exact Weak.keepL (by simp [cst, ends, ite_true, ite_false, reduceIte, Nat.reduceEqDiff, Nat.reduceLeDiff, Nat.reduceLT, Nat.reduceAdd, reduceCtorEq, num, boo, str, ints, aV, aTab, aInst, aS, aT, aC, found, pairA, aFk, vT]) (by simp [cst, ends, ite_true, ite_false, reduceIte, Nat.reduceEqDiff, Nat.reduceLeDiff, Nat.reduceLT, Nat.reduceAdd, reduceCtorEq, num, boo, str, ints, aV, aTab, aInst, aS, aT, aC, found, pairA, aFk, vT]) (by simp [cst, ends, ite_true, ite_false, reduceIte, Nat.reduceEqDiff, Nat.reduceLeDiff, Nat.reduceLT, Nat.reduceAdd, reduceCtorEq, num, boo, str, ints, aV, aTab, aInst, aS, aT, aC, found, pairA, aFk, vT])
    intro J hJ k hk hki
    simp -implicitDefEqProofs only [cst, ↓steps, push_cast, reduceIte, Nat.reduceEqDiff, Nat.reduceAdd, Nat.reduceMul, Nat.reduceLT, Nat.reduceLeDiff, Int.reduceToNat, Int.reduceLE, Int.reduceLT, reduceCtorEq, tte, num, boo, str, ints, aV, aTab, aInst, aS, aT, aC, found, pairA, aFk, vT]
    refine ⟨(by first | omega | trivial | (refine ⟨?_, ?_⟩ <;> first | omega | trivial | (refine ⟨?_, ?_⟩ <;> first | omega | trivial | (refine ⟨?_, ?_⟩ <;> first | omega | trivial | rfl)))), ?_⟩
    refine bcase_intro (fun g => ?_) fun g => ?_
    · simp only [decide_eq_true_eq] at g
      have k' : k < (s.getD n default).foreigns.length := by omega
      have hwk := wrap_succ k' (by omega)
      have hfm := getD_mem k'
      refine callx_of [[6], [0], [0]] [] rfl (c_target s n k hl h' k') (by first | (simp; done) | (simp [rowsOf_length]; done) | (simp [rowsOf_length]; omega)) (by first | (simp only [ends, ite_true, ite_false, reduceIte, Nat.reduceEqDiff, Nat.reduceLeDiff, Nat.reduceLT, Nat.reduceAdd, reduceCtorEq, num, boo, str, ints, aV, aTab, aInst, aS, aT, aC, found, pairA, aFk, vT, num, boo, str, aE_eq, aV]; done) | simp [ends, ite_true, ite_false, reduceIte, Nat.reduceEqDiff, Nat.reduceLeDiff, Nat.reduceLT, Nat.reduceAdd, reduceCtorEq, num, boo, str, ints, aV, aTab, aInst, aS, aT, aC, found, pairA, aFk, vT, num, boo, str, aE_eq, aV]) (by first | rfl | (simp only [ends, ite_true, ite_false, reduceIte, Nat.reduceEqDiff, Nat.reduceLeDiff, Nat.reduceLT, Nat.reduceAdd, reduceCtorEq, num, boo, str, ints, aV, aTab, aInst, aS, aT, aC, found, pairA, aFk, vT, num, boo, str, aE_eq, aV]; done) | simp [ends, ite_true, ite_false, reduceIte, Nat.reduceEqDiff, Nat.reduceLeDiff, Nat.reduceLT, Nat.reduceAdd, reduceCtorEq, num, boo, str, ints, aV, aTab, aInst, aS, aT, aC, found, pairA, aFk, vT, num, boo, str, aE_eq, aV]) (by simp only [ends, ite_true, ite_false, reduceIte, Nat.reduceEqDiff, Nat.reduceLeDiff, Nat.reduceLT, Nat.reduceAdd, reduceCtorEq, num, boo, str, ints, aV, aTab, aInst, aS, aT, aC, found, pairA, aFk, vT]) (by simp [idsOk, lookO, updO, ren1]) ?_
      simp -implicitDefEqProofs only [↓steps, push_cast, reduceIte, Nat.reduceEqDiff, Nat.reduceAdd, Nat.reduceMul, Nat.reduceLT, Nat.reduceLeDiff, Int.reduceToNat, Int.reduceLE, Int.reduceLT, reduceCtorEq, tte, num, boo, str, ints, aV, aTab, aInst, aS, aT, aC, found, pairA, aFk, vT]
      have hE2 : refM s (s.getD n default) ((s.getD n default).foreigns.getD k default) ≠ 0 → num (refM s (s.getD n default) ((s.getD n default).foreigns.getD k default)) = R := fun hne => by
        have hc : refErr s (s.getD n default) = refM s (s.getD n default) ((s.getD n default).foreigns.getD k default) := ferr_at (refM s (s.getD n default)) (s.getD n default).foreigns k k' hki hne
        rw [← hc]; exact hE (by rw [hc]; exact hne)
      have hz2 : refM s (s.getD n default) ((s.getD n default).foreigns.getD k default) = 0 → ∀ i, i < k + 1 → refM s (s.getD n default) ((s.getD n default).foreigns.getD i default) = 0 := fun hz i h2 => if h3 : i = k then by rw [h3]; exact hz else hki i (by omega)
      have hcols := hfs _ hfm
      have hlc := hT.forss _ hfm
      generalize hf : (s.getD n default).foreigns.getD k default = f at hE2 hz2 hcols hlc
      refine bcase_intro (fun g1 => ?_) fun g1 => ?_
      · have g1' : byT s f.table < 0 := by simpa using g1
        have hc : refM s (s.getD n default) f = 11 := if_pos g1'
        exact ret_d trivial (by rw [← hE2 (by rw [hc]; decide), hc]; rfl) (by simp only [ends, ite_true, ite_false, reduceIte, Nat.reduceEqDiff, Nat.reduceLeDiff, Nat.reduceLT, Nat.reduceAdd, reduceCtorEq, num, boo, str, ints, aV, aTab, aInst, aS, aT, aC, found, pairA, aFk, vT])
      have g1' : ¬ byT s f.table < 0 := by simpa using g1
      have hlt : byT s f.table < s.length := fidx_lt _ _
      have hcB : refM s (s.getD n default) f = if eqKeys (s.getD n default) (s.getD (byT s f.table).toNat default) f.columns (s.getD (byT s f.table).toNat default).primary then 0 else 6 := if_neg g1'
      have hUm : s.getD (byT s f.table).toNat default ∈ s := getD_mem (by omega)
      have hprim := table_prim (htab _ hUm)
      simp only [if_neg (show ¬ 0 > byT s f.table by omega)]
      generalize byT s f.table = bt at g1' hlt hcB hprim ⊢
      generalize hU : s.getD bt.toNat default = U at hcB hprim
      refine ⟨by omega, by omega, ⟨by omega, hlt⟩, drawx_intro (by kernel_rfl), ?_⟩
      refine bcase_intro (fun g2 => ?_) fun g2 => ?_
      · have hne := ne_nat g2
        have hc : refM s (s.getD n default) f = 6 := by rw [hcB, eqKeys, beq_false_of_ne hne]; rfl
        exact ret_d trivial (by rw [← hE2 (by rw [hc]; decide), hc]; rfl) (by simp only [ends, ite_true, ite_false, reduceIte, Nat.reduceEqDiff, Nat.reduceLeDiff, Nat.reduceLT, Nat.reduceAdd, reduceCtorEq, num, boo, str, ints, aV, aTab, aInst, aS, aT, aC, found, pairA, aFk, vT])
      have hle := eq_nat g2
      have hcC : refM s (s.getD n default) f = if (List.range f.columns.length).all (fun i => typeAt (s.getD n default) (f.columns.getD i default) == typeAt U (U.primary.getD i default)) then 0 else 6 := by
        rw [hcB, eqKeys, hle, beq_self_eq_true, Bool.true_and]
      refine loop_count mixed ttok 13 [1, 7, 8, 9, 11, 12] [1] (by simp only [pickT, ends, ite_true, ite_false, reduceIte, Nat.reduceEqDiff, Nat.reduceLeDiff, Nat.reduceLT, Nat.reduceAdd, reduceCtorEq, num, boo, str, ints, aV, aTab, aInst, aS, aT, aC, found, pairA, aFk, vT]; rfl) (by simp only [pickO, consO_some, ends, ite_true, ite_false, reduceIte, Nat.reduceEqDiff, Nat.reduceLeDiff, Nat.reduceLT, Nat.reduceAdd, reduceCtorEq, num, boo, str, ints, aV, aTab, aInst, aS, aT, aC, found, pairA, aFk, vT]; rfl) f.columns.length (fun j => ∀ i, i < j → (typeAt (s.getD n default) (f.columns.getD i default) == typeAt U (U.primary.getD i default)) = true) (fun _ => []) (fun _ => []) (fun i h => absurd h (Nat.not_lt_zero _)) ?_ ?_
      · exact Weak.keepL (by simp [cst, ends, ite_true, ite_false, reduceIte, Nat.reduceEqDiff, Nat.reduceLeDiff, Nat.reduceLT, Nat.reduceAdd, reduceCtorEq, num, boo, str, ints, aV, aTab, aInst, aS, aT, aC, found, pairA, aFk, vT]) (by simp [cst, ends, ite_true, ite_false, reduceIte, Nat.reduceEqDiff, Nat.reduceLeDiff, Nat.reduceLT, Nat.reduceAdd, reduceCtorEq, num, boo, str, ints, aV, aTab, aInst, aS, aT, aC, found, pairA, aFk, vT]) (by simp [cst, ends, ite_true, ite_false, reduceIte, Nat.reduceEqDiff, Nat.reduceLeDiff, Nat.reduceLT, Nat.reduceAdd, reduceCtorEq, num, boo, str, ints, aV, aTab, aInst, aS, aT, aC, found, pairA, aFk, vT])
      intro Q hQ j hj hji
      simp -implicitDefEqProofs only [cst, ↓steps, push_cast, reduceIte, Nat.reduceEqDiff, Nat.reduceAdd, Nat.reduceMul, Nat.reduceLT, Nat.reduceLeDiff, Int.reduceToNat, Int.reduceLE, Int.reduceLT, reduceCtorEq, tte, num, boo, str, ints, aV, aTab, aInst, aS, aT, aC, found, pairA, aFk, vT]
      refine bcase_intro (fun q => ?_) fun q => ?_
      · simp only [decide_eq_true_eq] at q
        have j' : j < f.columns.length := by omega
        have hwj := wrap_succ j' (by omega)
        obtain ⟨a0, a1⟩ := hcols _ (getD_mem j')
        obtain ⟨b0, b1⟩ := hprim (U.primary.getD j default) (getD_mem (by omega))
        refine ⟨by omega, by omega, ⟨a0, a1⟩, ⟨by omega, hlt⟩, by omega, ⟨b0, by rw [hU]; exact b1⟩, drawx_intro (by kernel_rfl), ?_⟩
        rw [hU]
        refine bcase_intro (fun e => ?_) fun e => ?_
        · have e' : (typeAt (s.getD n default) (f.columns.getD j default) == typeAt U (U.primary.getD j default)) = false := by simpa [bne, typeAt] using e
          have hc : refM s (s.getD n default) f = 6 := by rw [hcC, bad_range (n := j) j' e']; rfl
          exact ret_d trivial (by rw [← hE2 (by rw [hc]; decide), hc]; rfl) (by simp only [ends, ite_true, ite_false, reduceIte, Nat.reduceEqDiff, Nat.reduceLeDiff, Nat.reduceLT, Nat.reduceAdd, reduceCtorEq, num, boo, str, ints, aV, aTab, aInst, aS, aT, aC, found, pairA, aFk, vT])
        · have e' : (typeAt (s.getD n default) (f.columns.getD j default) == typeAt U (U.primary.getD j default)) = true := by simpa [bne, typeAt] using e
          exact cnt_again hQ j rfl j' (fun i h2 => if h3 : i = j then by rw [h3]; exact e' else hji i (by omega)) (by simp only [hwj, ends, ite_true, ite_false, reduceIte, Nat.reduceEqDiff, Nat.reduceLeDiff, Nat.reduceLT, Nat.reduceAdd, reduceCtorEq, num, boo, str, ints, aV, aTab, aInst, aS, aT, aC, found, pairA, aFk, vT]) (by simp [hwj, ends, ite_true, ite_false, reduceIte, Nat.reduceEqDiff, Nat.reduceLeDiff, Nat.reduceLT, Nat.reduceAdd, reduceCtorEq, num, boo, str, ints, aV, aTab, aInst, aS, aT, aC, found, pairA, aFk, vT]) (by simp [hwj, ends, ite_true, ite_false, reduceIte, Nat.reduceEqDiff, Nat.reduceLeDiff, Nat.reduceLT, Nat.reduceAdd, reduceCtorEq, num, boo, str, ints, aV, aTab, aInst, aS, aT, aC, found, pairA, aFk, vT]) (by simp [hwj, ends, ite_true, ite_false, reduceIte, Nat.reduceEqDiff, Nat.reduceLeDiff, Nat.reduceLT, Nat.reduceAdd, reduceCtorEq, num, boo, str, ints, aV, aTab, aInst, aS, aT, aC, found, pairA, aFk, vT])
      · simp only [decide_eq_false_iff_not] at q
        obtain rfl : j = f.columns.length := by omega
        have hc : refM s (s.getD n default) f = 0 := by rw [hcC, all_range.2 hji]; rfl
        exact cnt_again hJ k rfl k' (hz2 hc) (by simp only [hwk, ends, ite_true, ite_false, reduceIte, Nat.reduceEqDiff, Nat.reduceLeDiff, Nat.reduceLT, Nat.reduceAdd, reduceCtorEq, num, boo, str, ints, aV, aTab, aInst, aS, aT, aC, found, pairA, aFk, vT]) (by simp [hwk, ends, ite_true, ite_false, reduceIte, Nat.reduceEqDiff, Nat.reduceLeDiff, Nat.reduceLT, Nat.reduceAdd, reduceCtorEq, num, boo, str, ints, aV, aTab, aInst, aS, aT, aC, found, pairA, aFk, vT]) (by simp [hwk, ends, ite_true, ite_false, reduceIte, Nat.reduceEqDiff, Nat.reduceLeDiff, Nat.reduceLT, Nat.reduceAdd, reduceCtorEq, num, boo, str, ints, aV, aTab, aInst, aS, aT, aC, found, pairA, aFk, vT]) (by simp [hwk, ends, ite_true, ite_false, reduceIte, Nat.reduceEqDiff, Nat.reduceLeDiff, Nat.reduceLT, Nat.reduceAdd, reduceCtorEq, num, boo, str, ints, aV, aTab, aInst, aS, aT, aC, found, pairA, aFk, vT])
    · simp only [decide_eq_false_iff_not] at g
      obtain rfl : k = (s.getD n default).foreigns.length := by omega
      have hz : refErr s (s.getD n default) = 0 := ferr_none _ _ hki
      exact cnt_again hI n rfl h' (fun i h2 => if h3 : i = n then by rw [h3]; exact hz else hi i (by omega)) (by simp only [hw, ends, ite_true, ite_false, reduceIte, Nat.reduceEqDiff, Nat.reduceLeDiff, Nat.reduceLT, Nat.reduceAdd, reduceCtorEq, num, boo, str, ints, aV, aTab, aInst, aS, aT, aC, found, pairA, aFk, vT]) (by simp [hw, ends, ite_true, ite_false, reduceIte, Nat.reduceEqDiff, Nat.reduceLeDiff, Nat.reduceLT, Nat.reduceAdd, reduceCtorEq, num, boo, str, ints, aV, aTab, aInst, aS, aT, aC, found, pairA, aFk, vT]) (by simp [hw, ends, ite_true, ite_false, reduceIte, Nat.reduceEqDiff, Nat.reduceLeDiff, Nat.reduceLT, Nat.reduceAdd, reduceCtorEq, num, boo, str, ints, aV, aTab, aInst, aS, aT, aC, found, pairA, aFk, vT]) (by simp [hw, ends, ite_true, ite_false, reduceIte, Nat.reduceEqDiff, Nat.reduceLeDiff, Nat.reduceLT, Nat.reduceAdd, reduceCtorEq, num, boo, str, ints, aV, aTab, aInst, aS, aT, aC, found, pairA, aFk, vT])
  simp only [decide_eq_false_iff_not] at h
  obtain rfl : n = s.length := by omega
  clear hI
  have hz : ferr (refErr s) s = 0 := ferr_none (refErr s) s hi
  have hall : ∀ t ∈ s, ∀ f ∈ t.foreigns, 0 ≤ byT s f.table := fun t ht f hf => refM_at (ferr_zero (ferr_zero hz t ht) f hf)
  refine callx_of [[6]] [] rfl (c_rorder s (by omega) (fun t ht => (hs.tab t ht).fors) hall) (by first | (simp; done) | (simp [rowsOf_length]; done) | (simp [rowsOf_length]; omega)) (by first | (simp only [ends, ite_true, ite_false, reduceIte, Nat.reduceEqDiff, Nat.reduceLeDiff, Nat.reduceLT, Nat.reduceAdd, reduceCtorEq, num, boo, str, ints, aV, aTab, aInst, aS, aT, aC, found, pairA, aFk, vT, num, boo, str, aE_eq, aV]; done) | simp [ends, ite_true, ite_false, reduceIte, Nat.reduceEqDiff, Nat.reduceLeDiff, Nat.reduceLT, Nat.reduceAdd, reduceCtorEq, num, boo, str, ints, aV, aTab, aInst, aS, aT, aC, found, pairA, aFk, vT, num, boo, str, aE_eq, aV]) (by first | rfl | (simp only [ends, ite_true, ite_false, reduceIte, Nat.reduceEqDiff, Nat.reduceLeDiff, Nat.reduceLT, Nat.reduceAdd, reduceCtorEq, num, boo, str, ints, aV, aTab, aInst, aS, aT, aC, found, pairA, aFk, vT, num, boo, str, aE_eq, aV]; done) | simp [ends, ite_true, ite_false, reduceIte, Nat.reduceEqDiff, Nat.reduceLeDiff, Nat.reduceLT, Nat.reduceAdd, reduceCtorEq, num, boo, str, ints, aV, aTab, aInst, aS, aT, aC, found, pairA, aFk, vT, num, boo, str, aE_eq, aV]) (by simp only [ends, ite_true, ite_false, reduceIte, Nat.reduceEqDiff, Nat.reduceLeDiff, Nat.reduceLT, Nat.reduceAdd, reduceCtorEq, num, boo, str, ints, aV, aTab, aInst, aS, aT, aC, found, pairA, aFk, vT]) (by simp [idsOk, lookO, updO, ren1]) ?_
  simp -implicitDefEqProofs only [↓steps, push_cast, reduceIte, Nat.reduceEqDiff, Nat.reduceAdd, Nat.reduceMul, Nat.reduceLT, Nat.reduceLeDiff, Int.reduceToNat, Int.reduceLE, Int.reduceLT, reduceCtorEq, tte, num, boo, str, ints, aV, aTab, aInst, aS, aT, aC, found, pairA, aFk, vT]
  exact ret_d trivial (by rw [← hr, hM2, if_neg (by rw [hz]; decide)]; rfl) (by simp only [ends, ite_true, ite_false, reduceIte, Nat.reduceEqDiff, Nat.reduceLeDiff, Nat.reduceLT, Nat.reduceAdd, reduceCtorEq, num, boo, str, ints, aV, aTab, aInst, aS, aT, aC, found, pairA, aFk, vT])
end Go.Proofs.YtkccdfaelbepeaaDoor

namespace Go.Proofs.YtkccdfaelbepeaaDoor
open Go.Am
set_option linter.unusedVariables false
set_option maxRecDepth 100000
set_option maxHeartbeats 4000000

theorem c_rfits (s : Sch) (inst : Inst) (hs : SmallS s) (hi : SmallI inst) : ACall Tryd.prog 8 [aS s, aInst inst] [] (num (fitsM s inst)) [] := by
  refine ACall.enter mixed ttok Tryd.func8 rfl rfl _ Tryd.ntmps8 (Nat.le_of_ble_eq_true rfl) (by kernel_rfl) _ (congrArg Array.toList Tryd.results8) ?_
  generalize hr : num (fitsM s inst) = R
  have hl := hs.len
  have hli := hi.len
  simp -implicitDefEqProofs only [argT, ↓steps, push_cast, reduceIte, Nat.reduceEqDiff, Nat.reduceAdd, Nat.reduceMul, Nat.reduceLT, Nat.reduceLeDiff, Int.reduceToNat, Int.reduceLE, Int.reduceLT, reduceCtorEq, tte, num, boo, str, ints, aV, aTab, aInst, aS, aT, aC, found, pairA, aFk, vT, rTab, rRow]
  refine callx_of [[6]] [] rfl (c_rsvalid s hs) (by first | (simp; done) | (simp [rowsOf_length]; done) | (simp [rowsOf_length]; omega)) (by first | (simp only [ends, ite_true, ite_false, reduceIte, Nat.reduceEqDiff, Nat.reduceLeDiff, Nat.reduceLT, Nat.reduceAdd, reduceCtorEq, num, boo, str, ints, aV, aTab, aInst, aS, aT, aC, found, pairA, aFk, vT, rTab, rRow, num, boo, str, aE_eq, aV]; done) | simp [ends, ite_true, ite_false, reduceIte, Nat.reduceEqDiff, Nat.reduceLeDiff, Nat.reduceLT, Nat.reduceAdd, reduceCtorEq, num, boo, str, ints, aV, aTab, aInst, aS, aT, aC, found, pairA, aFk, vT, rTab, rRow, num, boo, str, aE_eq, aV]) (by first | rfl | (simp only [ends, ite_true, ite_false, reduceIte, Nat.reduceEqDiff, Nat.reduceLeDiff, Nat.reduceLT, Nat.reduceAdd, reduceCtorEq, num, boo, str, ints, aV, aTab, aInst, aS, aT, aC, found, pairA, aFk, vT, rTab, rRow, num, boo, str, aE_eq, aV]; done) | simp [ends, ite_true, ite_false, reduceIte, Nat.reduceEqDiff, Nat.reduceLeDiff, Nat.reduceLT, Nat.reduceAdd, reduceCtorEq, num, boo, str, ints, aV, aTab, aInst, aS, aT, aC, found, pairA, aFk, vT, rTab, rRow, num, boo, str, aE_eq, aV]) (by simp only [ends, ite_true, ite_false, reduceIte, Nat.reduceEqDiff, Nat.reduceLeDiff, Nat.reduceLT, Nat.reduceAdd, reduceCtorEq, num, boo, str, ints, aV, aTab, aInst, aS, aT, aC, found, pairA, aFk, vT, rTab, rRow]) (by simp [idsOk, lookO, updO, ren1]) ?_
  simp -implicitDefEqProofs only [↓steps, push_cast, reduceIte, Nat.reduceEqDiff, Nat.reduceAdd, Nat.reduceMul, Nat.reduceLT, Nat.reduceLeDiff, Int.reduceToNat, Int.reduceLE, Int.reduceLT, reduceCtorEq, tte, num, boo, str, ints, aV, aTab, aInst, aS, aT, aC, found, pairA, aFk, vT, rTab, rRow]
  refine bcase_intro (fun h0 => ?_) fun h0 => ?_
  · have h0' : validS s ≠ 0 := by simpa using h0
    exact ret_d trivial (by rw [← hr, fitsM, if_pos h0']; rfl) (by simp only [ends, ite_true, ite_false, reduceIte, Nat.reduceEqDiff, Nat.reduceLeDiff, Nat.reduceLT, Nat.reduceAdd, reduceCtorEq, num, boo, str, ints, aV, aTab, aInst, aS, aT, aC, found, pairA, aFk, vT, rTab, rRow])
  have h0' : ¬ validS s ≠ 0 := by simpa using h0
  refine bcase_intro (fun h1 => ?_) fun h1 => ?_
  · exact ret_d trivial (by rw [← hr, fitsM, if_neg h0', if_pos (neN_of h1)]; rfl) (by simp only [ends, ite_true, ite_false, reduceIte, Nat.reduceEqDiff, Nat.reduceLeDiff, Nat.reduceLT, Nat.reduceAdd, reduceCtorEq, num, boo, str, ints, aV, aTab, aInst, aS, aT, aC, found, pairA, aFk, vT, rTab, rRow])
  have hlen := eq_nat h1
  have hM : fitsM s inst = ferrN (instF s inst) s.length := by rw [fitsM, if_neg h0', if_neg (eqN_of h1)]
  refine loop_count mixed ttok 6 [2, 3] [2, 3] (by simp only [pickT, ends, ite_true, ite_false, reduceIte, Nat.reduceEqDiff, Nat.reduceLeDiff, Nat.reduceLT, Nat.reduceAdd, reduceCtorEq, num, boo, str, ints, aV, aTab, aInst, aS, aT, aC, found, pairA, aFk, vT, rTab, rRow]; rfl) (by simp only [pickO, consO_some, ends, ite_true, ite_false, reduceIte, Nat.reduceEqDiff, Nat.reduceLeDiff, Nat.reduceLT, Nat.reduceAdd, reduceCtorEq, num, boo, str, ints, aV, aTab, aInst, aS, aT, aC, found, pairA, aFk, vT, rTab, rRow]; rfl) s.length (fun n => ∀ i, i < n → instF s inst i = 0) (fun _ => []) (fun _ => []) (fun i h => absurd h (Nat.not_lt_zero _)) ?_ ?_
  · exact Weak.keepL (by simp [cst, ends, ite_true, ite_false, reduceIte, Nat.reduceEqDiff, Nat.reduceLeDiff, Nat.reduceLT, Nat.reduceAdd, reduceCtorEq, num, boo, str, ints, aV, aTab, aInst, aS, aT, aC, found, pairA, aFk, vT, rTab, rRow]) (by simp [cst, ends, ite_true, ite_false, reduceIte, Nat.reduceEqDiff, Nat.reduceLeDiff, Nat.reduceLT, Nat.reduceAdd, reduceCtorEq, num, boo, str, ints, aV, aTab, aInst, aS, aT, aC, found, pairA, aFk, vT, rTab, rRow]) (by simp [cst, ends, ite_true, ite_false, reduceIte, Nat.reduceEqDiff, Nat.reduceLeDiff, Nat.reduceLT, Nat.reduceAdd, reduceCtorEq, num, boo, str, ints, aV, aTab, aInst, aS, aT, aC, found, pairA, aFk, vT, rTab, rRow])
  intro I hI n hn hii
  simp -implicitDefEqProofs only [cst, ↓steps, push_cast, reduceIte, Nat.reduceEqDiff, Nat.reduceAdd, Nat.reduceMul, Nat.reduceLT, Nat.reduceLeDiff, Int.reduceToNat, Int.reduceLE, Int.reduceLT, reduceCtorEq, tte, num, boo, str, ints, aV, aTab, aInst, aS, aT, aC, found, pairA, aFk, vT, rTab, rRow]
  refine bcase_intro (fun h => ?_) fun h => ?_
  · simp only [decide_eq_true_eq] at h
    have h' : n < s.length := by omega
    have hw := wrap_succ h' (by omega)
    have hE : instF s inst n ≠ 0 → num (instF s inst n) = R := fun hne => by
      have := ferrN_at h' hii hne
      rw [← hr, hM, this]
    have hzero : instF s inst n = 0 → ∀ i, i < n + 1 → instF s inst i = 0 := fun hz i h2 => if h3 : i = n then by rw [h3]; exact hz else hii i (by omega)
    have hgt : s.getD n default ∈ s := getD_mem h'
    have hgl : inst.getD n default ∈ inst := getD_mem (by omega)
    have hll := hi.tab _ hgl
    have hlr := hi.row _ hgl
    have hTc := (hs.tab _ hgt).cols
    unfold instF at hE hzero
    generalize hT : s.getD n default = T at hE hTc hzero
    generalize hL : inst.getD n default = L at hE hll hlr hzero
    refine ⟨by omega, ?_⟩
    refine bcase_intro (fun h2 => ?_) fun h2 => ?_
    · have hc : tabF T L = 8 := if_pos (of_decide_eq_true h2)
      exact ret_d trivial (by rw [← hE (by rw [hc]; decide), hc]; rfl) (by simp only [ends, ite_true, ite_false, reduceIte, Nat.reduceEqDiff, Nat.reduceLeDiff, Nat.reduceLT, Nat.reduceAdd, reduceCtorEq, num, boo, str, ints, aV, aTab, aInst, aS, aT, aC, found, pairA, aFk, vT, rTab, rRow])
    have hcT : tabF T L = ferr (rowErr T) L := if_neg (of_decide_eq_false h2)
    rw [hcT] at hE hzero
    refine loop_count mixed ttok 7 [2, 3, 6] [2, 3] (by simp only [pickT, ends, ite_true, ite_false, reduceIte, Nat.reduceEqDiff, Nat.reduceLeDiff, Nat.reduceLT, Nat.reduceAdd, reduceCtorEq, num, boo, str, ints, aV, aTab, aInst, aS, aT, aC, found, pairA, aFk, vT, rTab, rRow]; rfl) (by simp only [pickO, consO_some, ends, ite_true, ite_false, reduceIte, Nat.reduceEqDiff, Nat.reduceLeDiff, Nat.reduceLT, Nat.reduceAdd, reduceCtorEq, num, boo, str, ints, aV, aTab, aInst, aS, aT, aC, found, pairA, aFk, vT, rTab, rRow]; rfl) L.length (fun k => ∀ i, i < k → rowErr T (L.getD i default) = 0) (fun _ => []) (fun _ => []) (fun i h => absurd h (Nat.not_lt_zero _)) ?_ ?_
    · exact Weak.keepL (by simp [cst, ends, ite_true, ite_false, reduceIte, Nat.reduceEqDiff, Nat.reduceLeDiff, Nat.reduceLT, Nat.reduceAdd, reduceCtorEq, num, boo, str, ints, aV, aTab, aInst, aS, aT, aC, found, pairA, aFk, vT, rTab, rRow]) (by simp [cst, ends, ite_true, ite_false, reduceIte, Nat.reduceEqDiff, Nat.reduceLeDiff, Nat.reduceLT, Nat.reduceAdd, reduceCtorEq, num, boo, str, ints, aV, aTab, aInst, aS, aT, aC, found, pairA, aFk, vT, rTab, rRow]) (by simp [cst, ends, ite_true, ite_false, reduceIte, Nat.reduceEqDiff, Nat.reduceLeDiff, Nat.reduceLT, Nat.reduceAdd, reduceCtorEq, num, boo, str, ints, aV, aTab, aInst, aS, aT, aC, found, pairA, aFk, vT, rTab, rRow])
    intro J hJ k hk hki
    simp -implicitDefEqProofs only [cst, hL, ↓steps, push_cast, reduceIte, Nat.reduceEqDiff, Nat.reduceAdd, Nat.reduceMul, Nat.reduceLT, Nat.reduceLeDiff, Int.reduceToNat, Int.reduceLE, Int.reduceLT, reduceCtorEq, tte, num, boo, str, ints, aV, aTab, aInst, aS, aT, aC, found, pairA, aFk, vT, rTab, rRow]
    refine ⟨by omega, ?_⟩
    refine bcase_intro (fun g => ?_) fun g => ?_
    · simp only [decide_eq_true_eq] at g
      have k' : k < L.length := by omega
      have hwk := wrap_succ k' (by omega)
      have hrm : L.getD k default ∈ L := getD_mem k'
      have hrl := hlr _ hrm
      have hE2 : rowErr T (L.getD k default) ≠ 0 → num (rowErr T (L.getD k default)) = R := fun hne => by
        have := ferr_at (rowErr T) L k k' hki hne
        rw [← hE (by rw [this]; exact hne), this]
      have hzero2 : rowErr T (L.getD k default) = 0 → ∀ i, i < k + 1 → rowErr T (L.getD i default) = 0 := fun hz i h2 => if h3 : i = k then by rw [h3]; exact hz else hki i (by omega)
      generalize hW : L.getD k default = W at hE2 hzero2 hrl
      refine ⟨by omega, by omega, by omega, ?_⟩
      rw [hT]
      refine bcase_intro (fun h3 => ?_) fun h3 => ?_
      · have hc : rowErr T W = 9 := if_pos (neN_of h3)
        exact ret_d trivial (by rw [← hE2 (by rw [hc]; decide), hc]; rfl) (by simp only [ends, ite_true, ite_false, reduceIte, Nat.reduceEqDiff, Nat.reduceLeDiff, Nat.reduceLT, Nat.reduceAdd, reduceCtorEq, num, boo, str, ints, aV, aTab, aInst, aS, aT, aC, found, pairA, aFk, vT, rTab, rRow])
      have hWl := eq_nat h3
      have hcW : rowErr T W = if (List.range W.length).all (fun j => !badV (T.columns.getD j default) (W.getD j default)) then 0 else 4 := if_neg (eqN_of h3)
      refine loop_count mixed ttok 9 [2, 3, 6, 7, 8] [2, 3] (by simp only [pickT, ends, ite_true, ite_false, reduceIte, Nat.reduceEqDiff, Nat.reduceLeDiff, Nat.reduceLT, Nat.reduceAdd, reduceCtorEq, num, boo, str, ints, aV, aTab, aInst, aS, aT, aC, found, pairA, aFk, vT, rTab, rRow]; rfl) (by simp only [pickO, consO_some, ends, ite_true, ite_false, reduceIte, Nat.reduceEqDiff, Nat.reduceLeDiff, Nat.reduceLT, Nat.reduceAdd, reduceCtorEq, num, boo, str, ints, aV, aTab, aInst, aS, aT, aC, found, pairA, aFk, vT, rTab, rRow]; rfl) W.length (fun j => ∀ i, i < j → (!badV (T.columns.getD i default) (W.getD i default)) = true) (fun _ => []) (fun _ => []) (fun i h => absurd h (Nat.not_lt_zero _)) ?_ ?_
      · exact Weak.keepL (by simp [cst, ends, ite_true, ite_false, reduceIte, Nat.reduceEqDiff, Nat.reduceLeDiff, Nat.reduceLT, Nat.reduceAdd, reduceCtorEq, num, boo, str, ints, aV, aTab, aInst, aS, aT, aC, found, pairA, aFk, vT, rTab, rRow]) (by simp [cst, ends, ite_true, ite_false, reduceIte, Nat.reduceEqDiff, Nat.reduceLeDiff, Nat.reduceLT, Nat.reduceAdd, reduceCtorEq, num, boo, str, ints, aV, aTab, aInst, aS, aT, aC, found, pairA, aFk, vT, rTab, rRow]) (by simp [cst, ends, ite_true, ite_false, reduceIte, Nat.reduceEqDiff, Nat.reduceLeDiff, Nat.reduceLT, Nat.reduceAdd, reduceCtorEq, num, boo, str, ints, aV, aTab, aInst, aS, aT, aC, found, pairA, aFk, vT, rTab, rRow])
      intro Q hQ j hj hji
      simp -implicitDefEqProofs only [cst, hL, hT, ↓steps, push_cast, reduceIte, Nat.reduceEqDiff, Nat.reduceAdd, Nat.reduceMul, Nat.reduceLT, Nat.reduceLeDiff, Int.reduceToNat, Int.reduceLE, Int.reduceLT, reduceCtorEq, tte, num, boo, str, ints, aV, aTab, aInst, aS, aT, aC, found, pairA, aFk, vT, rTab, rRow]
      refine bcase_intro (fun q => ?_) fun q => ?_
      · simp only [decide_eq_true_eq] at q
        have j' : j < W.length := by omega
        have hwj := wrap_succ j' (by omega)
        refine ⟨(by first | omega | trivial | (refine ⟨?_, ?_⟩ <;> first | omega | trivial | (refine ⟨?_, ?_⟩ <;> first | omega | trivial | (refine ⟨?_, ?_⟩ <;> first | omega | trivial | rfl)))), ?_⟩
        have hbad : badV (T.columns.getD j default) (W.getD j default) = true → num 4 = R := fun hb => by
          have : rowErr T W = 4 := by rw [hcW, bad_range (n := j) j' (by rw [hb]; rfl)]; rfl
          rw [← hE2 (by rw [this]; decide), this]
        have hgood : badV (T.columns.getD j default) (W.getD j default) = false → ∀ i, i < j + 1 → (!badV (T.columns.getD i default) (W.getD i default)) = true := fun hb i h2 => if h3 : i = j then by rw [h3, hb]; rfl else hji i (by omega)
        refine callx_of [[0, 0, 0]] [] rfl (c_rvalid (W.getD j default)) (by first | (simp; done) | (simp [rowsOf_length]; done) | (simp [rowsOf_length]; omega)) (by first | (simp only [ends, ite_true, ite_false, reduceIte, Nat.reduceEqDiff, Nat.reduceLeDiff, Nat.reduceLT, Nat.reduceAdd, reduceCtorEq, num, boo, str, ints, aV, aTab, aInst, aS, aT, aC, found, pairA, aFk, vT, rTab, rRow, num, boo, str, aE_eq, aV]; done) | simp [ends, ite_true, ite_false, reduceIte, Nat.reduceEqDiff, Nat.reduceLeDiff, Nat.reduceLT, Nat.reduceAdd, reduceCtorEq, num, boo, str, ints, aV, aTab, aInst, aS, aT, aC, found, pairA, aFk, vT, rTab, rRow, num, boo, str, aE_eq, aV]) (by first | rfl | (simp only [ends, ite_true, ite_false, reduceIte, Nat.reduceEqDiff, Nat.reduceLeDiff, Nat.reduceLT, Nat.reduceAdd, reduceCtorEq, num, boo, str, ints, aV, aTab, aInst, aS, aT, aC, found, pairA, aFk, vT, rTab, rRow, num, boo, str, aE_eq, aV]; done) | simp [ends, ite_true, ite_false, reduceIte, Nat.reduceEqDiff, Nat.reduceLeDiff, Nat.reduceLT, Nat.reduceAdd, reduceCtorEq, num, boo, str, ints, aV, aTab, aInst, aS, aT, aC, found, pairA, aFk, vT, rTab, rRow, num, boo, str, aE_eq, aV]) (by simp only [ends, ite_true, ite_false, reduceIte, Nat.reduceEqDiff, Nat.reduceLeDiff, Nat.reduceLT, Nat.reduceAdd, reduceCtorEq, num, boo, str, ints, aV, aTab, aInst, aS, aT, aC, found, pairA, aFk, vT, rTab, rRow]) (by simp [idsOk, lookO, updO, ren1]) ?_
        simp -implicitDefEqProofs only [hT, ↓steps, push_cast, reduceIte, Nat.reduceEqDiff, Nat.reduceAdd, Nat.reduceMul, Nat.reduceLT, Nat.reduceLeDiff, Int.reduceToNat, Int.reduceLE, Int.reduceLT, reduceCtorEq, tte, num, boo, str, ints, aV, aTab, aInst, aS, aT, aC, found, pairA, aFk, vT, rTab, rRow]
        refine bcase_intro (fun v1 => ?_) fun v1 => ?_
        · refine ⟨drawx_intro (by kernel_rfl), ?_⟩
          exact ret_d trivial (hbad (by rw [badV, v1, Bool.true_or])) (by simp only [ends, ite_true, ite_false, reduceIte, Nat.reduceEqDiff, Nat.reduceLeDiff, Nat.reduceLT, Nat.reduceAdd, reduceCtorEq, num, boo, str, ints, aV, aTab, aInst, aS, aT, aC, found, pairA, aFk, vT, rTab, rRow])
        refine ⟨by omega, ?_⟩
        refine bcase_intro (fun v2 => ?_) fun v2 => ?_
        · refine ⟨by omega, by omega, by omega, drawx_intro (by kernel_rfl), ?_⟩
          refine bcase_intro (fun v3 => ?_) fun v3 => ?_
          · exact ret_d trivial (hbad (by rw [badV, v2, v3]; simp)) (by simp only [ends, ite_true, ite_false, reduceIte, Nat.reduceEqDiff, Nat.reduceLeDiff, Nat.reduceLT, Nat.reduceAdd, reduceCtorEq, num, boo, str, ints, aV, aTab, aInst, aS, aT, aC, found, pairA, aFk, vT, rTab, rRow])
          · exact cnt_again hQ j rfl j' (hgood (by rw [badV, v1, v3]; simp)) (by simp only [hwj, ends, ite_true, ite_false, reduceIte, Nat.reduceEqDiff, Nat.reduceLeDiff, Nat.reduceLT, Nat.reduceAdd, reduceCtorEq, num, boo, str, ints, aV, aTab, aInst, aS, aT, aC, found, pairA, aFk, vT, rTab, rRow]) (by simp [hwj, ends, ite_true, ite_false, reduceIte, Nat.reduceEqDiff, Nat.reduceLeDiff, Nat.reduceLT, Nat.reduceAdd, reduceCtorEq, num, boo, str, ints, aV, aTab, aInst, aS, aT, aC, found, pairA, aFk, vT, rTab, rRow]) (by simp [hwj, ends, ite_true, ite_false, reduceIte, Nat.reduceEqDiff, Nat.reduceLeDiff, Nat.reduceLT, Nat.reduceAdd, reduceCtorEq, num, boo, str, ints, aV, aTab, aInst, aS, aT, aC, found, pairA, aFk, vT, rTab, rRow]) (by simp [hwj, ends, ite_true, ite_false, reduceIte, Nat.reduceEqDiff, Nat.reduceLeDiff, Nat.reduceLT, Nat.reduceAdd, reduceCtorEq, num, boo, str, ints, aV, aTab, aInst, aS, aT, aC, found, pairA, aFk, vT, rTab, rRow])
        · refine ⟨drawx_intro (by kernel_rfl), ?_⟩
          exact cnt_again hQ j rfl j' (hgood (by rw [badV, v1, v2]; simp)) (by simp only [hwj, ends, ite_true, ite_false, reduceIte, Nat.reduceEqDiff, Nat.reduceLeDiff, Nat.reduceLT, Nat.reduceAdd, reduceCtorEq, num, boo, str, ints, aV, aTab, aInst, aS, aT, aC, found, pairA, aFk, vT, rTab, rRow]) (by simp [hwj, ends, ite_true, ite_false, reduceIte, Nat.reduceEqDiff, Nat.reduceLeDiff, Nat.reduceLT, Nat.reduceAdd, reduceCtorEq, num, boo, str, ints, aV, aTab, aInst, aS, aT, aC, found, pairA, aFk, vT, rTab, rRow]) (by simp [hwj, ends, ite_true, ite_false, reduceIte, Nat.reduceEqDiff, Nat.reduceLeDiff, Nat.reduceLT, Nat.reduceAdd, reduceCtorEq, num, boo, str, ints, aV, aTab, aInst, aS, aT, aC, found, pairA, aFk, vT, rTab, rRow]) (by simp [hwj, ends, ite_true, ite_false, reduceIte, Nat.reduceEqDiff, Nat.reduceLeDiff, Nat.reduceLT, Nat.reduceAdd, reduceCtorEq, num, boo, str, ints, aV, aTab, aInst, aS, aT, aC, found, pairA, aFk, vT, rTab, rRow])
      · simp only [decide_eq_false_iff_not] at q
        obtain rfl : j = W.length := by omega
        have hz : rowErr T W = 0 := by rw [hcW, all_range.2 hji]; rfl
        exact cnt_again hJ k rfl k' (hzero2 hz) (by simp only [hwk, ends, ite_true, ite_false, reduceIte, Nat.reduceEqDiff, Nat.reduceLeDiff, Nat.reduceLT, Nat.reduceAdd, reduceCtorEq, num, boo, str, ints, aV, aTab, aInst, aS, aT, aC, found, pairA, aFk, vT, rTab, rRow]) (by simp [hwk, ends, ite_true, ite_false, reduceIte, Nat.reduceEqDiff, Nat.reduceLeDiff, Nat.reduceLT, Nat.reduceAdd, reduceCtorEq, num, boo, str, ints, aV, aTab, aInst, aS, aT, aC, found, pairA, aFk, vT, rTab, rRow]) (by simp [hwk, ends, ite_true, ite_false, reduceIte, Nat.reduceEqDiff, Nat.reduceLeDiff, Nat.reduceLT, Nat.reduceAdd, reduceCtorEq, num, boo, str, ints, aV, aTab, aInst, aS, aT, aC, found, pairA, aFk, vT, rTab, rRow]) (by simp [hwk, ends, ite_true, ite_false, reduceIte, Nat.reduceEqDiff, Nat.reduceLeDiff, Nat.reduceLT, Nat.reduceAdd, reduceCtorEq, num, boo, str, ints, aV, aTab, aInst, aS, aT, aC, found, pairA, aFk, vT, rTab, rRow])
    · simp only [decide_eq_false_iff_not] at g
      obtain rfl : k = L.length := by omega
      exact cnt_again hI n rfl h' (hzero (ferr_none (rowErr T) L hki)) (by simp only [hw, ends, ite_true, ite_false, reduceIte, Nat.reduceEqDiff, Nat.reduceLeDiff, Nat.reduceLT, Nat.reduceAdd, reduceCtorEq, num, boo, str, ints, aV, aTab, aInst, aS, aT, aC, found, pairA, aFk, vT, rTab, rRow]) (by simp [hw, ends, ite_true, ite_false, reduceIte, Nat.reduceEqDiff, Nat.reduceLeDiff, Nat.reduceLT, Nat.reduceAdd, reduceCtorEq, num, boo, str, ints, aV, aTab, aInst, aS, aT, aC, found, pairA, aFk, vT, rTab, rRow]) (by simp [hw, ends, ite_true, ite_false, reduceIte, Nat.reduceEqDiff, Nat.reduceLeDiff, Nat.reduceLT, Nat.reduceAdd, reduceCtorEq, num, boo, str, ints, aV, aTab, aInst, aS, aT, aC, found, pairA, aFk, vT, rTab, rRow]) (by simp [hw, ends, ite_true, ite_false, reduceIte, Nat.reduceEqDiff, Nat.reduceLeDiff, Nat.reduceLT, Nat.reduceAdd, reduceCtorEq, num, boo, str, ints, aV, aTab, aInst, aS, aT, aC, found, pairA, aFk, vT, rTab, rRow])
  · simp only [decide_eq_false_iff_not] at h
    obtain rfl : n = s.length := by omega
    exact ret_d trivial (by rw [← hr, hM, ferrN_none hii]; rfl) (by simp only [ends, ite_true, ite_false, reduceIte, Nat.reduceEqDiff, Nat.reduceLeDiff, Nat.reduceLT, Nat.reduceAdd, reduceCtorEq, num, boo, str, ints, aV, aTab, aInst, aS, aT, aC, found, pairA, aFk, vT, rTab, rRow])
end Go.Proofs.YtkccdfaelbepeaaDoor

namespace Go.Proofs.YtkccdfaelbepeaaDoor
open Go.Am
set_option linter.unusedVariables false
set_option maxRecDepth 100000
set_option maxHeartbeats 4000000

theorem smallS_of {s : Sch} (h : few03 s = true) : SmallS s := by
  simp only [few03, Bool.and_eq_true, decide_eq_true_eq, List.all_eq_true] at h
  refine ⟨by omega, fun t ht => ?_⟩
  have h2 := h.2 t ht
  simp only [fewT, fewT0, Bool.and_eq_true, decide_eq_true_eq, List.all_eq_true] at h2
  obtain ⟨⟨⟨⟨⟨a1, a2⟩, a3⟩, a4⟩, a5⟩, b1, b2, b3⟩ := h2
  exact ⟨by omega, by omega, by omega, fun u hu => by have := b3 u hu; omega, by omega, fun f hf => by have := b2 f hf; omega, by omega,
    fun e he => by have := b1 e he; simp only [fewE, Bool.and_eq_true] at this; exact few_ok e 0 this.1⟩
theorem smallI_of {i : Inst} (h : few08 i = true) : SmallI i := by
  simp only [few08, few07, Bool.and_eq_true, decide_eq_true_eq, List.all_eq_true] at h
  exact ⟨by omega, fun l hl => by have := (h.2 l hl).1; omega, fun l hl r hr => by have := (h.2 l hl).2 r hr; omega⟩
theorem fits_nil : fitsM [] [[]] = 9 := by
  have h1 : validS [] = 0 := by decide
  rw [fitsM, h1]; rfl
theorem c_law (s : Sch) (inst : Inst) : ACall Tryd.prog 3 [aS s, aInst inst] [] (boo true) [] := by
  refine ACall.enter mixed ttok Tryd.func3 rfl rfl _ Tryd.ntmps3 (Nat.le_of_ble_eq_true rfl) (by kernel_rfl) _ (congrArg Array.toList Tryd.results3) ?_
  generalize hr : boo true = R
  simp -implicitDefEqProofs only [argT, ↓steps, push_cast, reduceIte, Nat.reduceEqDiff, Nat.reduceAdd, Nat.reduceMul, Nat.reduceLT, Nat.reduceLeDiff, Int.reduceToNat, Int.reduceLE, Int.reduceLT, reduceCtorEq, tte, num, boo, str, ints, aV, aTab, aInst, aS, aT, aC, found, pairA, aFk, vT, rTab, rRow]
  refine callx_of [[6]] [] rfl (c_few03 s) (by first | (simp; done) | (simp [rowsOf_length]; done) | (simp [rowsOf_length]; omega)) (by first | (simp only [ends, ite_true, ite_false, reduceIte, Nat.reduceEqDiff, Nat.reduceLeDiff, Nat.reduceLT, Nat.reduceAdd, reduceCtorEq, num, boo, str, ints, aV, aTab, aInst, aS, aT, aC, found, pairA, aFk, vT, rTab, rRow, num, boo, str, aE_eq, aV]; done) | simp [ends, ite_true, ite_false, reduceIte, Nat.reduceEqDiff, Nat.reduceLeDiff, Nat.reduceLT, Nat.reduceAdd, reduceCtorEq, num, boo, str, ints, aV, aTab, aInst, aS, aT, aC, found, pairA, aFk, vT, rTab, rRow, num, boo, str, aE_eq, aV]) (by first | rfl | (simp only [ends, ite_true, ite_false, reduceIte, Nat.reduceEqDiff, Nat.reduceLeDiff, Nat.reduceLT, Nat.reduceAdd, reduceCtorEq, num, boo, str, ints, aV, aTab, aInst, aS, aT, aC, found, pairA, aFk, vT, rTab, rRow, num, boo, str, aE_eq, aV]; done) | simp [ends, ite_true, ite_false, reduceIte, Nat.reduceEqDiff, Nat.reduceLeDiff, Nat.reduceLT, Nat.reduceAdd, reduceCtorEq, num, boo, str, ints, aV, aTab, aInst, aS, aT, aC, found, pairA, aFk, vT, rTab, rRow, num, boo, str, aE_eq, aV]) (by simp only [ends, ite_true, ite_false, reduceIte, Nat.reduceEqDiff, Nat.reduceLeDiff, Nat.reduceLT, Nat.reduceAdd, reduceCtorEq, num, boo, str, ints, aV, aTab, aInst, aS, aT, aC, found, pairA, aFk, vT, rTab, rRow]) (by simp [idsOk, lookO, updO, ren1]) ?_
  simp -implicitDefEqProofs only [↓steps, push_cast, reduceIte, Nat.reduceEqDiff, Nat.reduceAdd, Nat.reduceMul, Nat.reduceLT, Nat.reduceLeDiff, Int.reduceToNat, Int.reduceLE, Int.reduceLT, reduceCtorEq, tte, num, boo, str, ints, aV, aTab, aInst, aS, aT, aC, found, pairA, aFk, vT, rTab, rRow]
  refine bcase_intro (fun h1 => ?_) fun h1 => ?_
  · exact ret_d trivial hr (by simp only [ends, ite_true, ite_false, reduceIte, Nat.reduceEqDiff, Nat.reduceLeDiff, Nat.reduceLT, Nat.reduceAdd, reduceCtorEq, num, boo, str, ints, aV, aTab, aInst, aS, aT, aC, found, pairA, aFk, vT, rTab, rRow])
  have h1' : few03 s = true := by simpa using h1
  refine callx_of [[1]] [] rfl (c_few08 inst) (by first | (simp; done) | (simp [rowsOf_length]; done) | (simp [rowsOf_length]; omega)) (by first | (simp only [ends, ite_true, ite_false, reduceIte, Nat.reduceEqDiff, Nat.reduceLeDiff, Nat.reduceLT, Nat.reduceAdd, reduceCtorEq, num, boo, str, ints, aV, aTab, aInst, aS, aT, aC, found, pairA, aFk, vT, rTab, rRow, num, boo, str, aE_eq, aV]; done) | simp [ends, ite_true, ite_false, reduceIte, Nat.reduceEqDiff, Nat.reduceLeDiff, Nat.reduceLT, Nat.reduceAdd, reduceCtorEq, num, boo, str, ints, aV, aTab, aInst, aS, aT, aC, found, pairA, aFk, vT, rTab, rRow, num, boo, str, aE_eq, aV]) (by first | rfl | (simp only [ends, ite_true, ite_false, reduceIte, Nat.reduceEqDiff, Nat.reduceLeDiff, Nat.reduceLT, Nat.reduceAdd, reduceCtorEq, num, boo, str, ints, aV, aTab, aInst, aS, aT, aC, found, pairA, aFk, vT, rTab, rRow, num, boo, str, aE_eq, aV]; done) | simp [ends, ite_true, ite_false, reduceIte, Nat.reduceEqDiff, Nat.reduceLeDiff, Nat.reduceLT, Nat.reduceAdd, reduceCtorEq, num, boo, str, ints, aV, aTab, aInst, aS, aT, aC, found, pairA, aFk, vT, rTab, rRow, num, boo, str, aE_eq, aV]) (by simp only [ends, ite_true, ite_false, reduceIte, Nat.reduceEqDiff, Nat.reduceLeDiff, Nat.reduceLT, Nat.reduceAdd, reduceCtorEq, num, boo, str, ints, aV, aTab, aInst, aS, aT, aC, found, pairA, aFk, vT, rTab, rRow]) (by simp [idsOk, lookO, updO, ren1]) ?_
  simp -implicitDefEqProofs only [↓steps, push_cast, reduceIte, Nat.reduceEqDiff, Nat.reduceAdd, Nat.reduceMul, Nat.reduceLT, Nat.reduceLeDiff, Int.reduceToNat, Int.reduceLE, Int.reduceLT, reduceCtorEq, tte, num, boo, str, ints, aV, aTab, aInst, aS, aT, aC, found, pairA, aFk, vT, rTab, rRow]
  refine bcase_intro (fun h2 => ?_) fun h2 => ?_
  · exact ret_d trivial hr (by simp only [ends, ite_true, ite_false, reduceIte, Nat.reduceEqDiff, Nat.reduceLeDiff, Nat.reduceLT, Nat.reduceAdd, reduceCtorEq, num, boo, str, ints, aV, aTab, aInst, aS, aT, aC, found, pairA, aFk, vT, rTab, rRow])
  have h2' : few08 inst = true := by simpa using h2
  have hs := smallS_of h1'
  have hi := smallI_of h2'
  refine callx_of [[6], [1]] [] rfl (c_fits s inst hs hi) (by first | (simp; done) | (simp [rowsOf_length]; done) | (simp [rowsOf_length]; omega)) (by first | (simp only [ends, ite_true, ite_false, reduceIte, Nat.reduceEqDiff, Nat.reduceLeDiff, Nat.reduceLT, Nat.reduceAdd, reduceCtorEq, num, boo, str, ints, aV, aTab, aInst, aS, aT, aC, found, pairA, aFk, vT, rTab, rRow, num, boo, str, aE_eq, aV]; done) | simp [ends, ite_true, ite_false, reduceIte, Nat.reduceEqDiff, Nat.reduceLeDiff, Nat.reduceLT, Nat.reduceAdd, reduceCtorEq, num, boo, str, ints, aV, aTab, aInst, aS, aT, aC, found, pairA, aFk, vT, rTab, rRow, num, boo, str, aE_eq, aV]) (by first | rfl | (simp only [ends, ite_true, ite_false, reduceIte, Nat.reduceEqDiff, Nat.reduceLeDiff, Nat.reduceLT, Nat.reduceAdd, reduceCtorEq, num, boo, str, ints, aV, aTab, aInst, aS, aT, aC, found, pairA, aFk, vT, rTab, rRow, num, boo, str, aE_eq, aV]; done) | simp [ends, ite_true, ite_false, reduceIte, Nat.reduceEqDiff, Nat.reduceLeDiff, Nat.reduceLT, Nat.reduceAdd, reduceCtorEq, num, boo, str, ints, aV, aTab, aInst, aS, aT, aC, found, pairA, aFk, vT, rTab, rRow, num, boo, str, aE_eq, aV]) (by simp only [ends, ite_true, ite_false, reduceIte, Nat.reduceEqDiff, Nat.reduceLeDiff, Nat.reduceLT, Nat.reduceAdd, reduceCtorEq, num, boo, str, ints, aV, aTab, aInst, aS, aT, aC, found, pairA, aFk, vT, rTab, rRow]) (by simp [idsOk, lookO, updO, ren1]) ?_
  simp -implicitDefEqProofs only [↓steps, push_cast, reduceIte, Nat.reduceEqDiff, Nat.reduceAdd, Nat.reduceMul, Nat.reduceLT, Nat.reduceLeDiff, Int.reduceToNat, Int.reduceLE, Int.reduceLT, reduceCtorEq, tte, num, boo, str, ints, aV, aTab, aInst, aS, aT, aC, found, pairA, aFk, vT, rTab, rRow]
  refine callx_of [[6], [1]] [] rfl (c_rfits s inst hs hi) (by first | (simp; done) | (simp [rowsOf_length]; done) | (simp [rowsOf_length]; omega)) (by first | (simp only [ends, ite_true, ite_false, reduceIte, Nat.reduceEqDiff, Nat.reduceLeDiff, Nat.reduceLT, Nat.reduceAdd, reduceCtorEq, num, boo, str, ints, aV, aTab, aInst, aS, aT, aC, found, pairA, aFk, vT, rTab, rRow, num, boo, str, aE_eq, aV]; done) | simp [ends, ite_true, ite_false, reduceIte, Nat.reduceEqDiff, Nat.reduceLeDiff, Nat.reduceLT, Nat.reduceAdd, reduceCtorEq, num, boo, str, ints, aV, aTab, aInst, aS, aT, aC, found, pairA, aFk, vT, rTab, rRow, num, boo, str, aE_eq, aV]) (by first | rfl | (simp only [ends, ite_true, ite_false, reduceIte, Nat.reduceEqDiff, Nat.reduceLeDiff, Nat.reduceLT, Nat.reduceAdd, reduceCtorEq, num, boo, str, ints, aV, aTab, aInst, aS, aT, aC, found, pairA, aFk, vT, rTab, rRow, num, boo, str, aE_eq, aV]; done) | simp [ends, ite_true, ite_false, reduceIte, Nat.reduceEqDiff, Nat.reduceLeDiff, Nat.reduceLT, Nat.reduceAdd, reduceCtorEq, num, boo, str, ints, aV, aTab, aInst, aS, aT, aC, found, pairA, aFk, vT, rTab, rRow, num, boo, str, aE_eq, aV]) (by simp only [ends, ite_true, ite_false, reduceIte, Nat.reduceEqDiff, Nat.reduceLeDiff, Nat.reduceLT, Nat.reduceAdd, reduceCtorEq, num, boo, str, ints, aV, aTab, aInst, aS, aT, aC, found, pairA, aFk, vT, rTab, rRow]) (by simp [idsOk, lookO, updO, ren1]) ?_
  simp -implicitDefEqProofs only [↓steps, push_cast, reduceIte, Nat.reduceEqDiff, Nat.reduceAdd, Nat.reduceMul, Nat.reduceLT, Nat.reduceLeDiff, Int.reduceToNat, Int.reduceLE, Int.reduceLT, reduceCtorEq, tte, num, boo, str, ints, aV, aTab, aInst, aS, aT, aC, found, pairA, aFk, vT, rTab, rRow]
  refine callx_of [[6], [1]] [] rfl (c_fits [] [[]] ⟨by simp, fun _ h => by simp at h⟩ ⟨by simp, fun l h => by simp at h; simp [h], fun l h r hr => by simp at h; simp [h] at hr⟩) (by first | (simp; done) | (simp [rowsOf_length]; done) | (simp [rowsOf_length]; omega)) (by first | (simp only [ends, ite_true, ite_false, reduceIte, Nat.reduceEqDiff, Nat.reduceLeDiff, Nat.reduceLT, Nat.reduceAdd, reduceCtorEq, num, boo, str, ints, aV, aTab, aInst, aS, aT, aC, found, pairA, aFk, vT, rTab, rRow, num, boo, str, aE_eq, aV]; done) | simp [ends, ite_true, ite_false, reduceIte, Nat.reduceEqDiff, Nat.reduceLeDiff, Nat.reduceLT, Nat.reduceAdd, reduceCtorEq, num, boo, str, ints, aV, aTab, aInst, aS, aT, aC, found, pairA, aFk, vT, rTab, rRow, num, boo, str, aE_eq, aV]) (by first | rfl | (simp only [ends, ite_true, ite_false, reduceIte, Nat.reduceEqDiff, Nat.reduceLeDiff, Nat.reduceLT, Nat.reduceAdd, reduceCtorEq, num, boo, str, ints, aV, aTab, aInst, aS, aT, aC, found, pairA, aFk, vT, rTab, rRow, num, boo, str, aE_eq, aV]; done) | simp [ends, ite_true, ite_false, reduceIte, Nat.reduceEqDiff, Nat.reduceLeDiff, Nat.reduceLT, Nat.reduceAdd, reduceCtorEq, num, boo, str, ints, aV, aTab, aInst, aS, aT, aC, found, pairA, aFk, vT, rTab, rRow, num, boo, str, aE_eq, aV]) (by simp only [ends, ite_true, ite_false, reduceIte, Nat.reduceEqDiff, Nat.reduceLeDiff, Nat.reduceLT, Nat.reduceAdd, reduceCtorEq, num, boo, str, ints, aV, aTab, aInst, aS, aT, aC, found, pairA, aFk, vT, rTab, rRow]) (by simp [idsOk, lookO, updO, ren1]) ?_
  rw [fits_nil]
  simp -implicitDefEqProofs only [↓steps, push_cast, reduceIte, Nat.reduceEqDiff, Nat.reduceAdd, Nat.reduceMul, Nat.reduceLT, Nat.reduceLeDiff, Int.reduceToNat, Int.reduceLE, Int.reduceLT, reduceCtorEq, tte, num, boo, str, ints, aV, aTab, aInst, aS, aT, aC, found, pairA, aFk, vT, rTab, rRow]
  refine ⟨drawx_intro (by kernel_rfl), ?_⟩
  exact ret_d trivial hr (by simp only [ends, ite_true, ite_false, reduceIte, Nat.reduceEqDiff, Nat.reduceLeDiff, Nat.reduceLT, Nat.reduceAdd, reduceCtorEq, num, boo, str, ints, aV, aTab, aInst, aS, aT, aC, found, pairA, aFk, vT, rTab, rRow])
end Go.Proofs.YtkccdfaelbepeaaDoor
