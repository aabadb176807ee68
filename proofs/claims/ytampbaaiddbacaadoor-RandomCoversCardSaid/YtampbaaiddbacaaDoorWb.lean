/- Each operation of expressions with operands, and each operator of queries, stands at the root for some tape: a proof over an abstract machine of our own (part Wb) -/
import Derived.Test.YtampbaaiddbacaaDoorWa
import Derived.Test.YtampbaaiddbacaaDoorLd
import Derived.Test.YtampbaaiddbacaaDoorLe
set_option linter.all false
namespace Go.Proofs.YtampbaaiddbacaaDoor
open Go.Am
attribute [local simp, local push_cast] num boo str ints aV aTab aInst aS aT aC
set_option linter.unusedVariables false
set_option maxRecDepth 100000
set_option maxHeartbeats 4000000
theorem c_ne (x t : Int) : ACall Tryd.prog 88 [num x, .ptr 1000 0] [(1000, .var [num t])] (boo (x != t)) [(1000, .var [num t])] := by
  refine enterq mixed ttok Tryd.func88 Tryd.ntmps88 Tryd.results88 ?_
  generalize hr : boo (x != t) = R
  simp -implicitDefEqProofs only [argT, ↓steps, push_cast, simprocAttr, tte]
  refine retx_of [0] rfl (by simp) (by simp [rowsOf_length] <;> omega) ?_ (by first | rfl | simp [ends] | (subst_vars; simp [ends])) (by simp [ends]) (by simp [ends])
  exact hr
theorem c_idxN (l : List Int) (t : Int) (hl : l.length ≤ 1000000000) :
    ACall Tryd.prog 73 [ints l, .clo 88 [.ptr 1000 0]] [(1000, .var [num t])] (num (fidx (fun x => x != t) l)) [(1000, .var [num t])] := by
  refine enterq mixed ttok Tryd.func73 Tryd.ntmps73 Tryd.results73 ?_
  generalize hr : num (fidx (fun x => x != t) l) = R
  simp -implicitDefEqProofs only [argT, ↓steps, push_cast, simprocAttr, tte]
  refine loop_count mixed ttok 8 [0, 1, 6, 7] [1000] (by simp only [pickT, ends, push_cast, simprocAttr]; rfl) (by simp only [pickO, consO_some, ends, push_cast, simprocAttr]; rfl) l.length (fun n => ∀ i, i < n → (l.getD i default != t) = false) (fun _ => []) (fun _ => []) (fun i h => absurd h (Nat.not_lt_zero _)) ?_ ?_
  · exact Weak.keepL (by simp [cst, ends]) (by simp [cst, ends]) (by simp [cst, ends])
  intro I hI n hn hi
  simp -implicitDefEqProofs only [cst, ↓steps, push_cast, simprocAttr, tte]
  refine bcase_intro (fun h => ?_) fun h => ?_
  · simp only [decide_eq_true_eq] at h
    have h' : n < l.length := by omega
    have hw := wrap_succ h' (by omega)
    refine ⟨(by first | omega | trivial | (refine ⟨?_, ?_⟩ <;> first | omega | trivial | (refine ⟨?_, ?_⟩ <;> first | omega | trivial | (refine ⟨?_, ?_⟩ <;> first | omega | trivial | rfl)))), ?_⟩
    refine callq [[0], []] [(1000, 1000)] (c_ne (l.getD n default) t) ?_
    simp -implicitDefEqProofs only [↓steps, push_cast, simprocAttr, tte]
    refine bcase_intro (fun g => ?_) fun g => ?_
    · refine retx_of [0] rfl (by simp) (by simp [rowsOf_length] <;> omega) ?_ (by first | rfl | simp [ends] | (subst_vars; simp [ends])) (by simp [ends]) (by simp [ends])
      rw [← hr, fidx_at _ l n h' hi g]; rfl
    · exact cnt_again hI n rfl h' (fun i h2 => if h3 : i = n then by rw [h3]; exact g else hi i (by omega)) (by simp [hw, ends]) (by simp [hw, ends]) (by simp [hw, ends]) (by simp [hw, ends])
  · simp only [decide_eq_false_iff_not] at h
    obtain rfl : n = l.length := by omega
    refine retx_of [0] rfl (by simp) (by simp [rowsOf_length] <;> omega) ?_ (by first | rfl | simp [ends] | (subst_vars; simp [ends])) (by simp [ends]) (by simp [ends])
    rw [← hr, fidx_none _ l hi]; rfl
theorem c_containsN (l : List Int) (t : Int) (hl : l.length ≤ 1000000000) :
    ACall Tryd.prog 61 [ints l, .clo 88 [.ptr 1000 0]] [(1000, .var [num t])] (boo (l.any fun x => x != t)) [(1000, .var [num t])] := by
  refine enterq mixed ttok Tryd.func61 Tryd.ntmps61 Tryd.results61 ?_
  generalize hr : boo (l.any fun x => x != t) = R
  simp -implicitDefEqProofs only [argT, ↓steps, push_cast, simprocAttr, tte]
  refine callq [[1], []] [(1000, 1000)] (c_idxN l t hl) ?_
  simp -implicitDefEqProofs only [↓steps, push_cast, simprocAttr, tte]
  refine retx_of [0] rfl (by simp) (by simp [rowsOf_length] <;> omega) ?_ (by first | rfl | simp [ends] | (subst_vars; simp [ends])) (by simp [ends]) (by simp [ends])
  rw [← hr, ← any_fidx]; rfl
theorem c_every (l : List Int) (t : Int) (hl : l.length ≤ 1000000000) : ACall Tryd.prog 87 [num t, ints l] [] (boo (l.all fun x => x == t)) [] := by
  refine enterq mixed ttok Tryd.func87 Tryd.ntmps87 Tryd.results87 ?_
  generalize hr : boo (l.all fun x => x == t) = R
  simp -implicitDefEqProofs only [argT, ↓steps, push_cast, simprocAttr, tte]
  refine callq [[1], []] [(1000, 2)] (c_containsN l t hl) ?_
  simp -implicitDefEqProofs only [↓steps, push_cast, simprocAttr, tte]
  have : (l.all fun x => x == t) = !(l.any fun x => x != t) := by
    rw [List.not_any_eq_all_not]; simp [bne]
  exact ret_d trivial (by rw [← hr, this]; rfl) (by simp [ends])
def fitM (o : OpD) (l : List Int) : Bool :=
  if o.types = 1 then l.all (fun x => x == 1) else if o.types = 2 then l.all (fun x => x == 3) else if o.types = 3 then l.all (fun x => x == 2)
  else if o.types = 4 then l.all (fun x => x == l.getD 0 default) else if o.types = 6 then (l.getD 0 default == 2) && (l.getD 1 default == l.getD 2 default) else true
theorem c_fit (o : OpD) (l : List Int) (hl : l.length ≤ 1000000000) (h4 : o.types = 4 → 0 < l.length) (h6 : o.types = 6 → l.length = 3) : ACall Tryd.prog 77 [aOp o, ints l] [] (boo (fitM o l)) [] := by
  refine enterq mixed ttok Tryd.func77 Tryd.ntmps77 Tryd.results77 ?_
  generalize hr : boo (fitM o l) = R
  simp -implicitDefEqProofs only [argT, aOp, ↓steps, push_cast, simprocAttr, tte]
  refine bcase_intro (fun k1 => ?_) fun k1 => ?_
  · have hk : o.types = 1 := by simpa using k1
    have hM : fitM o l = l.all (fun x => x == 1) := by rw [fitM, if_pos hk]
    refine callq [[0], [1]] [] (c_every l 1 hl) ?_
    simp -implicitDefEqProofs only [↓steps, push_cast, simprocAttr, tte]
    exact ret_d trivial (by rw [← hr, hM]; rfl) (by simp [ends])
  have hk1 : ¬ o.types = 1 := by simpa using k1
  refine bcase_intro (fun k2 => ?_) fun k2 => ?_
  · have hk : o.types = 2 := by simpa using k2
    have hM : fitM o l = l.all (fun x => x == 3) := by rw [fitM, if_neg hk1, if_pos hk]
    refine callq [[0], [1]] [] (c_every l 3 hl) ?_
    simp -implicitDefEqProofs only [↓steps, push_cast, simprocAttr, tte]
    exact ret_d trivial (by rw [← hr, hM]; rfl) (by simp [ends])
  have hk2 : ¬ o.types = 2 := by simpa using k2
  refine bcase_intro (fun k3 => ?_) fun k3 => ?_
  · have hk : o.types = 3 := by simpa using k3
    have hM : fitM o l = l.all (fun x => x == 2) := by rw [fitM, if_neg hk1, if_neg hk2, if_pos hk]
    refine callq [[0], [1]] [] (c_every l 2 hl) ?_
    simp -implicitDefEqProofs only [↓steps, push_cast, simprocAttr, tte]
    exact ret_d trivial (by rw [← hr, hM]; rfl) (by simp [ends])
  have hk3 : ¬ o.types = 3 := by simpa using k3
  refine bcase_intro (fun k4 => ?_) fun k4 => ?_
  · have hk : o.types = 4 := by simpa using k4
    have hM : fitM o l = l.all (fun x => x == l.getD 0 default) := by rw [fitM, if_neg hk1, if_neg hk2, if_neg hk3, if_pos hk]
    have := h4 hk
    refine ⟨(by first | omega | trivial | (refine ⟨?_, ?_⟩ <;> first | omega | trivial | (refine ⟨?_, ?_⟩ <;> first | omega | trivial | (refine ⟨?_, ?_⟩ <;> first | omega | trivial | rfl)))), ?_⟩
    refine callq [[0], [1]] [] (c_every l (l.getD 0 default) hl) ?_
    simp -implicitDefEqProofs only [↓steps, push_cast, simprocAttr, tte]
    exact ret_d trivial (by rw [← hr, hM]; rfl) (by simp [ends])
  have hk4 : ¬ o.types = 4 := by simpa using k4
  refine bcase_intro (fun k6 => ?_) fun k6 => ?_
  · have hk : o.types = 6 := by simpa using k6
    have hM : fitM o l = ((l.getD 0 default == 2) && (l.getD 1 default == l.getD 2 default)) := by rw [fitM, if_neg hk1, if_neg hk2, if_neg hk3, if_neg hk4, if_pos hk]
    have := h6 hk
    refine ⟨(by first | omega | trivial | (refine ⟨?_, ?_⟩ <;> first | omega | trivial | (refine ⟨?_, ?_⟩ <;> first | omega | trivial | (refine ⟨?_, ?_⟩ <;> first | omega | trivial | rfl)))), ?_⟩
    refine bcase_intro (fun g => ?_) fun g => ?_
    · refine ⟨(by first | omega | trivial | (refine ⟨?_, ?_⟩ <;> first | omega | trivial | (refine ⟨?_, ?_⟩ <;> first | omega | trivial | (refine ⟨?_, ?_⟩ <;> first | omega | trivial | rfl)))), (by first | omega | trivial | (refine ⟨?_, ?_⟩ <;> first | omega | trivial | (refine ⟨?_, ?_⟩ <;> first | omega | trivial | (refine ⟨?_, ?_⟩ <;> first | omega | trivial | rfl)))), drawx_intro (by kernel_rfl), ?_⟩
      exact ret_d trivial (by rw [← hr, hM, g, Bool.true_and]; rfl) (by simp [ends])
    · refine ⟨drawx_intro (by kernel_rfl), ?_⟩
      exact ret_d trivial (by rw [← hr, hM, g, Bool.false_and]; rfl) (by simp [ends])
  · have hk6 : ¬ o.types = 6 := by simpa using k6
    have hM : fitM o l = true := by rw [fitM, if_neg hk1, if_neg hk2, if_neg hk3, if_neg hk4, if_neg hk6]
    exact ret_d trivial (by rw [← hr, hM]; rfl) (by simp [ends])
end Go.Proofs.YtampbaaiddbacaaDoor
namespace Go.Proofs.YtampbaaiddbacaaDoor
open Go.Am
attribute [local simp, local push_cast] num boo str ints aV aTab aInst aS aT aC aOp
set_option linter.unusedVariables false
set_option maxRecDepth 100000
set_option maxHeartbeats 4000000
def isTypeM (k : Int) : Bool := (k == 1 || k == 2) || k == 3
/-- The type of an expression whose operands have types, or the error. -/
def ownM (ts : List Int) (e : Ex) (l : List Int) : Int × Int :=
  if (!isOp e.op || !cleanM e) then (0, 1)
  else if !countM e then (0, 9)
  else if (e.op == 5 && (decide (e.col < 0) || decide (e.col ≥ ts.length))) then (0, 3)
  else if ((e.op == 5 && !isTypeM (ts.getD e.col.toNat default)) || !fitM (findM e.op) l) then (0, 4)
  else if e.op == 5 then (ts.getD e.col.toNat default, 0)
  else if e.op == 1 then (e.type, 0)
  else if (findM e.op).own == 0 then (l.getD (l.length - 1) default, 0)
  else ((findM e.op).own, 0)
def typK (f : Ex → List Int → Int × Int) (e : Ex) (rs : List (Int × Int)) : Int × Int := if ferr Prod.snd rs = 0 then f e (rs.map Prod.fst) else (0, ferr Prod.snd rs)
mutual
def typG (f : Ex → List Int → Int × Int) : Ex → Int × Int
  | .mk a b c d g ks => typK f (.mk a b c d g ks) (typL f ks)
def typL (f : Ex → List Int → Int × Int) : List Ex → List (Int × Int)
  | [] => []
  | e :: l => typG f e :: typL f l
end
theorem typL_eq (f : Ex → List Int → Int × Int) : ∀ l, typL f l = l.map (typG f)
  | [] => rfl
  | e :: l => by rw [typL, typL_eq f l]; rfl
theorem typG_eq (f : Ex → List Int → Int × Int) (e : Ex) : typG f e = typK f e (e.kids.map (typG f)) := by cases e; rw [typG, typL_eq]; rfl
theorem ferr_map {α β : Type} (g : β → Int) (h : α → β) : ∀ l : List α, ferr g (l.map h) = ferr (fun x => g (h x)) l
  | [] => rfl
  | x :: l => by simp only [List.map_cons, ferr, ferr_map g h l]
theorem ferr_at {α : Type} [Inhabited α] (g : α → Int) : ∀ (l : List α) (n : Nat), n < l.length → (∀ i, i < n → g (l.getD i default) = 0) → g (l.getD n default) ≠ 0 → ferr g l = g (l.getD n default)
  | [], n, h, _, _ => by simp at h
  | x :: l, 0, _, _, hg => by simp at hg; simp [ferr, hg]
  | x :: l, n + 1, h, hb, hg => by
    have h0 := hb 0 (by omega)
    simp at h0
    simp only [ferr, h0, if_true]
    rw [ferr_at g l n (by simpa using h) (fun i hi => by simpa using hb (i + 1) (by omega)) (by simpa using hg)]
    simp
theorem ferr_none {α : Type} [Inhabited α] (g : α → Int) : ∀ (l : List α), (∀ i, i < l.length → g (l.getD i default) = 0) → ferr g l = 0
  | [], _ => rfl
  | x :: l, hb => by
    have h0 := hb 0 (by simp)
    simp at h0
    simp only [ferr, h0, if_true]
    exact ferr_none g l (fun i hi => by simpa using hb (i + 1) (by simpa using hi))
/-- The types of operands, up to a place. -/
def tysTo (f : Ex → List Int → Int × Int) (e : Ex) (n : Nat) : List Int := (e.kids.take n).map fun k => (typG f k).1
theorem tysTo_length (f : Ex → List Int → Int × Int) (e : Ex) (n : Nat) (h : n ≤ e.kids.length) : (tysTo f e n).length = n := by simp [tysTo]; omega
theorem tysTo_succ (f : Ex → List Int → Int × Int) (e : Ex) (n : Nat) (h : n < e.kids.length) : tysTo f e (n + 1) = tysTo f e n ++ [(typG f (e.kids.getD n default)).1] := by rw [tysTo, take_snoc _ _ h, List.map_append]; rfl
def pairA (p : Int × Int) : A := .tup [num p.1, num p.2]
/-- Facts of the table. -/
theorem tab_alike : ∀ op : Int, isOp op = true → (findM op).types = 4 → 2 ≤ (findM op).kids := by
  have h : (List.range 29).all (fun n => !decide ((opTab.getD n default).types = 4) || decide (2 ≤ (opTab.getD n default).kids)) = true := by decide
  intro op ho ht
  rw [findM, ho, if_pos rfl, opAt] at ht ⊢
  simp only [isOp, Bool.and_eq_true, decide_eq_true_eq] at ho
  have := all_range.1 h op.toNat (by omega)
  rw [ht] at this
  simpa using this
theorem tab_choice : ∀ op : Int, isOp op = true → (findM op).types = 6 → (findM op).kids = 3 ∧ op ≠ 28 := by
  have h : (List.range 29).all (fun n => !decide ((opTab.getD n default).types = 6) || (decide ((opTab.getD n default).kids = 3) && decide (n ≠ 28))) = true := by decide
  intro op ho ht
  rw [findM, ho, if_pos rfl, opAt] at ht ⊢
  simp only [isOp, Bool.and_eq_true, decide_eq_true_eq] at ho
  have := all_range.1 h op.toNat (by omega)
  rw [ht] at this
  simp only [decide_true, Bool.not_true, Bool.false_or, Bool.and_eq_true, decide_eq_true_eq] at this
  exact ⟨this.1, by omega⟩
theorem tab_own : ∀ op : Int, isOp op = true → (findM op).own = 0 → op = 1 ∨ op = 5 ∨ 1 ≤ (findM op).kids := by
  have h : (List.range 29).all (fun n => !decide ((opTab.getD n default).own = 0) || (decide (n = 0) || decide (n = 1) || decide (n = 5) || decide (1 ≤ (opTab.getD n default).kids))) = true := by decide
  intro op ho ht
  rw [findM, ho, if_pos rfl, opAt] at ht ⊢
  simp only [isOp, Bool.and_eq_true, decide_eq_true_eq] at ho
  have := all_range.1 h op.toNat (by omega)
  rw [ht] at this
  simp only [decide_true, Bool.not_true, Bool.false_or, Bool.or_eq_true, decide_eq_true_eq] at this
  omega
theorem count_kids {e : Ex} (h : countM e = true) : (findM e.op).kids ≤ e.kids.length ∧ (e.op ≠ 28 → (e.kids.length : Int) = (findM e.op).kids) := by
  simp only [countM, Bool.and_eq_true, Bool.or_eq_true, beq_iff_eq, decide_eq_true_eq] at h
  omega
theorem c_typ (ts : List Int) (hts : ts.length ≤ 1000000000) : ∀ e : Ex, Ok12 e → ACall Tryd.prog 65 [ints ts, aE e] [] (pairA (typG (ownM ts) e)) [] :=
  ex_ind (p := fun e => Ok12 e → ACall Tryd.prog 65 [ints ts, aE e] [] (pairA (typG (ownM ts) e)) []) fun e ih ho => by
  refine enterq mixed ttok Tryd.func65 Tryd.ntmps65 Tryd.results65 ?_
  generalize hr : pairA (typG (ownM ts) e) = R
  have hl := ho.kids
  simp -implicitDefEqProofs only [argT, ↓steps, push_cast, simprocAttr, tte]
  refine loop_count mixed ttok 17 [0, 3, 15, 16] [3] (by simp only [pickT, ends, push_cast, simprocAttr]; rfl) (by simp only [pickO, consO_some, ends, push_cast, simprocAttr]; rfl) e.kids.length (fun n => ∀ i, i < n → (typG (ownM ts) (e.kids.getD i default)).2 = 0) (fun n => [(6, .vec 500 n)]) (fun n => [(500, .vec 3 1 (rowsOf rI (tysTo (ownM ts) e n)) 0)]) (fun i h => absurd h (Nat.not_lt_zero _)) ?_ ?_
  · exact (Weak.nilL 6 500 3 1 rfl rfl).trans (Weak.keepL (by simp [cst, ends]) (by simp [cst, tysTo, ends]) (by simp [cst, ends]))
  intro I hI n hn hi
  have hl2 := tysTo_length (ownM ts) e n hn
  simp -implicitDefEqProofs only [cst, ↓steps, push_cast, simprocAttr, tte]
  refine bcase_intro (fun h => ?_) fun h => ?_
  · simp only [decide_eq_true_eq] at h
    have h' : n < e.kids.length := by omega
    have hw := wrap_succ h' (by omega)
    have hs := tysTo_succ (ownM ts) e n h'
    refine ⟨(by first | omega | trivial | (refine ⟨?_, ?_⟩ <;> first | omega | trivial | (refine ⟨?_, ?_⟩ <;> first | omega | trivial | (refine ⟨?_, ?_⟩ <;> first | omega | trivial | rfl)))), ?_⟩
    refine callq [[1], [0, 0, 0, 0, 0, 6]] [] (ih _ (getD_mem h') (ho.kid (getD_mem h'))) ?_
    simp -implicitDefEqProofs only [pairA, ↓steps, push_cast, simprocAttr, tte]
    refine bcase_intro (fun g => ?_) fun g => ?_
    · have g' : (typG (ownM ts) (e.kids.getD n default)).2 ≠ 0 := by simpa using g
      have hf : ferr Prod.snd (e.kids.map (typG (ownM ts))) = (typG (ownM ts) (e.kids.getD n default)).2 := by rw [ferr_map]; exact ferr_at _ _ n h' hi g'
      have hE : typG (ownM ts) e = (0, (typG (ownM ts) (e.kids.getD n default)).2) := by rw [typG_eq (ownM ts) e, typK, hf, if_neg g']
      exact ret_d2 trivial (by rw [← hr, hE]; rfl) (by simp [ends])
    · have g' : (typG (ownM ts) (e.kids.getD n default)).2 = 0 := by simpa using g
      refine ⟨⟨hl2.symm, by rw [hl2]; omega⟩, ?_⟩
      exact cnt_again hI n rfl h' (fun i h2 => if h3 : i = n then by rw [h3]; exact g' else hi i (by omega)) (by simp [hw, hs, hl2, rowsOf_append, ends]) (by simp [hw, hs, hl2, rowsOf_append, ends]) (by simp [hw, hs, hl2, rowsOf_append, ends]) (by simp [hw, hs, hl2, rowsOf_append, ends])
  simp only [decide_eq_false_iff_not] at h
  obtain rfl : n = e.kids.length := by omega
  clear hI
  have hf : ferr Prod.snd (e.kids.map (typG (ownM ts))) = 0 := by rw [ferr_map]; exact ferr_none _ _ hi
  have hT : tysTo (ownM ts) e e.kids.length = (e.kids.map (typG (ownM ts))).map Prod.fst := by rw [tysTo, List.take_length, List.map_map]; rfl
  have hM : typG (ownM ts) e = ownM ts e (tysTo (ownM ts) e e.kids.length) := by rw [typG_eq (ownM ts) e, typK, if_pos hf, hT]
  rw [hM] at hr
  generalize tysTo (ownM ts) e e.kids.length = l at hl2 hr ⊢
  refine callq [[0, 0, 0, 0, 0, 6]] [] (c_known e) ?_
  simp -implicitDefEqProofs only [aOp, ↓steps, push_cast, simprocAttr, tte]
  have hf4 : isOp e.op = true → countM e = true → (findM e.op).types = 4 → 0 < l.length := fun a b c => by
    have := tab_alike _ a c; have := count_kids b; omega
  have hf6 : isOp e.op = true → countM e = true → (findM e.op).types = 6 → l.length = 3 := fun a b c => by
    have h9 := tab_choice _ a c; have h8 := (count_kids b).2 h9.2; omega
  have hf0 : isOp e.op = true → countM e = true → ¬ e.op = 1 → ¬ e.op = 5 → (findM e.op).own = 0 → 0 < l.length := fun a b c d f => by
    have h9 := tab_own _ a f; have h8 := count_kids b; omega
  refine bcase_intro (fun h1 => ?_) fun h1 => ?_
  · have h1' : isOp e.op = false := by simpa using h1
    have hv : ownM ts e l = (0, 1) := by simp only [ownM, h1', Bool.not_true, Bool.not_false, Bool.or_false, Bool.false_or, Bool.true_or, Bool.or_true, Bool.and_true, Bool.true_and, Bool.false_and, Bool.and_false, Bool.false_eq_true, Bool.or_self, Bool.and_self, if_true, if_false]
    exact ret_d2 trivial (by rw [← hr, hv]; rfl) (by simp [ends])
  have h1' : isOp e.op = true := by simpa using h1
  refine callq [[0, 0, 0, 0, 0, 6]] [] (c_clean e) ?_
  simp -implicitDefEqProofs only [↓steps, push_cast, simprocAttr, tte]
  refine bcase_intro (fun h2 => ?_) fun h2 => ?_
  · have h2' : cleanM e = false := by simpa using h2
    have hv : ownM ts e l = (0, 1) := by simp only [ownM, h2', Bool.not_true, Bool.not_false, Bool.or_false, Bool.false_or, Bool.true_or, Bool.or_true, Bool.and_true, Bool.true_and, Bool.false_and, Bool.and_false, Bool.false_eq_true, Bool.or_self, Bool.and_self, if_true, if_false]
    exact ret_d2 trivial (by rw [← hr, hv]; rfl) (by simp [ends])
  have h2' : cleanM e = true := by simpa using h2
  refine bcase_intro (fun h3 => ?_) fun h3 => ?_
  · have h3' : countM e = false := by simpa using h3
    have hv : ownM ts e l = (0, 9) := by simp only [ownM, h1', h2', h3', Bool.not_true, Bool.not_false, Bool.or_false, Bool.false_or, Bool.true_or, Bool.or_true, Bool.and_true, Bool.true_and, Bool.false_and, Bool.and_false, Bool.false_eq_true, Bool.or_self, Bool.and_self, if_true, if_false]
    exact ret_d2 trivial (by rw [← hr, hv]; rfl) (by simp [ends])
  have h3' : countM e = true := by simpa using h3
  replace hf4 := hf4 h1' h3'
  replace hf6 := hf6 h1' h3'
  replace hf0 := hf0 h1' h3'
  refine bcase_intro (fun h4 => ?_) fun h4 => ?_
  · refine bcase_intro (fun h5 => ?_) fun h5 => ?_
    · have hv : ownM ts e l = (0, 3) := by simp only [ownM, h1', h2', h3', h4, h5, Bool.not_true, Bool.not_false, Bool.or_false, Bool.false_or, Bool.true_or, Bool.or_true, Bool.and_true, Bool.true_and, Bool.false_and, Bool.and_false, Bool.false_eq_true, Bool.or_self, Bool.and_self, if_true, if_false]
      exact ret_d2 trivial (by rw [← hr, hv]; rfl) (by simp [ends])
    refine bcase_intro (fun h6 => ?_) fun h6 => ?_
    · have hv : ownM ts e l = (0, 3) := by simp only [ownM, h1', h2', h3', h4, h5, h6, Bool.not_true, Bool.not_false, Bool.or_false, Bool.false_or, Bool.true_or, Bool.or_true, Bool.and_true, Bool.true_and, Bool.false_and, Bool.and_false, Bool.false_eq_true, Bool.or_self, Bool.and_self, if_true, if_false]
      exact ret_d2 trivial (by rw [← hr, hv]; rfl) (by simp [ends])
    rw [h4, bcase_true]
    refine ⟨by simp only [decide_eq_false_iff_not] at h5 h6; omega, ?_⟩
    refine callq [[0]] [] (c_isType (ts.getD e.col.toNat default)) ?_
    simp -implicitDefEqProofs only [↓steps, push_cast, simprocAttr, tte]
    rw [show (((ts.getD e.col.toNat default == 1) || (ts.getD e.col.toNat default == 2)) || (ts.getD e.col.toNat default == 3)) = isTypeM (ts.getD e.col.toNat default) from rfl]
    refine bcase_intro (fun h7 => ?_) fun h7 => ?_
    · have h7' : isTypeM (ts.getD e.col.toNat default) = false := by simpa using h7
      have hv : ownM ts e l = (0, 4) := by simp only [ownM, h1', h2', h3', h4, h5, h6, h7', Bool.not_true, Bool.not_false, Bool.or_false, Bool.false_or, Bool.true_or, Bool.or_true, Bool.and_true, Bool.true_and, Bool.false_and, Bool.and_false, Bool.false_eq_true, Bool.or_self, Bool.and_self, if_true, if_false]
      exact ret_d2 trivial (by rw [← hr, hv]; rfl) (by simp [ends])
    have h7' : isTypeM (ts.getD e.col.toNat default) = true := by simpa using h7
    refine callq [[0, 0, 0, 0], [1]] [] (c_fit (findM e.op) l (by omega) hf4 hf6) ?_
    simp -implicitDefEqProofs only [↓steps, push_cast, simprocAttr, tte]
    refine bcase_intro (fun h8 => ?_) fun h8 => ?_
    · have h8' : fitM (findM e.op) l = false := by simpa using h8
      have hv : ownM ts e l = (0, 4) := by simp only [ownM, h1', h2', h3', h4, h5, h6, h7', h8', Bool.not_true, Bool.not_false, Bool.or_false, Bool.false_or, Bool.true_or, Bool.or_true, Bool.and_true, Bool.true_and, Bool.false_and, Bool.and_false, Bool.false_eq_true, Bool.or_self, Bool.and_self, if_true, if_false]
      exact ret_d2 trivial (by rw [← hr, hv]; rfl) (by simp [ends])
    have h8' : fitM (findM e.op) l = true := by simpa using h8
    rw [h4, bcase_true]
    refine ⟨by simp only [decide_eq_false_iff_not] at h5 h6; omega, ?_⟩
    have hv : ownM ts e l = (ts.getD e.col.toNat default, 0) := by simp only [ownM, h1', h2', h3', h4, h5, h6, h7', h8', Bool.not_true, Bool.not_false, Bool.or_false, Bool.false_or, Bool.true_or, Bool.or_true, Bool.and_true, Bool.true_and, Bool.false_and, Bool.and_false, Bool.false_eq_true, Bool.or_self, Bool.and_self, if_true, if_false]
    exact ret_d2 trivial (by rw [← hr, hv]; rfl) (by simp [ends])
  rw [h4, bcase_false]
  refine callq [[0, 0, 0, 0], [1]] [] (c_fit (findM e.op) l (by omega) hf4 hf6) ?_
  simp -implicitDefEqProofs only [↓steps, push_cast, simprocAttr, tte]
  refine bcase_intro (fun h8 => ?_) fun h8 => ?_
  · have h8' : fitM (findM e.op) l = false := by simpa using h8
    have hv : ownM ts e l = (0, 4) := by simp only [ownM, h1', h2', h3', h4, h8', Bool.not_true, Bool.not_false, Bool.or_false, Bool.false_or, Bool.true_or, Bool.or_true, Bool.and_true, Bool.true_and, Bool.false_and, Bool.and_false, Bool.false_eq_true, Bool.or_self, Bool.and_self, if_true, if_false]
    exact ret_d2 trivial (by rw [← hr, hv]; rfl) (by simp [ends])
  have h8' : fitM (findM e.op) l = true := by simpa using h8
  rw [h4, bcase_false]
  refine bcase_intro (fun h5 => ?_) fun h5 => ?_
  · have hv : ownM ts e l = (e.type, 0) := by simp only [ownM, h1', h2', h3', h4, h8', h5, Bool.not_true, Bool.not_false, Bool.or_false, Bool.false_or, Bool.true_or, Bool.or_true, Bool.and_true, Bool.true_and, Bool.false_and, Bool.and_false, Bool.false_eq_true, Bool.or_self, Bool.and_self, if_true, if_false]
    exact ret_d2 trivial (by rw [← hr, hv]; rfl) (by simp [ends])
  refine bcase_intro (fun h6 => ?_) fun h6 => ?_
  · have h5' : ¬ e.op = 1 := by simpa using h5
    have h4' : ¬ e.op = 5 := by simpa using h4
    have h6' : (findM e.op).own = 0 := by simpa using h6
    have hp := hf0 h5' h4' h6'
    have hw : IntKind.i64.wrap ((e.kids.length : Int) - 1) = ((l.length - 1 : Nat) : Int) := by rw [wrap_eq (by omega) (by omega)]; omega
    rw [hw]
    have hv : ownM ts e l = (l.getD (l.length - 1) default, 0) := by simp only [ownM, h1', h2', h3', h4, h8', h5, h6, Bool.not_true, Bool.not_false, Bool.or_false, Bool.false_or, Bool.true_or, Bool.or_true, Bool.and_true, Bool.true_and, Bool.false_and, Bool.and_false, Bool.false_eq_true, Bool.or_self, Bool.and_self, if_true, if_false]
    refine ⟨hl2.symm, ⟨⟨by omega, by omega⟩, hl2.symm⟩, by omega, hl2.symm, ?_⟩
    exact ret_d2 trivial (by rw [← hr, hv]; rfl) (by simp [ends])
  have hv : ownM ts e l = ((findM e.op).own, 0) := by simp only [ownM, h1', h2', h3', h4, h8', h5, h6, Bool.not_true, Bool.not_false, Bool.or_false, Bool.false_or, Bool.true_or, Bool.or_true, Bool.and_true, Bool.true_and, Bool.false_and, Bool.and_false, Bool.false_eq_true, Bool.or_self, Bool.and_self, if_true, if_false]
  exact ret_d2 trivial (by rw [← hr, hv]; rfl) (by simp [ends])
end Go.Proofs.YtampbaaiddbacaaDoor
namespace Go.Proofs.YtampbaaiddbacaaDoor
open Go.Am
attribute [local simp, local push_cast] num boo str ints aV aTab aInst aS aT aC found pairA
set_option linter.unusedVariables false
set_option maxRecDepth 100000
set_option maxHeartbeats 4000000
def typeM (f : Ex → List Int → Int × Int) (e : Ex) : Int × Int := if sizeW e > 200 then (0, 8) else if depthW e > 24 then (0, 13) else typG f e
theorem c_type (ts : List Int) (hts : ts.length ≤ 1000000000) (e : Ex) (ho : Ok12 e) : ACall Tryd.prog 39 [ints ts, aE e] [] (pairA (typeM (ownM ts) e)) [] := by
  refine enterq mixed ttok Tryd.func39 Tryd.ntmps39 Tryd.results39 ?_
  generalize hr : pairA (typeM (ownM ts) e) = R
  simp -implicitDefEqProofs only [argT, ↓steps, push_cast, simprocAttr, tte]
  refine callq [[0, 0, 0, 0, 0, 6]] [] (c_size e ho) ?_
  simp -implicitDefEqProofs only [↓steps, push_cast, simprocAttr, tte]
  refine bcase_intro (fun h => ?_) fun h => ?_
  · have hv : typeM (ownM ts) e = (0, 8) := if_pos (of_decide_eq_true h)
    exact ret_d2 trivial (by rw [← hr, hv]; rfl) (by simp [ends])
  have h' : ¬ sizeW e > 200 := of_decide_eq_false h
  refine callq [[0, 0, 0, 0, 0, 6]] [] (c_depth e ho) ?_
  simp -implicitDefEqProofs only [↓steps, push_cast, simprocAttr, tte]
  refine bcase_intro (fun g => ?_) fun g => ?_
  · have hv : typeM (ownM ts) e = (0, 13) := by rw [typeM, if_neg h', if_pos (of_decide_eq_true g)]
    exact ret_d2 trivial (by rw [← hr, hv]; rfl) (by simp [ends])
  have g' : ¬ depthW e > 24 := of_decide_eq_false g
  refine callq [[1], [0, 0, 0, 0, 0, 6]] [] (c_typ ts hts e ho) ?_
  have hv : typeM (ownM ts) e = typG (ownM ts) e := by rw [typeM, if_neg h', if_neg g']
  simp -implicitDefEqProofs only [pairA, ↓steps, push_cast, simprocAttr, tte]
  exact ret_d2 trivial (by rw [← hr, hv]; rfl) (by simp [ends])
/-- A numbered list's first error. -/
def ferrN (f : Nat → Int) (N : Nat) : Int := ferr f (List.range N)
theorem range_getD {N i : Nat} (h : i < N) : (List.range N).getD i default = i := by rw [List.getD_eq_getElem?_getD, List.getElem?_range h]; rfl
theorem ferrN_at {f : Nat → Int} {N n : Nat} (h : n < N) (hi : ∀ i, i < n → f i = 0) (hn : f n ≠ 0) : ferrN f N = f n := by
  have := ferr_at f (List.range N) n (by simpa using h) (fun i h2 => by rw [range_getD (by omega)]; exact hi i h2) (by rw [range_getD h]; exact hn)
  rwa [range_getD h] at this
theorem ferrN_none {f : Nat → Int} {N : Nat} (hi : ∀ i, i < N → f i = 0) : ferrN f N = 0 :=
  ferr_none f (List.range N) fun i h => by rw [List.length_range] at h; rw [range_getD h]; exact hi i h
def badType (k : Int) : Bool := (k != 1 && k != 2) && k != 3
def posOf (k : Int) : Int := if 0 > k then 0 else k
def colErr (t : Tbl) (i : Nat) : Int :=
  if !nameP (t.columns.getD i default).name then 3 else if posOf (byC t.columns (t.columns.getD i default).name) < i then 5 else if badType (t.columns.getD i default).type then 4 else 0
def chkErr (t : Tbl) (e : Ex) : Int := if (typeM (ownM (typesOf t)) e).2 ≠ 0 then (typeM (ownM (typesOf t)) e).2 else if (typeM (ownM (typesOf t)) e).1 ≠ 2 then 4 else 0
def bigT (t : Tbl) : Bool := ((decide ((t.columns.length : Int) > 8) || decide ((t.uniques.length : Int) > 3)) || decide ((t.foreigns.length : Int) > 3)) || decide ((t.checks.length : Int) > 4)
def tableM (t : Tbl) : Int :=
  if bigT t then 8 else if t.columns.length = 0 then 9
  else if ferrN (colErr t) t.columns.length ≠ 0 then ferrN (colErr t) t.columns.length
  else if keysM t ≠ 0 then keysM t else ferr (chkErr t) t.checks
theorem c_table (t : Tbl) (ht : SmallT t) : ACall Tryd.prog 20 [aT t] [] (num (tableM t)) [] := by
  refine enterq mixed ttok Tryd.func20 Tryd.ntmps20 Tryd.results20 ?_
  generalize hr : num (tableM t) = R
  simp -implicitDefEqProofs only [argT, ↓steps, push_cast, simprocAttr, tte]
  have hcl := ht.cols
  have hkl := ht.chk
  have hbig : bigT t = true → retx (some (True, A.d (D.lit (Value.int .i64 8)))) ⟨[], [(1, vT t)]⟩ R [] := fun hb => ret_d trivial (by rw [← hr, tableM, if_pos hb]; rfl) (by simp [ends])
  simp only [vT] at hbig
  refine bcase_intro (fun h1 => ?_) fun h1 => ?_
  · exact hbig (by rw [bigT, h1]; simp only [Bool.true_or])
  refine bcase_intro (fun h2 => ?_) fun h2 => ?_
  · exact hbig (by rw [bigT, h2]; simp only [Bool.or_true, Bool.true_or])
  refine bcase_intro (fun h3 => ?_) fun h3 => ?_
  · exact hbig (by rw [bigT, h3]; simp only [Bool.or_true, Bool.true_or])
  refine bcase_intro (fun h4 => ?_) fun h4 => ?_
  · exact hbig (by rw [bigT, h4]; simp only [Bool.or_true])
  clear hbig
  have hb : ¬ bigT t = true := by rw [bigT, h1, h2, h3, h4]; decide
  refine bcase_intro (fun h5 => ?_) fun h5 => ?_
  · have h5' : t.columns.length = 0 := by simpa using h5
    exact ret_d trivial (by rw [← hr, tableM, if_neg hb, if_pos h5']; rfl) (by simp [ends])
  have h5' : ¬ t.columns.length = 0 := by simpa using h5
  have hM : tableM t = if ferrN (colErr t) t.columns.length ≠ 0 then ferrN (colErr t) t.columns.length
      else if keysM t ≠ 0 then keysM t else ferr (chkErr t) t.checks := by rw [tableM, if_neg hb, if_neg h5']
  clear h1 h2 h3 h4 h5
  refine loop_count mixed ttok 43 [1, 41, 42] [1] (by simp only [pickT, ends, push_cast, simprocAttr]; rfl) (by simp only [pickO, consO_some, ends, push_cast, simprocAttr]; rfl) t.columns.length (fun n => ∀ i, i < n → colErr t i = 0) (fun _ => []) (fun _ => []) (fun i h => absurd h (Nat.not_lt_zero _)) ?_ ?_
  · exact Weak.keepL (by simp [cst, ends]) (by simp [cst, ends]) (by simp [cst, ends])
  intro I hI n hn hi
  simp -implicitDefEqProofs only [cst, ↓steps, push_cast, simprocAttr, tte]
  refine bcase_intro (fun h => ?_) fun h => ?_
  · simp only [decide_eq_true_eq] at h
    have h' : n < t.columns.length := by omega
    have hw := wrap_succ h' (by omega)
    have hE : colErr t n ≠ 0 → num (colErr t n) = R := fun hne => by
      have := ferrN_at h' hi hne
      rw [← hr, hM, this, if_pos hne]
    refine ⟨(by first | omega | trivial | (refine ⟨?_, ?_⟩ <;> first | omega | trivial | (refine ⟨?_, ?_⟩ <;> first | omega | trivial | (refine ⟨?_, ?_⟩ <;> first | omega | trivial | rfl)))), ?_⟩
    refine callq [[0]] [] (c_name (t.columns.getD n default).name) ?_
    simp -implicitDefEqProofs only [↓steps, push_cast, simprocAttr, tte]
    refine bcase_intro (fun g1 => ?_) fun g1 => ?_
    · have hc : colErr t n = 3 := if_pos g1
      exact ret_d trivial (by rw [← hE (by rw [hc]; decide), hc]; rfl) (by simp [ends])
    refine callq [[0, 3, 1, 1, 2, 6], [0]] [] (c_column t (t.columns.getD n default).name (by omega)) ?_
    simp -implicitDefEqProofs only [↓steps, push_cast, simprocAttr, tte]
    refine bcase_intro (fun g2 => ?_) fun g2 => ?_
    · have hc : colErr t n = 5 := by rw [colErr, if_neg (by rw [g1]; decide)]; exact if_pos (of_decide_eq_true g2)
      exact ret_d trivial (by rw [← hE (by rw [hc]; decide), hc]; rfl) (by simp [ends])
    have hcB : colErr t n = if badType (t.columns.getD n default).type then 4 else 0 := by rw [colErr, if_neg (by rw [g1]; decide)]; exact if_neg (of_decide_eq_false g2)
    have hinv : badType (t.columns.getD n default).type = false → ∀ i, i < n + 1 → colErr t i = 0 := fun hb i h2 => if h3 : i = n then by rw [h3, hcB, hb]; rfl else hi i (by omega)
    refine bcase_intro (fun g3 => ?_) fun g3 => ?_
    · refine bcase_intro (fun g4 => ?_) fun g4 => ?_
      · refine bcase_intro (fun g5 => ?_) fun g5 => ?_
        · have hc : colErr t n = 4 := by rw [hcB, badType, g3, g4, g5]; rfl
          exact ret_d trivial (by rw [← hE (by rw [hc]; decide), hc]; rfl) (by simp [ends])
        · exact cnt_again hI n rfl h' (hinv (by rw [badType, g5, Bool.and_false])) (by simp [hw, ends]) (by simp [hw, ends]) (by simp [hw, ends]) (by simp [hw, ends])
      · exact cnt_again hI n rfl h' (hinv (by rw [badType, g4, Bool.and_false, Bool.false_and])) (by simp [hw, ends]) (by simp [hw, ends]) (by simp [hw, ends]) (by simp [hw, ends])
    · exact cnt_again hI n rfl h' (hinv (by rw [badType, g3, Bool.false_and, Bool.false_and])) (by simp [hw, ends]) (by simp [hw, ends]) (by simp [hw, ends]) (by simp [hw, ends])
  simp only [decide_eq_false_iff_not] at h
  obtain rfl : n = t.columns.length := by omega
  clear hI
  have hM2 : tableM t = if keysM t ≠ 0 then keysM t else ferr (chkErr t) t.checks := by rw [hM, ferrN_none hi, if_neg (by decide)]
  clear hM h
  refine callq [[0, 3, 1, 1, 2, 6]] [] (c_keys t ht) ?_
  simp -implicitDefEqProofs only [↓steps, push_cast, simprocAttr, tte]
  refine bcase_intro (fun k1 => ?_) fun k1 => ?_
  · have k1' : keysM t ≠ 0 := by simpa using k1
    exact ret_d trivial (by rw [← hr, hM2, if_pos k1']; rfl) (by simp [ends])
  have k1' : ¬ keysM t ≠ 0 := by simpa using k1
  rw [if_neg k1'] at hM2
  refine loop_count mixed ttok 84 [1, 82, 83] [1] (by simp only [pickT, ends, push_cast, simprocAttr]; rfl) (by simp only [pickO, consO_some, ends, push_cast, simprocAttr]; rfl) t.checks.length (fun n => ∀ i, i < n → chkErr t (t.checks.getD i default) = 0) (fun _ => []) (fun _ => []) (fun i h => absurd h (Nat.not_lt_zero _)) ?_ ?_
  · exact Weak.keepL (by simp [cst, ends]) (by simp [cst, ends]) (by simp [cst, ends])
  clear hi hn I
  intro I hI n hn hi
  simp -implicitDefEqProofs only [cst, ↓steps, push_cast, simprocAttr, tte]
  refine bcase_intro (fun h => ?_) fun h => ?_
  · simp only [decide_eq_true_eq] at h
    have h' : n < t.checks.length := by omega
    have hw := wrap_succ h' (by omega)
    have hE : chkErr t (t.checks.getD n default) ≠ 0 → num (chkErr t (t.checks.getD n default)) = R := fun hne => by
      have := ferr_at (chkErr t) t.checks n h' hi hne
      rw [← hr, hM2, this]
    have hl : (typesOf t).length ≤ 1000000000 := by rw [typesOf, List.length_map]; omega
    refine ⟨(by first | omega | trivial | (refine ⟨?_, ?_⟩ <;> first | omega | trivial | (refine ⟨?_, ?_⟩ <;> first | omega | trivial | (refine ⟨?_, ?_⟩ <;> first | omega | trivial | rfl)))), ?_⟩
    refine callq [[0, 3, 1, 1, 2, 6]] [] (c_types t (by omega)) ?_
    simp -implicitDefEqProofs only [↓steps, push_cast, simprocAttr, tte]
    refine callq [[1], [0, 0, 0, 0, 0, 6]] [] (c_type (typesOf t) hl (t.checks.getD n default) (ht.chks _ (getD_mem h'))) ?_
    simp -implicitDefEqProofs only [pairA, ↓steps, push_cast, simprocAttr, tte]
    refine ⟨drawx_intro (by kernel_rfl), ?_⟩
    refine bcase_intro (fun g1 => ?_) fun g1 => ?_
    · have g1' : (typeM (ownM (typesOf t)) (t.checks.getD n default)).2 ≠ 0 := by simpa using g1
      have hc : chkErr t (t.checks.getD n default) = (typeM (ownM (typesOf t)) (t.checks.getD n default)).2 := if_pos g1'
      exact ret_d trivial (by rw [← hE (by rw [hc]; exact g1'), hc]; rfl) (by simp [ends])
    have g1' : ¬ (typeM (ownM (typesOf t)) (t.checks.getD n default)).2 ≠ 0 := by simpa using g1
    refine bcase_intro (fun g2 => ?_) fun g2 => ?_
    · have g2' : (typeM (ownM (typesOf t)) (t.checks.getD n default)).1 ≠ 2 := by simpa using g2
      have hc : chkErr t (t.checks.getD n default) = 4 := by rw [chkErr, if_neg g1', if_pos g2']
      exact ret_d trivial (by rw [← hE (by rw [hc]; decide), hc]; rfl) (by simp [ends])
    have g2' : ¬ (typeM (ownM (typesOf t)) (t.checks.getD n default)).1 ≠ 2 := by simpa using g2
    have hc : chkErr t (t.checks.getD n default) = 0 := by rw [chkErr, if_neg g1', if_neg g2']
    exact cnt_again hI n rfl h' (fun i h2 => if h3 : i = n then by rw [h3]; exact hc else hi i (by omega)) (by simp [hw, ends]) (by simp [hw, ends]) (by simp [hw, ends]) (by simp [hw, ends])
  simp only [decide_eq_false_iff_not] at h
  obtain rfl : n = t.checks.length := by omega
  exact ret_d trivial (by rw [← hr, hM2, ferr_none _ _ hi]; rfl) (by simp [ends])
end Go.Proofs.YtampbaaiddbacaaDoor
namespace Go.Proofs.YtampbaaiddbacaaDoor
open Go.Am
attribute [local simp, local push_cast] num boo str ints aV aTab aInst aS aT aC found pairA vT
set_option linter.unusedVariables false
set_option maxRecDepth 100000
set_option maxHeartbeats 4000000
theorem ne_nat {a b : Nat} (h : ((a : Int) != (b : Int)) = true) : ¬ a = b := fun e => by rw [e] at h; simp at h
theorem eq_nat {a b : Nat} (h : ((a : Int) != (b : Int)) = false) : a = b := by simp only [bne_eq_false_iff_eq] at h; omega
def aFk (f : Fk) : A := .agg [.d (.sl 1 (rowsOf rI f.columns)), .d (.lit (.string f.table))]
attribute [local simp, local push_cast] aFk
def typeAt (t : Tbl) (k : Int) : Int := (t.columns.getD k.toNat default).type
theorem c_ref1 (t u : Tbl) (i j : Int) (hi : inC t i) (hj : inC u j) : ACall Tryd.prog 42 [num i, num j, .ptr 1000 0, .ptr 1001 0] [(1000, vT t), (1001, vT u)] (boo (typeAt t i == typeAt u j)) [(1000, vT t), (1001, vT u)] := by
  refine enterq mixed ttok Tryd.func42 Tryd.ntmps42 Tryd.results42 ?_
  generalize hr : boo (typeAt t i == typeAt u j) = R
  obtain ⟨hi0, hi1⟩ := hi
  obtain ⟨hj0, hj1⟩ := hj
  simp -implicitDefEqProofs only [argT, vT, ↓steps, push_cast, simprocAttr, tte]
  refine ⟨⟨hi0, hi1⟩, ⟨hj0, hj1⟩, drawx_intro (by kernel_rfl), ?_⟩
  refine retx_of [0] rfl (by simp) (by simp [rowsOf_length] <;> omega) ?_ (by first | rfl | simp [ends] | (subst_vars; simp [ends])) (by simp [ends]) (by simp [ends])
  exact hr
/-- Two lists of places whose columns are of like types. -/
def eqKeys (t u : Tbl) (a b : List Int) : Bool := a.length == b.length && (List.range a.length).all fun i => typeAt t (a.getD i default) == typeAt u (b.getD i default)
theorem c_eqF (t u : Tbl) (a b : List Int) (ha : ∀ k ∈ a, inC t k) (hb : ∀ k ∈ b, inC u k) (hl : a.length ≤ 1000) :
    ACall Tryd.prog 41 [ints a, ints b, .clo 42 [.ptr 1000 0, .ptr 1001 0]] [(1000, vT t), (1001, vT u)] (boo (eqKeys t u a b)) [(1000, vT t), (1001, vT u)] := by
  refine enterq mixed ttok Tryd.func41 Tryd.ntmps41 Tryd.results41 ?_
  generalize hr : boo (eqKeys t u a b) = R
  simp -implicitDefEqProofs only [argT, vT, ↓steps, push_cast, simprocAttr, tte]
  refine bcase_intro (fun h0 => ?_) fun h0 => ?_
  · have h0' : ¬ a.length = b.length := ne_nat h0
    refine retx_of [0] rfl (by simp) (by simp [rowsOf_length] <;> omega) ?_ (by first | rfl | simp [ends] | (subst_vars; simp [ends])) (by simp [ends]) (by simp [ends])
    rw [← hr, eqKeys, beq_false_of_ne h0']; rfl
  have h0' : a.length = b.length := eq_nat h0
  refine loop_count mixed ttok 17 [0, 1, 2, 15, 16] [1000, 1001] (by simp only [pickT, ends, push_cast, simprocAttr]; rfl) (by simp only [pickO, consO_some, ends, push_cast, simprocAttr]; rfl) a.length (fun n => ∀ i, i < n → (typeAt t (a.getD i default) == typeAt u (b.getD i default)) = true) (fun _ => []) (fun _ => []) (fun i h => absurd h (Nat.not_lt_zero _)) ?_ ?_
  · exact Weak.keepL (by simp [cst, ends]) (by simp [cst, ends]) (by simp [cst, ends])
  intro I hI n hn hi
  simp -implicitDefEqProofs only [cst, ↓steps, push_cast, simprocAttr, tte]
  refine bcase_intro (fun h => ?_) fun h => ?_
  · simp only [decide_eq_true_eq] at h
    have h' : n < a.length := by omega
    have hw := wrap_succ h' (by omega)
    refine ⟨(by first | omega | trivial | (refine ⟨?_, ?_⟩ <;> first | omega | trivial | (refine ⟨?_, ?_⟩ <;> first | omega | trivial | (refine ⟨?_, ?_⟩ <;> first | omega | trivial | rfl)))), ?_⟩
    refine ⟨by omega, ?_⟩
    have hc := c_ref1 t u (a.getD n default) (b.getD n default) (ha _ (getD_mem h')) (hb _ (getD_mem (by omega)))
    unfold vT at hc
    refine callq [[0], [0], [], []] [(1000, 1000), (1001, 1001)] (hc) ?_
    simp -implicitDefEqProofs only [↓steps, push_cast, simprocAttr, tte]
    refine bcase_intro (fun g => ?_) fun g => ?_
    · have g' : (typeAt t (a.getD n default) == typeAt u (b.getD n default)) = false := by simpa using g
      refine retx_of [0] rfl (by simp) (by simp [rowsOf_length] <;> omega) ?_ (by first | rfl | simp [ends] | (subst_vars; simp [ends])) (by simp [ends]) (by simp [ends])
      have hbad : ((List.range a.length).all fun i => typeAt t (a.getD i default) == typeAt u (b.getD i default)) = false := bad_range h' g'
      rw [← hr, eqKeys, hbad, Bool.and_false]; rfl
    · have g' : (typeAt t (a.getD n default) == typeAt u (b.getD n default)) = true := by simpa using g
      exact cnt_again hI n rfl h' (fun i h2 => if h3 : i = n then by rw [h3]; exact g' else hi i (by omega)) (by simp [hw, ends]) (by simp [hw, ends]) (by simp [hw, ends]) (by simp [hw, ends])
  · simp only [decide_eq_false_iff_not] at h
    obtain rfl : n = a.length := by omega
    refine retx_of [0] rfl (by simp) (by simp [rowsOf_length] <;> omega) ?_ (by first | rfl | simp [ends] | (subst_vars; simp [ends])) (by simp [ends]) (by simp [ends])
    rw [← hr, eqKeys, all_range.2 hi, h0', beq_self_eq_true]; rfl
def refM (s : Sch) (t : Tbl) (f : Fk) : Int :=
  if byT s f.table < 0 then 11 else if eqKeys t (s.getD (byT s f.table).toNat default) f.columns (s.getD (byT s f.table).toNat default).primary then 0 else 6
theorem c_reference (s : Sch) (t : Tbl) (f : Fk) (hs : s.length ≤ 1000) (hl : f.columns.length ≤ 1000) (hf : ∀ k ∈ f.columns, inC t k) (hp : ∀ u ∈ s, ∀ k ∈ u.primary, inC u k) :
    ACall Tryd.prog 21 [aS s, aT t, aFk f] [] (num (refM s t f)) [] := by
  refine enterq mixed ttok Tryd.func21 Tryd.ntmps21 Tryd.results21 ?_
  generalize hr : num (refM s t f) = R
  simp -implicitDefEqProofs only [argT, ↓steps, push_cast, simprocAttr, tte]
  refine callq [[6], [0]] [] (c_find s f.table (by omega)) ?_
  simp -implicitDefEqProofs only [↓steps, push_cast, simprocAttr, tte]
  refine bcase_intro (fun h => ?_) fun h => ?_
  · have h' : byT s f.table < 0 := by simpa using h
    exact ret_d trivial (by rw [← hr, refM, if_pos h']; rfl) (by simp [ends])
  have h' : ¬ byT s f.table < 0 := by simpa using h
  have hlt := fidx_lt (fun t => t.name.toList == f.table.toList) s
  have hM : refM s t f = if eqKeys t (s.getD (byT s f.table).toNat default) f.columns (s.getD (byT s f.table).toNat default).primary then 0 else 6 := if_neg h'
  have hk : byT s f.table < s.length := hlt
  clear hlt h
  generalize byT s f.table = k at h' hM hk ⊢
  simp only [if_neg (show ¬ 0 > k by omega)]
  refine ⟨⟨by omega, hk⟩, ?_⟩
  have hu : s.getD k.toNat default ∈ s := getD_mem (by omega)
  have hc := c_eqF t (s.getD k.toNat default) f.columns (s.getD k.toNat default).primary hf (hp _ hu) hl
  unfold vT at hc
  refine callq [[1], [1], []] [(1000, 4), (1001, 9)] (hc) ?_
  simp -implicitDefEqProofs only [↓steps, push_cast, simprocAttr, tte]
  refine bcase_intro (fun g => ?_) fun g => ?_
  · have g' : eqKeys t (s.getD k.toNat default) f.columns (s.getD k.toNat default).primary = false := by simpa using g
    exact ret_d trivial (by rw [← hr, hM, g']; rfl) (by simp [ends])
  · have g' : eqKeys t (s.getD k.toNat default) f.columns (s.getD k.toNat default).primary = true := by simpa using g
    exact ret_d trivial (by rw [← hr, hM, g']; rfl) (by simp [ends])
end Go.Proofs.YtampbaaiddbacaaDoor
namespace Go.Proofs.YtampbaaiddbacaaDoor
open Go.Am
attribute [local simp, local push_cast] num boo str ints aV aTab aInst aS aT aC found pairA aFk vT
set_option linter.unusedVariables false
set_option maxRecDepth 100000
set_option maxHeartbeats 4000000
theorem c_order1n : ACall Tryd.prog 44 [.d (.lit (.map none))] [] (boo false) [] := by
  refine enterq mixed ttok Tryd.func44 Tryd.ntmps44 Tryd.results44 ?_
  generalize hr : boo false = R
  simp -implicitDefEqProofs only [argT, ↓steps, push_cast, simprocAttr, tte]
  refine retx_of [0] rfl (by simp) (by simp [rowsOf_length] <;> omega) ?_ (by first | rfl | simp [ends] | (subst_vars; simp [ends])) (by simp [ends]) (by simp [ends])
  exact hr
theorem c_order1 (ks : List Int) : ACall Tryd.prog 44 [.mp 1000] [(1000, .mp (encM ks))] (boo (ks.length == 0)) [(1000, .mp (encM ks))] := by
  refine enterq mixed ttok Tryd.func44 Tryd.ntmps44 Tryd.results44 ?_
  generalize hr : boo (ks.length == 0) = R
  simp -implicitDefEqProofs only [argT, encM_length, ↓steps, push_cast, simprocAttr, tte]
  subst hr
  refine retx_of [0] rfl (by simp) (by simp [rowsOf_length] <;> omega) ?_ (by first | rfl | simp [ends] | (subst_vars; simp [ends])) (by simp [ends]) (by simp [ends])
  have : ((ks.length : Int) == 0) = (ks.length == 0) := by rw [Bool.eq_iff_iff]; simp
  rw [this]; rfl
def freeM : Option (List Int) → Bool
  | none => false
  | some ks => ks.length == 0
/-- The objects: the cells, and the maps. -/
def mobs (a b : Nat) (ms : List (Option (List Int))) : List (Nat × Ob) := (a, .var (mapsA b ms)) :: mapsL b ms
theorem mapsL_mk : ∀ (b : Nat) (ms : List (Option (List Int))), b + ms.length ≤ 1000000 → noMk (mapsL b ms) = true
  | b, [], _ => rfl
  | b, none :: ms, h => by
    simp only [mapsL]
    exact mapsL_mk (b + 1) ms (by simp only [List.length_cons] at h; omega)
  | b, some ks :: ms, h => by
    simp only [mapsL, noMk, List.all_cons, Bool.and_eq_true, decide_eq_true_eq]
    simp only [List.length_cons] at h
    exact ⟨by omega, mapsL_mk (b + 1) ms (by omega)⟩
theorem mobs_mk {ms : List (Option (List Int))} (h : ms.length ≤ 6) : noMk (mobs 1000 1001 ms) = true := by
  simp only [mobs, noMk, List.all_cons, Bool.and_eq_true, decide_eq_true_eq]
  exact ⟨by omega, mapsL_mk 1001 ms (by omega)⟩
theorem mobs_at {a b : Nat} {ms : List (Option (List Int))} {n : Nat} {ks : List Int} (hab : a < b) (h : ms[n]? = some (some ks)) : lookO (mobs a b ms) (b + n) = some (.mp (encM ks)) := by
  rw [mobs, lookO_cons_ne (by omega)]; exact lookO_maps_at b h
theorem mobs_in {a b : Nat} {ms : List (Option (List Int))} {n : Nat} {ks : List Int} (h : ms[n]? = some (some ks)) : inO (mobs a b ms) (b + n) = true := inO_cons_r (inO_maps b h)
theorem mobs_keep {a b : Nat} {ms : List (Option (List Int))} (hab : a < b) : keepO (lookO (mobs a b ms)) (inO (mobs a b ms)) (mobs a b ms) :=
  ⟨⟨by simp [mobs, lookO], closed_maps fun n ks h => mobs_in h⟩, keepO_maps fun n ks h => mobs_at hab h⟩
theorem mobs_all {a b : Nat} {ms : List (Option (List Int))} : keepIn (inO (mobs a b ms)) (mobs a b ms) :=
  ⟨.inr inO_cons_l, keepIn_maps fun n ks h => .inr (mobs_in h)⟩
theorem c_idxM (ms : List (Option (List Int))) (hl : ms.length ≤ 6) :
    ACall Tryd.prog 43 [.vs 1000 ms.length, .clo 44 []] (mobs 1000 1001 ms) (num (fidx freeM ms)) (mobs 1000 1001 ms) := by
  refine enterq mixed ttok Tryd.func43 Tryd.ntmps43 Tryd.results43 ?_ (hmk := mobs_mk hl)
  generalize hr : num (fidx freeM ms) = R
  unfold mobs
  simp -implicitDefEqProofs only [argT, ↓steps, push_cast, simprocAttr, tte]
  have hend : ∀ (t : List (Nat × A)) (v : Int), num v = R → retx (some (True, A.d (D.lit (Value.int IntKind.i64 v)))) ⟨t, (1000, .var (mapsA 1001 ms)) :: mapsL 1001 ms⟩ R ((1000, .var (mapsA 1001 ms)) :: mapsL 1001 ms) := fun t v hv => by
    refine retx_of [0] rfl trivial trivial hv (by rw [← hv]; rfl) ?_ ?_
    · exact mobs_keep (by omega)
    · exact mobs_all
  refine loop_countO mixed ttok 8 [0, 1, 7] (by simp only [pickT, ends, ite_true, ite_false, reduceIte, Nat.reduceEqDiff, Nat.reduceLeDiff, Nat.reduceLT, Nat.reduceAdd, reduceCtorEq, num, boo, str, ints, aV, aTab, aInst, aS, aT, aC, found, pairA, aFk, vT]; rfl) (mobs 1000 1001 ms) ms.length (fun n => ∀ i, i < n → freeM (ms.getD i default) = false) (fun _ => []) (fun _ => []) (fun i h => absurd h (Nat.not_lt_zero _)) ?_ ?_
  · refine Weak.keepL (by simp [cst, mobs, ends]) (mobs_keep (by omega)) mobs_all
  intro I hI n hn hi
  unfold mobs at hI ⊢
  simp -implicitDefEqProofs only [cst, ↓steps, push_cast, simprocAttr, tte]
  refine bcase_intro (fun h => ?_) fun h => ?_
  · simp only [decide_eq_true_eq] at h
    have h' : n < ms.length := by omega
    have hw := wrap_succ h' (by omega)
    refine ⟨by omega, ?_⟩
    have hm : ms[n]? = some (ms.getD n default) := by rw [List.getD_eq_getElem?_getD, List.getElem?_eq_getElem h']; rfl
    rw [mapsA_get, hm]
    generalize ms.getD n default = m at hm
    have hfi : ms.getD n default = m := by rw [List.getD_eq_getElem?_getD, hm]; rfl
    have hinv : freeM m = false → ∀ i, i < n + 1 → freeM (ms.getD i default) = false := fun hf i h2 => if h3 : i = n then by rw [h3, hfi, hf] else hi i (by omega)
    cases m with
    | none =>
      simp -implicitDefEqProofs only [cellM, Option.map_some, ↓steps, push_cast, simprocAttr, tte]
      refine callq [[0]] [] (c_order1n) ?_
      simp -implicitDefEqProofs only [↓steps, push_cast, simprocAttr, tte]
      refine cnt_againW hI n rfl h' (hinv rfl) (Weak.keepL (by simp [cst, hw, ends]) (mobs_keep (by omega)) mobs_all)
    | some ks =>
      simp -implicitDefEqProofs only [cellM, Option.map_some, ↓steps, push_cast, simprocAttr, tte]
      refine callx_same [[]] (fun _ => 1001 + n) rfl (c_order1 ks) rfl (by simp) rfl rfl ⟨⟨?_, rfl⟩, trivial⟩ (by simp) (by simp) (by simp) ?_
      · exact mobs_at (by omega) hm
      simp -implicitDefEqProofs only [↓steps, push_cast, simprocAttr, tte]
      refine bcase_intro (fun g => ?_) fun g => ?_
      · exact hend _ _ (by rw [← hr, fidx_at freeM ms n h' hi (by rw [hfi]; exact g)])
      · refine cnt_againW hI n rfl h' (hinv g) (Weak.keepL (by simp [cst, hw, ends]) (mobs_keep (by omega)) mobs_all)
  · simp only [decide_eq_false_iff_not] at h
    obtain rfl : n = ms.length := by omega
    exact hend _ _ (by rw [← hr, fidx_none freeM ms hi])
end Go.Proofs.YtampbaaiddbacaaDoor
namespace Go.Proofs.YtampbaaiddbacaaDoor
open Go.Am
attribute [local simp, local push_cast] num boo str ints aV aTab aInst aS aT aC found pairA aFk vT
set_option linter.unusedVariables false
set_option maxRecDepth 100000
set_option maxHeartbeats 4000000
def depsTo (s : Sch) (l : List Fk) : List Int := l.foldl (fun acc f => addK acc (byT s f.table)) []
def ms1 (s : Sch) (n : Nat) : List (Option (List Int)) := (List.range s.length).map fun i => if i < n then some (depsTo s (s.getD i default).foreigns) else none
theorem ms1_length (s : Sch) (n : Nat) : (ms1 s n).length = s.length := by simp [ms1]
theorem ms1_zero (s : Sch) : ms1 s 0 = List.replicate s.length none := by
  apply List.ext_getElem?
  intro j
  simp only [ms1, Nat.not_lt_zero, if_false, List.getElem?_map, List.getElem?_replicate]
  by_cases hj : j < s.length
  · rw [List.getElem?_range hj, if_pos hj]; rfl
  · rw [List.getElem?_eq_none (by simp; omega), if_neg hj]; rfl
theorem ms1_succ (s : Sch) (n : Nat) (h : n < s.length) : (ms1 s n).set n (some (depsTo s (s.getD n default).foreigns)) = ms1 s (n + 1) := by
  apply List.ext_getElem?
  intro j
  rw [List.getElem?_set, ms1_length]
  by_cases hj : n = j
  · subst hj; simp [ms1, h]
  · simp only [hj, if_false, ms1, List.getElem?_map]
    by_cases hl : j < s.length
    · rw [List.getElem?_range hl]
      simp only [Option.map_some]
      congr 1
      by_cases h1 : j < n
      · rw [if_pos h1, if_pos (by omega)]
      · rw [if_neg h1, if_neg (by omega)]
    · rw [List.getElem?_eq_none (by simp; omega)]; rfl
theorem depsTo_succ (s : Sch) (l : List Fk) (n : Nat) (h : n < l.length) : depsTo s (l.take (n + 1)) = addK (depsTo s (l.take n)) (byT s (l.getD n default).table) := by
  rw [take_snoc _ _ h, depsTo, List.foldl_append]; rfl
/-! States with maps. -/
theorem lookO_m700 {ms : List (Option (List Int))} {k : Nat} (h : k < 700) : lookO (mapsL 700 ms) k = none := lookO_maps_lt ms h
attribute [local simp, local push_cast] lookO_m700
theorem closedL_set {dom : Nat → Bool} {a : A} (ha : a.closed dom = true) : ∀ (l : List A) (n : Nat), closedL dom l = true → closedL dom (l.set n a) = true
  | [], _, h => h
  | x :: l, 0, h => by simp only [closedL, List.set_cons_zero, Bool.and_eq_true] at h ⊢; exact ⟨ha, h.2⟩
  | x :: l, n + 1, h => by simp only [closedL, List.set_cons_succ, Bool.and_eq_true] at h ⊢; exact ⟨h.1, closedL_set ha l n h.2⟩
theorem renL_set (r : Nat → Nat) (a : A) : ∀ (l : List A) (n : Nat), renL r (l.set n a) = (renL r l).set n (a.ren r)
  | [], _ => rfl
  | x :: l, 0 => rfl
  | x :: l, n + 1 => by simp only [List.set_cons_succ, renL]; rw [renL_set r a l n]
theorem renO_maps {a b : Nat} : ∀ {ms : List (Option (List Int))} {c : Nat}, a < c → renO a b (mapsL c ms) = mapsL c ms
  | [], _, _ => rfl
  | none :: l, c, h => by rw [mapsL]; exact renO_maps (by omega)
  | some ks :: l, c, h => by rw [mapsL, renO, renO_maps (by omega)]; simp only [ren1to, Ob.ren]; rw [if_neg (by omega)]
theorem in700 {dom : Nat → Bool} {ms : List (Option (List Int))} (h : ms.length ≤ 6) : keepIn dom (mapsL 700 ms) := keepIn_maps fun n ks hn => .inl (by have := (List.getElem?_eq_some_iff.1 hn).1; omega)
theorem splice_set {α : Type} (l : List α) (n : Nat) (x : α) (h : n < l.length) : l.take n ++ [x] ++ l.drop (n + 1) = l.set n x := by rw [List.set_eq_take_append_cons_drop, if_pos h, List.append_assoc]; rfl
def vS (s : Sch) : Ob := .var [.d (.sl 6 (rowsOf rT s))]
theorem keep_a {f : Nat → Option Ob} {s : Sch} {ms : List (Option (List Int))} (h1 : f 1 = some (vS s)) (h2 : f 18 = some (.var (mapsA 700 ms))) (h3 : ∀ n ks, ms[n]? = some (some ks) → f (700 + n) = some (.mp (encM ks))) :
    keepO f (inO ((1, vS s) :: mobs 18 700 ms)) ((1, vS s) :: mobs 18 700 ms) :=
  ⟨⟨h1, rfl⟩, ⟨h2, closed_maps fun n ks h => inO_cons_r (mobs_in h)⟩, keepO_maps h3⟩
/-- The numbers of the called function's objects. -/
def rM (i : Nat) : Nat := if i = 1000 then 18 else i - 301
theorem rM_at (n : Nat) : rM (1001 + n) = 700 + n := by simp only [rM]; rw [if_neg (by omega)]; omega
theorem mobs_big {ms : List (Option (List Int))} : ∀ x ∈ (mobs 1000 1001 ms).map (·.1), 1000 ≤ x := by
  intro x hx
  rw [mobs, List.map_cons, List.mem_cons] at hx
  rcases hx with hx | hx
  · omega
  · obtain ⟨n, _, rfl, _⟩ := ids_maps hx; omega
theorem mobs_nodup {ms : List (Option (List Int))} (h : ms.length ≤ 6) : (((mobs 1000 1001 ms).map (·.1)).map rM).Nodup := by
  rw [mobs, List.map_cons, List.map_cons]
  refine List.nodup_cons.2 ⟨fun hm => ?_, ?_⟩
  · obtain ⟨x, hx, he⟩ := List.mem_map.1 hm
    obtain ⟨n, _, rfl, _⟩ := ids_maps hx
    rw [rM_at] at he
    simp [rM] at he
    omega
  · have hN : ∀ {ms : List (Option (List Int))} {b : Nat}, 1001 ≤ b → (((mapsL b ms).map (·.1)).map rM).Nodup := by
      intro ms
      induction ms with
      | nil => intro b _; exact List.Pairwise.nil
      | cons m l ih =>
        intro b hb
        cases m with
        | none => rw [mapsL]; exact ih (by omega)
        | some ks =>
          rw [mapsL, List.map_cons, List.map_cons]
          refine List.nodup_cons.2 ⟨fun hm => ?_, ih (by omega)⟩
          obtain ⟨x, hx, he⟩ := List.mem_map.1 hm
          obtain ⟨n, _, rfl, _⟩ := ids_maps hx
          simp only [rM] at he
          rw [if_neg (by omega), if_neg (by omega)] at he
          omega
    exact hN (Nat.le_refl _)
theorem mobs_nodup0 {ms : List (Option (List Int))} (h : ms.length ≤ 6) : ((mobs 1000 1001 ms).map (·.1)).Nodup := by
  have := mobs_nodup h
  generalize (mobs 1000 1001 ms).map (·.1) = l at this
  induction l with
  | nil => exact List.Pairwise.nil
  | cons x l ih =>
    rw [List.map_cons] at this
    obtain ⟨h1, h2⟩ := List.nodup_cons.1 this
    exact List.nodup_cons.2 ⟨fun hm => h1 (List.mem_map.2 ⟨x, hm, rfl⟩), ih h2⟩
theorem keep_c {f : Nat → Option Ob} {s : Sch} {ms : List (Option (List Int))} {x : Nat × Ob} (h1 : f 1 = some (vS s)) (h2 : f 18 = some (.var (mapsA 700 ms))) (h3 : ∀ n ks, ms[n]? = some (some ks) → f (700 + n) = some (.mp (encM ks))) :
    keepO f (inO (x :: (1, vS s) :: mobs 18 700 ms)) ((1, vS s) :: mobs 18 700 ms) :=
  ⟨⟨h1, rfl⟩, ⟨h2, closed_maps fun n ks h => inO_cons_r (inO_cons_r (mobs_in h))⟩, keepO_maps h3⟩
theorem keep_b {f : Nat → Option Ob} {s : Sch} {ms : List (Option (List Int))} {es : List (Value × Value)} {k : Nat} (h1 : f 1 = some (vS s)) (h29 : f 29 = some (.mp es)) (h2 : f 18 = some (.var ((mapsA 700 ms).set k (.mp 29)))) (h3 : ∀ n ks, ms[n]? = some (some ks) → f (700 + n) = some (.mp (encM ks))) :
    keepO f (inO ((1, vS s) :: (29, .mp es) :: (18, .var ((mapsA 700 ms).set k (.mp 29))) :: mapsL 700 ms)) ((1, vS s) :: (29, .mp es) :: (18, .var ((mapsA 700 ms).set k (.mp 29))) :: mapsL 700 ms) :=
  ⟨⟨h1, rfl⟩, ⟨h29, rfl⟩, ⟨h2, closedL_set (a := .mp 29) (by simp only [A.closed]; exact inO_cons_r inO_cons_l) _ _ (closed_maps fun n ks h => inO_cons_r (inO_cons_r (inO_cons_r (inO_maps 700 h))))⟩, keepO_maps h3⟩
/-! The law of the order: what it places next, and what it has placed. -/
def fks (s : Sch) (i : Nat) : List Fk := (s.getD i default).foreigns
def freeAt (s : Sch) (p : List Int) (i : Nat) : Bool := !p.contains (i : Int) && (fks s i).all fun f => p.contains (byT s f.table)
def pickM (s : Sch) (p : List Int) : Int := fidx (freeAt s p) (List.range s.length)
def picks (s : Sch) : Nat → List Int
  | 0 => []
  | n + 1 => picks s n ++ [pickM s (picks s n)]
theorem picks_length (s : Sch) : ∀ n, (picks s n).length = n
  | 0 => rfl
  | n + 1 => by rw [picks, List.length_append, picks_length s n]; rfl
def orderOk (s : Sch) : Bool := (List.range s.length).all fun n => decide (0 ≤ pickM s (picks s n))
def orderE (s : Sch) : Int := if orderOk s then 0 else 7
def orderP (s : Sch) : List Int := if orderOk s then picks s s.length else []
def msA (s : Sch) (p : List Int) : List (Option (List Int)) := (List.range s.length).map fun i : Nat => if p.contains (i : Int) then none else some ((depsTo s (fks s i)).filter fun k => !p.contains k)
theorem msA_length (s : Sch) (p : List Int) : (msA s p).length = s.length := by simp [msA]
theorem msA_nil (s : Sch) : ms1 s s.length = msA s [] := by
  unfold ms1 msA
  apply List.map_congr_left
  intro i hi
  rw [if_pos (by simpa using hi)]
  have : ((depsTo s (fks s i)).filter fun k => !([] : List Int).contains k) = depsTo s (fks s i) := List.filter_eq_self.2 fun _ _ => rfl
  rw [if_neg (by simp), this]
  rfl
theorem fidx_map {α β : Type} (p : β → Bool) (g : α → β) : ∀ l : List α, fidx p (l.map g) = fidx (fun x => p (g x)) l
  | [] => rfl
  | x :: l => by simp only [List.map_cons, fidx, fidx_map p g l]
theorem fidx_congr {α : Type} {p q : α → Bool} : ∀ l : List α, (∀ x ∈ l, p x = q x) → fidx p l = fidx q l
  | [], _ => rfl
  | x :: l, h => by simp only [fidx, h x (by simp), fidx_congr l fun y hy => h y (by simp [hy])]
theorem addK_mem (ks : List Int) (k x : Int) : x ∈ addK ks k ↔ x ∈ ks ∨ x = k := by
  unfold addK
  by_cases h : ks.contains k = true
  · rw [if_pos h]
    have : k ∈ ks := by simpa using h
    exact ⟨.inl, fun hx => hx.elim id fun e => e ▸ this⟩
  · rw [if_neg h]; simp
theorem addK_nodup {ks : List Int} (h : ks.Nodup) (k : Int) : (addK ks k).Nodup := by
  unfold addK
  by_cases h2 : ks.contains k = true
  · rwa [if_pos h2]
  · rw [if_neg h2]
    have : k ∉ ks := by simpa using h2
    exact List.nodup_append.2 ⟨h, List.nodup_cons.2 ⟨by simp, List.Pairwise.nil⟩, fun a ha b hb => by simp at hb; subst hb; exact fun e => this (e ▸ ha)⟩
theorem depsTo_mem (s : Sch) (l : List Fk) (x : Int) : x ∈ depsTo s l ↔ ∃ f ∈ l, byT s f.table = x := by
  have : ∀ (l : List Fk) (acc : List Int), x ∈ l.foldl (fun acc f => addK acc (byT s f.table)) acc ↔ x ∈ acc ∨ ∃ f ∈ l, byT s f.table = x := by
    intro l
    induction l with
    | nil => intro acc; simp
    | cons f l ih => intro acc; rw [List.foldl_cons, ih, addK_mem]; simp [eq_comm, or_assoc]
  rw [depsTo, this]; simp
theorem depsTo_nodup (s : Sch) (l : List Fk) : (depsTo s l).Nodup := by
  have : ∀ (l : List Fk) (acc : List Int), acc.Nodup → (l.foldl (fun acc f => addK acc (byT s f.table)) acc).Nodup := by
    intro l
    induction l with
    | nil => intro acc h; exact h
    | cons f l ih => intro acc h; exact ih _ (addK_nodup h _)
  exact this l [] List.Pairwise.nil
theorem pick_msA (s : Sch) (p : List Int) : fidx freeM (msA s p) = pickM s p := by
  rw [msA, fidx_map, pickM]
  refine fidx_congr _ fun i _ => ?_
  rw [freeAt]
  by_cases h : p.contains (i : Int) = true
  · rw [if_pos h, h]; rfl
  · have h2 : p.contains (i : Int) = false := by simpa using h
    rw [if_neg h, h2]
    simp only [freeM, Bool.not_false, Bool.true_and]
    rw [Bool.eq_iff_iff]
    simp only [beq_iff_eq, List.length_eq_zero_iff, List.filter_eq_nil_iff, List.all_eq_true, Bool.not_eq_true', Bool.not_eq_false]
    constructor
    · intro hh f hf; exact hh _ ((depsTo_mem s _ _).2 ⟨f, hf, rfl⟩)
    · intro hh k hk; obtain ⟨f, hf, rfl⟩ := (depsTo_mem s _ _).1 hk; exact hh f hf
def dropK (k : Int) (m : Option (List Int)) : Option (List Int) := m.map (·.erase k)
/-- The maps, when the first j have lost a key. -/
def msJ (k : Int) (ms : List (Option (List Int))) (j : Nat) : List (Option (List Int)) := (ms.take j).map (dropK k) ++ ms.drop j
theorem msJ_length (k : Int) (ms : List (Option (List Int))) (j : Nat) : (msJ k ms j).length = ms.length := by simp [msJ]; omega
theorem msJ_get (k : Int) (ms : List (Option (List Int))) (j : Nat) (h : j < ms.length) : (msJ k ms j)[j]? = ms[j]? := by
  rw [msJ, List.getElem?_append_right (by simp; omega), List.getElem?_drop]
  congr 1
  simp; omega
theorem msJ_succ (k : Int) (ms : List (Option (List Int))) (j : Nat) (m : Option (List Int)) (h : j < ms.length) (hm : ms[j]? = some m) : msJ k ms (j + 1) = (msJ k ms j).set j (dropK k m) := by
  have hg : ms[j] = m := by rw [List.getElem?_eq_getElem h] at hm; simpa using hm
  rw [msJ, msJ, List.take_succ_eq_append_getElem h, List.drop_eq_getElem_cons h, hg, List.map_append, List.set_append_right (h := by simp; omega)]
  have : j - (List.map (dropK k) (List.take j ms)).length = 0 := by simp; omega
  rw [this]
  simp
theorem msJ_all (s : Sch) (p : List Int) (k : Int) (h0 : 0 ≤ k) : msJ k ((msA s p).set k.toNat none) s.length = msA s (p ++ [k]) := by
  have hl : ((msA s p).set k.toNat none).length = s.length := by rw [List.length_set, msA_length]
  rw [msJ, ← hl, List.take_length, List.drop_length, List.append_nil]
  apply List.ext_getElem?
  intro i
  simp only [List.getElem?_map, List.getElem?_set, msA_length]
  by_cases hi : i < s.length
  · have he : k.toNat = i ↔ k = (i : Int) := by omega
    have hg : (msA s p)[i]? = some (if p.contains (i : Int) then none else some ((depsTo s (fks s i)).filter fun k => !p.contains k)) := by simp only [msA, List.getElem?_map]; rw [List.getElem?_range hi]; rfl
    have hg2 : (msA s (p ++ [k]))[i]? = some (if (p ++ [k]).contains (i : Int) then none else some ((depsTo s (fks s i)).filter fun x => !(p ++ [k]).contains x)) := by simp only [msA, List.getElem?_map]; rw [List.getElem?_range hi]; rfl
    rw [hg2, hg]
    by_cases hk : k = (i : Int)
    · have hc : (p ++ [k]).contains (i : Int) = true := by simp [hk]
      rw [if_pos (he.2 hk), if_pos (by omega), hc]; rfl
    · have hc : (p ++ [k]).contains (i : Int) = p.contains (i : Int) := by rw [Bool.eq_iff_iff]; simp; exact fun e => absurd e.symm hk
      rw [if_neg (fun e => hk (he.1 e)), hc]
      by_cases hp : p.contains (i : Int) = true
      · rw [if_pos hp, if_pos hp]; rfl
      · rw [if_neg hp, if_neg hp]
        simp only [Option.map_some, dropK]
        rw [List.Nodup.erase_eq_filter ((depsTo_nodup s (fks s i)).filter _), List.filter_filter]
        congr 2
        apply List.filter_congr
        intro x _
        rw [Bool.eq_iff_iff]; simp [and_comm]
  · have e1 : (msA s p)[i]? = none := List.getElem?_eq_none (by rw [msA_length]; omega)
    have e2 : (msA s (p ++ [k]))[i]? = none := List.getElem?_eq_none (by rw [msA_length]; omega)
    rw [e1, e2]
    split
    · rw [if_neg (by omega)]; rfl
    · rfl
theorem c_order (s : Sch) (hs : s.length ≤ 6) (hf : ∀ t ∈ s, t.foreigns.length ≤ 1000) (hall : ∀ t ∈ s, ∀ f ∈ t.foreigns, 0 ≤ byT s f.table) :
    ACall Tryd.prog 22 [aS s] [] (.tup [ints (orderP s), num (orderE s)]) [] := by
  refine enterq mixed ttok Tryd.func22 Tryd.ntmps22 Tryd.results22 ?_
  generalize hr : A.tup [ints (orderP s), num (orderE s)] = R
  simp -implicitDefEqProofs only [argT, ↓steps, push_cast, simprocAttr, tte]
  refine ⟨by omega, ?_⟩
  refine loop_countO mixed ttok 22 [1, 4, 20, 21] (by simp only [pickT, ends, ite_true, ite_false, reduceIte, Nat.reduceEqDiff, Nat.reduceLeDiff, Nat.reduceLT, Nat.reduceAdd, reduceCtorEq, num, boo, str, ints, aV, aTab, aInst, aS, aT, aC, found, pairA, aFk, vT, lookO_m700]; rfl) [] s.length (fun _ => True) (fun _ => []) (fun n => (1, vS s) :: mobs 18 700 (ms1 s n)) trivial ?_ ?_
  · refine Weak.keepL (by simp [cst, mobs, ends]) ?_ (by simp [cst, ends])
    simp only [cst, List.append_nil]
    refine keep_a rfl ?_ fun n ks h => ?_
    · rw [ms1_zero, mapsA_none]; rfl
    · rw [ms1_zero, List.getElem?_replicate] at h; split at h <;> cases h
  intro I hI n hn hi
  simp -implicitDefEqProofs only [cst, mobs, vS, List.append_nil, ↓steps, push_cast, simprocAttr, tte]
  refine bcase_intro (fun h => ?_) fun h => ?_
  · simp only [decide_eq_true_eq] at h
    have h' : n < s.length := by omega
    refine ⟨(by first | omega | trivial | (refine ⟨?_, ?_⟩ <;> first | omega | trivial | (refine ⟨?_, ?_⟩ <;> first | omega | trivial | (refine ⟨?_, ?_⟩ <;> first | omega | trivial | rfl)))), ?_⟩
    refine ⟨⟨by omega, by omega⟩, by rw [mapsA_length, ms1_length]; omega, ?_⟩
    have hml : n < (mapsA 700 (ms1 s n)).length := by rw [mapsA_length, ms1_length]; omega
    rw [splice_set _ _ _ hml]
    have hlF := hf _ (getD_mem h')
    have hallF := hall _ (getD_mem h')
    generalize hF : (List.getD s n default).foreigns = F at hlF hallF
    refine loop_countO mixed ttok 34 [1, 4, 5, 20, 21, 22, 32, 33] (by simp only [pickT, ends, ite_true, ite_false, reduceIte, Nat.reduceEqDiff, Nat.reduceLeDiff, Nat.reduceLT, Nat.reduceAdd, reduceCtorEq, num, boo, str, ints, aV, aTab, aInst, aS, aT, aC, found, pairA, aFk, vT, lookO_m700]; rfl) [] F.length (fun _ => True) (fun _ => [])
      (fun k => (1, vS s) :: (29, .mp (encM (depsTo s (F.take k)))) :: (18, .var ((mapsA 700 (ms1 s n)).set n (.mp 29))) :: mapsL 700 (ms1 s n)) trivial ?_ ?_
    · refine (Weak.mpAny 29 rfl).trans (Weak.keepL (by simp [cst, ends]) ?_ ?_)
      · simp only [cst, List.append_nil]
        exact keep_b rfl rfl rfl fun i ks hi => by simp only [ends, ite_true, ite_false, reduceIte, Nat.reduceEqDiff, Nat.reduceLeDiff, Nat.reduceLT, Nat.reduceAdd, reduceCtorEq, num, boo, str, ints, aV, aTab, aInst, aS, aT, aC, found, pairA, aFk, vT, lookO_m700, vS]; rw [if_neg (by omega), if_neg (by omega), if_neg (by omega), if_neg (by omega), if_neg (by omega), if_neg (by omega), if_neg (by omega)]; exact lookO_maps_at 700 hi
      · simp [cst, keepIn, in700 (show (ms1 s n).length ≤ 6 by rw [ms1_length]; exact hs)]
    intro J hJ k hk _
    simp -implicitDefEqProofs only [cst, vS, List.append_nil, ↓steps, push_cast, simprocAttr, tte]
    refine bcase_intro (fun g => ?_) fun g => ?_
    · simp only [decide_eq_true_eq] at g
      have k' : k < F.length := by omega
      have hw := wrap_succ k' (by omega)
      refine ⟨(by first | omega | trivial | (refine ⟨?_, ?_⟩ <;> first | omega | trivial | (refine ⟨?_, ?_⟩ <;> first | omega | trivial | (refine ⟨?_, ?_⟩ <;> first | omega | trivial | rfl)))), ?_⟩
      refine callq [[6], [0]] [] (c_find s (F.getD k default).table (by omega)) ?_
      simp -implicitDefEqProofs only [↓steps, push_cast, simprocAttr, tte]
      have hge := hallF _ (getD_mem k')
      refine bcase_intro (fun h => absurd h (by rw [decide_eq_true hge]; decide)) fun _ => ?_
      refine ⟨⟨by omega, by omega⟩, ?_⟩
      rw [List.getElem?_set_self hml]
      simp -implicitDefEqProofs only [if_neg (show ¬ 0 > byT s (F.getD k default).table by omega), mput_enc, ↓steps, push_cast, simprocAttr, tte]
      refine cnt_againW hJ k rfl k' trivial (Weak.keepL (by simp [cst, hw, ends]) ?_ ?_)
      · simp only [cst, List.append_nil]
        exact keep_b rfl (by rw [depsTo_succ s F k k']; rfl) rfl fun i ks hi => by simp only [ends, ite_true, ite_false, reduceIte, Nat.reduceEqDiff, Nat.reduceLeDiff, Nat.reduceLT, Nat.reduceAdd, reduceCtorEq, num, boo, str, ints, aV, aTab, aInst, aS, aT, aC, found, pairA, aFk, vT, lookO_m700, vS]; rw [if_neg (by omega), if_neg (by omega), if_neg (by omega), if_neg (by omega), if_neg (by omega), if_neg (by omega)]; exact lookO_maps_at 700 hi
      · simp [cst, keepIn, in700 (show (ms1 s n).length ≤ 6 by rw [ms1_length]; exact hs)]
    · simp only [decide_eq_false_iff_not] at g
      obtain rfl : k = F.length := by omega
      clear hJ
      have hwn := wrap_succ h' (by omega)
      rw [List.take_length]
      refine cnt_againW hI n rfl h' trivial ?_
      refine (Weak.keepL (σ := ⟨[(22, .d (.lit (.int .i64 (n + 1 : Nat)))), (1, .ptr 1 0), (4, .vs 18 s.length), (20, .d (.sl 6 (rowsOf rT s))), (21, .d (.lit (.int .i64 s.length)))],
        (1, vS s) :: (29, .mp (encM (depsTo s F))) :: (18, .var ((mapsA 700 (ms1 s n)).set n (.mp 29))) :: mapsL 700 (ms1 s n)⟩) (by simp [hwn, ends]) ?_ ?_).trans ?_
      · exact keep_b rfl rfl rfl fun i ks hi => by simp only [ends, ite_true, ite_false, reduceIte, Nat.reduceEqDiff, Nat.reduceLeDiff, Nat.reduceLT, Nat.reduceAdd, reduceCtorEq, num, boo, str, ints, aV, aTab, aInst, aS, aT, aC, found, pairA, aFk, vT, lookO_m700]; rw [if_neg (by omega), if_neg (by omega), if_neg (by omega)]; exact lookO_maps_at 700 hi
      · simp [keepIn, in700 (show (ms1 s n).length ≤ 6 by rw [ms1_length]; exact hs)]
      refine (Weak.ren 29 (700 + n) (by omega) (by omega) ?_).trans ?_
      · rw [lookO_cons_ne (by omega), lookO_cons_ne (by omega), lookO_cons_ne (by omega), lookO_maps, if_pos (by omega), show 700 + n - 700 = n by omega, show (ms1 s n)[n]? = some none by simp [ms1, h']]
      have hrn : ∀ i, i < (ms1 s n).length → ren1to 29 (700 + n) (700 + i) = 700 + i := fun i _ => by simp only [ren1to]; rw [if_neg (by omega)]
      have hset : (mapsA 700 (ms1 s n)).set n (.mp (700 + n)) = mapsA 700 (ms1 s (n + 1)) := by
        rw [← ms1_succ s n h', ← mapsA_set]; rfl
      simp only [renT, renO, A.ren, Ob.ren, renL_set, renL_maps hrn, renO_maps (show 29 < 700 by omega), hF, vS, renL]
      have e1 : ren1to 29 (700 + n) 29 = 700 + n := by simp [ren1to]
      have e2 : ren1to 29 (700 + n) 1 = 1 := by simp [ren1to]
      have e3 : ren1to 29 (700 + n) 18 = 18 := by simp [ren1to]
      rw [e1, e2, e3, hset]
      refine Weak.keepL (by simp [cst, mobs, ends]) ?_ ?_
      · simp only [cst, List.append_nil]
        refine keep_a rfl (by simp only [ends, ite_true, ite_false, reduceIte, Nat.reduceEqDiff, Nat.reduceLeDiff, Nat.reduceLT, Nat.reduceAdd, reduceCtorEq, num, boo, str, ints, aV, aTab, aInst, aS, aT, aC, found, pairA, aFk, vT, lookO_m700]; rw [if_neg (by omega)]) fun i ks hi => ?_
        rw [← ms1_succ s n h', List.getElem?_set] at hi
        simp only [ends, ite_true, ite_false, reduceIte, Nat.reduceEqDiff, Nat.reduceLeDiff, Nat.reduceLT, Nat.reduceAdd, reduceCtorEq, num, boo, str, ints, aV, aTab, aInst, aS, aT, aC, found, pairA, aFk, vT, lookO_m700]
        rw [if_neg (by omega)]
        by_cases hin : n = i
        · subst hin
          rw [if_pos rfl, ms1_length, if_pos h', hF] at hi
          rw [if_pos rfl]
          simp only [Option.some.injEq] at hi
          rw [hi]
        · rw [if_neg hin] at hi
          rw [if_neg (by omega), if_neg (by omega)]
          exact lookO_maps_at 700 hi
      · refine ⟨.inl (by omega), .inl (by omega), .inl (by omega), in700 (by rw [ms1_length]; exact hs)⟩
  simp only [decide_eq_false_iff_not] at h
  obtain rfl : n = s.length := by omega
  clear hI hi hn h I
  rw [msA_nil]
  refine loop_countO mixed ttok 57 [1, 4, 55, 56] (by simp only [pickT, ends, ite_true, ite_false, reduceIte, Nat.reduceEqDiff, Nat.reduceLeDiff, Nat.reduceLT, Nat.reduceAdd, reduceCtorEq, num, boo, str, ints, aV, aTab, aInst, aS, aT, aC, found, pairA, aFk, vT, lookO_m700]; rfl) [] s.length (fun n => ∀ i, i < n → 0 ≤ pickM s (picks s i)) (fun n => [(11, .vec 500 n)])
    (fun n => (500, .vec 3 1 (rowsOf rI (picks s n)) 0) :: (1, vS s) :: mobs 18 700 (msA s (picks s n))) (fun i h => absurd h (Nat.not_lt_zero _)) ?_ ?_
  · refine (Weak.nilL 11 500 3 1 rfl (by simp [lookO, lookO_m700])).trans (Weak.keepL (by simp [cst, mobs, ends]) ?_ ?_)
    · simp only [cst, List.append_nil]
      refine ⟨⟨rfl, rfl⟩, keep_c rfl rfl fun i ks hi => ?_⟩
      simp only [ends, ite_true, ite_false, reduceIte, Nat.reduceEqDiff, Nat.reduceLeDiff, Nat.reduceLT, Nat.reduceAdd, reduceCtorEq, num, boo, str, ints, aV, aTab, aInst, aS, aT, aC, found, pairA, aFk, vT, lookO_m700]
      rw [if_neg (by omega), if_neg (by omega), if_neg (by omega)]
      exact lookO_maps_at 700 hi
    · simp [cst, keepIn, in700 (show (msA s []).length ≤ 6 by rw [msA_length]; exact hs)]
  intro I hI n hn hi
  have hpl := picks_length s n
  simp -implicitDefEqProofs only [cst, mobs, vS, List.append_nil, List.cons_append, List.nil_append, ↓steps, push_cast, simprocAttr, tte]
  refine bcase_intro (fun h => ?_) fun h => ?_
  · simp only [decide_eq_true_eq] at h
    have h' : n < s.length := by omega
    refine callx_same [[], []] rM rfl (c_idxM (msA s (picks s n)) (by rw [msA_length]; exact hs)) rfl (by simp) (by simp only [msA_length]; rfl) rfl ?_ ?_ ?_ ?_ ?_
    · refine ⟨⟨?_, closed_maps fun i ks hi => mobs_in hi⟩, hosL_maps fun i ks hi => ?_⟩
      · simp only [Ob.ren]
        rw [renL_maps (b' := 700) fun i _ => rM_at i]
        rfl
      · rw [rM_at, lookO_cons_ne (by omega), lookO_cons_ne (by omega), lookO_cons_ne (by omega)]; exact lookO_maps_at 700 hi
    · exact mobs_big
    · exact mobs_nodup (by rw [msA_length]; exact hs)
    · exact mobs_nodup0 (by rw [msA_length]; exact hs)
    rw [pick_msA]
    simp -implicitDefEqProofs only [↓steps, push_cast, simprocAttr, tte]
    have hM6 : (msA s (picks s n)).length ≤ 6 := by rw [msA_length]; exact hs
    refine bcase_intro (fun hneg => ?_) fun hneg => ?_
    · have hneg' : ¬ 0 ≤ pickM s (picks s n) := by have := of_decide_eq_true hneg; omega
      have hno : orderOk s = false := bad_range h' (decide_eq_false hneg')
      have hR : A.tup [ints [], num 7] = R := by rw [← hr, orderP, orderE, hno]; rfl
      subst hR
      refine retx_tup [[1], [0]] rfl trivial ⟨trivial, trivial, trivial⟩ rfl rfl trivial ?_
      exact ⟨.inl (by omega), .inl (by omega), .inl (by omega), in700 hM6⟩
    have hge : 0 ≤ pickM s (picks s n) := by have := of_decide_eq_false hneg; omega
    have hlt : pickM s (picks s n) < s.length := by have := fidx_lt (freeAt s (picks s n)) (List.range s.length); rw [List.length_range] at this; exact this
    have hinv : ∀ i, i < n + 1 → 0 ≤ pickM s (picks s i) := fun i h2 => if h3 : i = n then by rw [h3]; exact hge else hi i (by omega)
    have hpk : picks s (n + 1) = picks s n ++ [pickM s (picks s n)] := rfl
    refine ⟨⟨hpl.symm, by omega⟩, ⟨hge, hlt⟩, by rw [mapsA_length, msA_length]; omega, ?_⟩
    have hfin := msJ_all s (picks s n) (pickM s (picks s n)) hge
    rw [splice_set _ _ _ (by rw [mapsA_length, msA_length]; omega), show A.d (D.lit (Value.map none)) = cellM (700 + (pickM s (picks s n)).toNat) none from rfl, mapsA_set]
    have hq : ∀ (i : Nat) (ks : List Int), ((msA s (picks s n)).set (pickM s (picks s n)).toNat none)[i]? = some (some ks) → (msA s (picks s n))[i]? = some (some ks) := by
      intro i ks hq
      rw [List.getElem?_set] at hq
      split at hq
      · split at hq <;> cases hq
      · exact hq
    have hQ6 : ((msA s (picks s n)).set (pickM s (picks s n)).toNat none).length = s.length := by rw [List.length_set, msA_length]
    rw [← hpk] at hfin
    generalize hms : msA s (picks s n) = ms at hq hM6
    rw [hms] at hQ6 hfin
    generalize hQ : ms.set (pickM s (picks s n)).toNat none = Q at hq hQ6 hfin
    generalize hk : pickM s (picks s n) = k at hge hlt
    rw [hk] at hpk hfin hQ
    refine loop_countO mixed ttok 72 [1, 4, 11, 12, 55, 56, 57, 70, 71] (by simp only [pickT, ends, ite_true, ite_false, reduceIte, Nat.reduceEqDiff, Nat.reduceLeDiff, Nat.reduceLT, Nat.reduceAdd, reduceCtorEq, num, boo, str, ints, aV, aTab, aInst, aS, aT, aC, found, pairA, aFk, vT, lookO_m700]; rfl) [] s.length (fun _ => True) (fun _ => [])
      (fun j => (500, .vec 3 1 (rowsOf rI (picks s (n + 1))) 0) :: (1, vS s) :: mobs 18 700 (msJ k Q j)) trivial ?_ ?_
    · refine Weak.keepL (by simp [cst, mobs, ends]) ?_ ?_
      · simp only [cst, List.append_nil]
        refine ⟨⟨by rw [hpk, ← rowsI_snoc]; rfl, rfl⟩, keep_c rfl rfl fun i ks hi => ?_⟩
        simp only [ends, ite_true, ite_false, reduceIte, Nat.reduceEqDiff, Nat.reduceLeDiff, Nat.reduceLT, Nat.reduceAdd, reduceCtorEq, num, boo, str, ints, aV, aTab, aInst, aS, aT, aC, found, pairA, aFk, vT, lookO_m700]
        repeat rw [if_neg (by omega)]
        exact lookO_maps_at 700 (hq i ks hi)
      · simp [cst, keepIn, in700 hM6]
    intro J hJ j hj _
    simp -implicitDefEqProofs only [cst, mobs, vS, List.append_nil, List.cons_append, List.nil_append, ↓steps, push_cast, simprocAttr, tte]
    have hw1 := fun (j' : j < s.length) => wrap_succ j' (by omega)
    refine bcase_intro (fun g => ?_) fun g => ?_
    · simp only [decide_eq_true_eq] at g
      have j' : j < s.length := by omega
      have hw := wrap_succ j' (by omega)
      refine ⟨(by first | omega | trivial | (refine ⟨?_, ?_⟩ <;> first | omega | trivial | (refine ⟨?_, ?_⟩ <;> first | omega | trivial | (refine ⟨?_, ?_⟩ <;> first | omega | trivial | rfl)))), ?_⟩
      have hQj : Q[j]? = some (Q.getD j default) := by rw [List.getD_eq_getElem?_getD, List.getElem?_eq_getElem (by omega)]; rfl
      generalize hm : Q.getD j default = m at hQj
      have hJs := msJ_succ k Q j m (by omega) hQj
      have hJj : (msJ k Q j)[j]? = some m := by rw [msJ_get k Q j (by omega)]; exact hQj
      have hJl := msJ_length k Q j
      have hJ6 : (msJ k Q j).length ≤ 6 := by omega
      have hset : mapsA 700 (msJ k Q (j + 1)) = mapsA 700 (msJ k Q j) := by
        rw [hJs, ← mapsA_set]
        apply List.ext_getElem?
        intro i
        rw [List.getElem?_set, mapsA_length]
        split
        · rename_i he
          subst he
          rw [if_pos (by omega), mapsA_get, hJj]
          cases m <;> rfl
        · rfl
      have hoth : ∀ i ks, i ≠ j → (msJ k Q (j + 1))[i]? = some (some ks) → (msJ k Q j)[i]? = some (some ks) := fun i ks hij hi => by
        rw [hJs, List.getElem?_set, if_neg (fun e => hij e.symm)] at hi; exact hi
      have hown : (msJ k Q (j + 1))[j]? = some (dropK k m) := by rw [hJs, List.getElem?_set, if_pos rfl, if_pos (by omega)]
      rw [mapsA_get, hJj]
      cases m with
      | none =>
        simp -implicitDefEqProofs only [cellM, Option.map_some, ↓steps, push_cast, simprocAttr, tte]
        refine cnt_againW hJ j rfl j' trivial (Weak.keepL (by simp [cst, mobs, hw, ends]) ?_ ?_)
        · simp only [cst, List.append_nil]
          refine ⟨⟨rfl, rfl⟩, keep_c rfl (by rw [hset]; rfl) fun i ks hi => ?_⟩
          simp only [ends, ite_true, ite_false, reduceIte, Nat.reduceEqDiff, Nat.reduceLeDiff, Nat.reduceLT, Nat.reduceAdd, reduceCtorEq, num, boo, str, ints, aV, aTab, aInst, aS, aT, aC, found, pairA, aFk, vT, lookO_m700]
          repeat rw [if_neg (by omega)]
          by_cases hij : i = j
          · subst hij; rw [hown] at hi; cases hi
          · exact lookO_maps_at 700 (hoth i ks hij hi)
        · simp [cst, keepIn, in700 hJ6]
      | some ks0 =>
        have n500 : (500 = 700 + j) = False := eq_false (by omega)
        have n1 : (1 = 700 + j) = False := eq_false (by omega)
        have n18 : (18 = 700 + j) = False := eq_false (by omega)
        simp -implicitDefEqProofs only [cellM, Option.map_some, lookO_maps_at 700 hJj, n500, n1, n18, mdel_enc, ↓steps, push_cast, simprocAttr, tte]
        refine cnt_againW hJ j rfl j' trivial (Weak.keepL (by simp [cst, mobs, hw, ends]) ?_ ?_)
        · simp only [cst, List.append_nil]
          refine ⟨⟨by rw [lookO_cons_ne (by omega)]; rfl, rfl⟩, keep_c (by rw [lookO_cons_ne (by omega)]; rfl) (by rw [hset, lookO_cons_ne (by omega)]; rfl) fun i ks hi => ?_⟩
          by_cases hij : i = j
          · subst hij
            rw [hown] at hi
            simp only [dropK, Option.map_some, Option.some.injEq] at hi
            subst hi
            simp [lookO]
          · simp only [ends, ite_true, ite_false, reduceIte, Nat.reduceEqDiff, Nat.reduceLeDiff, Nat.reduceLT, Nat.reduceAdd, reduceCtorEq, num, boo, str, ints, aV, aTab, aInst, aS, aT, aC, found, pairA, aFk, vT, lookO_m700]
            repeat rw [if_neg (by omega)]
            exact lookO_maps_at 700 (hoth i ks hij hi)
        · exact ⟨.inl (by omega), .inl (by omega), .inl (by omega), .inl (by omega), in700 hJ6⟩
    · simp only [decide_eq_false_iff_not] at g
      obtain rfl : j = s.length := by omega
      rw [hfin]
      clear hJ J
      have hwn := wrap_succ h' (by omega)
      refine cnt_againW hI n rfl h' hinv (Weak.keepL (by simp [cst, mobs, hwn, hpl, ends]) ?_ ?_)
      · simp only [cst, List.append_nil]
        refine ⟨⟨rfl, rfl⟩, keep_c rfl rfl fun i ks hi => ?_⟩
        simp only [ends, ite_true, ite_false, reduceIte, Nat.reduceEqDiff, Nat.reduceLeDiff, Nat.reduceLT, Nat.reduceAdd, reduceCtorEq, num, boo, str, ints, aV, aTab, aInst, aS, aT, aC, found, pairA, aFk, vT, lookO_m700]
        repeat rw [if_neg (by omega)]
        exact lookO_maps_at 700 hi
      · exact ⟨.inl (by omega), .inl (by omega), .inl (by omega), in700 (by rw [msA_length]; exact hs)⟩
  · simp only [decide_eq_false_iff_not] at h
    obtain rfl : n = s.length := by omega
    have hok : orderOk s = true := all_range.2 fun i hi2 => decide_eq_true (hi i hi2)
    have hR : A.tup [ints (picks s s.length), num 0] = R := by rw [← hr, orderP, orderE, hok]; rfl
    subst hR
    refine retx_tup [[1], [0]] rfl trivial ⟨(rowsOf_length rI (picks s s.length)).trans hpl |>.symm, trivial, trivial⟩ rfl rfl trivial ?_
    exact ⟨.inl (by omega), .inl (by omega), .inl (by omega), .inl (by omega), in700 (by rw [msA_length]; exact hs)⟩
end Go.Proofs.YtampbaaiddbacaaDoor
namespace Go.Proofs.YtampbaaiddbacaaDoor
open Go.Am
attribute [local simp, local push_cast] num boo str ints aV aTab aInst aS aT aC found pairA aFk vT
set_option linter.unusedVariables false
set_option maxRecDepth 100000
set_option maxHeartbeats 4000000
def tabErr (s : Sch) (i : Nat) : Int :=
  if !nameP (s.getD i default).name then 3 else if posOf (byT s (s.getD i default).name) < i then 5 else tableM (s.getD i default)
def refErr (s : Sch) (t : Tbl) : Int := ferr (refM s t) t.foreigns
def validS (s : Sch) : Int :=
  if (s.length : Int) > 6 then 8
  else if ferrN (tabErr s) s.length ≠ 0 then ferrN (tabErr s) s.length
  else if ferr (refErr s) s ≠ 0 then ferr (refErr s) s else orderE s
structure SmallS (s : Sch) : Prop where
  len : s.length ≤ 1000
  tab : ∀ t ∈ s, SmallT t
theorem tableM_keys {t : Tbl} (h : tableM t = 0) : keysM t = 0 := by
  by_cases hk : keysM t = 0
  · exact hk
  · exfalso
    revert h
    simp only [tableM]
    repeat' split
    all_goals first | (intro h; omega) | (intro h; exact absurd h (by assumption))
theorem keysM_ok {t : Tbl} (h : keysM t = 0) : okKey t.columns.length t.primary = true ∧ t.primary.any (nullAt t) = false ∧ (moreKeys t).all (okKey t.columns.length) = true := by
  unfold keysM at h
  split at h
  · rename_i h1
    split at h
    · cases h
    · rename_i h2
      split at h
      · rename_i h3; exact ⟨h1, by simpa using h2, h3⟩
      · cases h
  · cases h
theorem table_prim {t : Tbl} (h : tableM t = 0) : ∀ k ∈ t.primary, inC t k := okKey_in (keysM_ok (tableM_keys h)).1
theorem table_fors {t : Tbl} (h : tableM t = 0) : ∀ f ∈ t.foreigns, ∀ k ∈ f.columns, inC t k := fun f hf =>
  okKey_in (List.all_eq_true.1 (keysM_ok (tableM_keys h)).2.2 f.columns (by simp only [moreKeys, List.mem_append, List.mem_map]; exact .inr ⟨f, hf, rfl⟩))
theorem tabErr_table {s : Sch} {i : Nat} (h : tabErr s i = 0) : tableM (s.getD i default) = 0 := by
  unfold tabErr at h
  split at h
  · cases h
  · split at h
    · cases h
    · exact h
theorem ferr_zero {α : Type} {f : α → Int} : ∀ {l : List α}, ferr f l = 0 → ∀ x ∈ l, f x = 0
  | [], _, x, hx => by simp at hx
  | y :: l, h, x, hx => by
    simp only [ferr] at h
    split at h
    · rename_i h0
      rcases List.mem_cons.1 hx with rfl | hx
      · exact h0
      · exact ferr_zero h x hx
    · rename_i h0; exact absurd h h0
theorem refM_at {s : Sch} {t : Tbl} {f : Fk} (h : refM s t f = 0) : 0 ≤ byT s f.table := by
  unfold refM at h
  split at h
  · cases h
  · omega
theorem mem_getD {α : Type} [Inhabited α] {l : List α} {x : α} (h : x ∈ l) : ∃ i, i < l.length ∧ l.getD i default = x := by
  obtain ⟨i, hi, rfl⟩ := List.getElem_of_mem h
  exact ⟨i, hi, by rw [List.getD_eq_getElem?_getD, List.getElem?_eq_getElem hi]; rfl⟩
theorem c_svalid (s : Sch) (hs : SmallS s) : ACall Tryd.prog 12 [aS s] [] (num (validS s)) [] := by
  refine enterq mixed ttok Tryd.func12 Tryd.ntmps12 Tryd.results12 ?_
  generalize hr : num (validS s) = R
  have hl := hs.len
  simp -implicitDefEqProofs only [argT, ↓steps, push_cast, simprocAttr, tte]
  refine bcase_intro (fun h0 => ?_) fun h0 => ?_
  · exact ret_d trivial (by rw [← hr, validS, if_pos (of_decide_eq_true h0)]; rfl) (by simp [ends])
  have h0' : ¬ (s.length : Int) > 6 := of_decide_eq_false h0
  have hM : validS s = if ferrN (tabErr s) s.length ≠ 0 then ferrN (tabErr s) s.length
      else if ferr (refErr s) s ≠ 0 then ferr (refErr s) s else orderE s := by rw [validS, if_neg h0']
  refine loop_count mixed ttok 22 [1, 20, 21] [1] (by simp only [pickT, ends, push_cast, simprocAttr]; rfl) (by simp only [pickO, consO_some, ends, push_cast, simprocAttr]; rfl) s.length (fun n => ∀ i, i < n → tabErr s i = 0) (fun _ => []) (fun _ => []) (fun i h => absurd h (Nat.not_lt_zero _)) ?_ ?_
  · exact Weak.keepL (by simp [cst, ends]) (by simp [cst, ends]) (by simp [cst, ends])
  intro I hI n hn hi
  simp -implicitDefEqProofs only [cst, ↓steps, push_cast, simprocAttr, tte]
  refine bcase_intro (fun h => ?_) fun h => ?_
  · simp only [decide_eq_true_eq] at h
    have h' : n < s.length := by omega
    have hw := wrap_succ h' (by omega)
    have hE : tabErr s n ≠ 0 → num (tabErr s n) = R := fun hne => by
      have := ferrN_at h' hi hne
      rw [← hr, hM, this, if_pos hne]
    have hg : s.getD n default ∈ s := getD_mem h'
    refine ⟨(by first | omega | trivial | (refine ⟨?_, ?_⟩ <;> first | omega | trivial | (refine ⟨?_, ?_⟩ <;> first | omega | trivial | (refine ⟨?_, ?_⟩ <;> first | omega | trivial | rfl)))), ?_⟩
    refine callq [[0]] [] (c_name (s.getD n default).name) ?_
    simp -implicitDefEqProofs only [↓steps, push_cast, simprocAttr, tte]
    refine bcase_intro (fun g1 => ?_) fun g1 => ?_
    · have hc : tabErr s n = 3 := if_pos g1
      exact ret_d trivial (by rw [← hE (by rw [hc]; decide), hc]; rfl) (by simp [ends])
    refine callq [[6], [0]] [] (c_find s (s.getD n default).name (by omega)) ?_
    simp -implicitDefEqProofs only [↓steps, push_cast, simprocAttr, tte]
    refine bcase_intro (fun g2 => ?_) fun g2 => ?_
    · have hc : tabErr s n = 5 := by rw [tabErr, if_neg (by rw [g1]; decide)]; exact if_pos (of_decide_eq_true g2)
      exact ret_d trivial (by rw [← hE (by rw [hc]; decide), hc]; rfl) (by simp [ends])
    have hcB : tabErr s n = tableM (s.getD n default) := by rw [tabErr, if_neg (by rw [g1]; decide)]; exact if_neg (of_decide_eq_false g2)
    refine callq [[0, 3, 1, 1, 2, 6]] [] (c_table (s.getD n default) (hs.tab _ hg)) ?_
    simp -implicitDefEqProofs only [↓steps, push_cast, simprocAttr, tte]
    refine bcase_intro (fun g3 => ?_) fun g3 => ?_
    · have g3' : tabErr s n ≠ 0 := by rw [hcB]; simpa using g3
      exact ret_d trivial (by rw [← hE g3', hcB]; rfl) (by simp [ends])
    · have g3' : tabErr s n = 0 := by rw [hcB]; simpa using g3
      exact cnt_again hI n rfl h' (fun i h2 => if h3 : i = n then by rw [h3]; exact g3' else hi i (by omega)) (by simp [hw, ends]) (by simp [hw, ends]) (by simp [hw, ends]) (by simp [hw, ends])
  simp only [decide_eq_false_iff_not] at h
  obtain rfl : n = s.length := by omega
  have hM2 : validS s = if ferr (refErr s) s ≠ 0 then ferr (refErr s) s else orderE s := by rw [hM, ferrN_none hi, if_neg (by decide)]
  have htab : ∀ t ∈ s, tableM t = 0 := fun t ht => by
    obtain ⟨i, h1, h2⟩ := mem_getD ht
    rw [← h2]; exact tabErr_table (hi i h1)
  clear hI hM h hi hn I
  refine loop_count mixed ttok 50 [1, 48, 49] [1] (by simp only [pickT, ends, push_cast, simprocAttr]; rfl) (by simp only [pickO, consO_some, ends, push_cast, simprocAttr]; rfl) s.length (fun n => ∀ i, i < n → refErr s (s.getD i default) = 0) (fun _ => []) (fun _ => []) (fun i h => absurd h (Nat.not_lt_zero _)) ?_ ?_
  · exact Weak.keepL (by simp [cst, ends]) (by simp [cst, ends]) (by simp [cst, ends])
  intro I hI n hn hi
  simp -implicitDefEqProofs only [cst, ↓steps, push_cast, simprocAttr, tte]
  refine bcase_intro (fun h => ?_) fun h => ?_
  · simp only [decide_eq_true_eq] at h
    have h' : n < s.length := by omega
    have hw := wrap_succ h' (by omega)
    have hg : s.getD n default ∈ s := getD_mem h'
    have hE : refErr s (s.getD n default) ≠ 0 → num (refErr s (s.getD n default)) = R := fun hne => by
      have := ferr_at (refErr s) s n h' hi hne
      rw [← hr, hM2, this, if_pos hne]
    refine ⟨(by first | omega | trivial | (refine ⟨?_, ?_⟩ <;> first | omega | trivial | (refine ⟨?_, ?_⟩ <;> first | omega | trivial | (refine ⟨?_, ?_⟩ <;> first | omega | trivial | rfl)))), ?_⟩
    generalize hu : s.getD n default = u at hg hE
    have hT := hs.tab u hg
    have hTf := hT.fors
    refine loop_count mixed ttok 57 [1, 9, 48, 49, 50, 55, 56] [1, 9] (by simp only [pickT, ends, push_cast, simprocAttr]; rfl) (by simp only [pickO, consO_some, ends, push_cast, simprocAttr]; rfl) u.foreigns.length (fun k => ∀ i, i < k → refM s u (u.foreigns.getD i default) = 0) (fun _ => []) (fun _ => []) (fun i h => absurd h (Nat.not_lt_zero _)) ?_ ?_
    · exact Weak.keepL (by simp [cst, ends]) (by simp [cst, ends]) (by simp [cst, ends])
    intro J hJ k hk hki
    simp -implicitDefEqProofs only [cst, ↓steps, push_cast, simprocAttr, tte]
    refine bcase_intro (fun g => ?_) fun g => ?_
    · simp only [decide_eq_true_eq] at g
      have k' : k < u.foreigns.length := by omega
      have hwk := wrap_succ k' (by omega)
      have hfm : u.foreigns.getD k default ∈ u.foreigns := getD_mem k'
      refine ⟨(by first | omega | trivial | (refine ⟨?_, ?_⟩ <;> first | omega | trivial | (refine ⟨?_, ?_⟩ <;> first | omega | trivial | (refine ⟨?_, ?_⟩ <;> first | omega | trivial | rfl)))), ?_⟩
      refine callq [[6], [0, 3, 1, 1, 2, 6], [1, 0]] [] (c_reference s u (u.foreigns.getD k default) hl (hT.forss _ hfm) (table_fors (htab u hg) _ hfm) (fun v hv => table_prim (htab v hv))) ?_
      simp -implicitDefEqProofs only [↓steps, push_cast, simprocAttr, tte]
      refine bcase_intro (fun g3 => ?_) fun g3 => ?_
      · have g3' : refM s u (u.foreigns.getD k default) ≠ 0 := by simpa using g3
        have hc : refErr s u = refM s u (u.foreigns.getD k default) := ferr_at (refM s u) u.foreigns k k' hki g3'
        exact ret_d trivial (by rw [← hE (by rw [hc]; exact g3'), hc]; rfl) (by simp [ends])
      · have g3' : refM s u (u.foreigns.getD k default) = 0 := by simpa using g3
        exact cnt_again hJ k rfl k' (fun i h2 => if h3 : i = k then by rw [h3]; exact g3' else hki i (by omega)) (by simp [hwk, ends]) (by simp [hwk, ends]) (by simp [hwk, ends]) (by simp [hwk, ends])
    · simp only [decide_eq_false_iff_not] at g
      obtain rfl : k = u.foreigns.length := by omega
      have hz : refErr s u = 0 := ferr_none (refM s u) u.foreigns hki
      exact cnt_again hI n rfl h' (fun i h2 => if h3 : i = n then by rw [h3, hu]; exact hz else hi i (by omega)) (by simp [hw, ends]) (by simp [hw, ends]) (by simp [hw, ends]) (by simp [hw, ends])
  simp only [decide_eq_false_iff_not] at h
  obtain rfl : n = s.length := by omega
  clear hI
  have hz : ferr (refErr s) s = 0 := ferr_none (refErr s) s hi
  have hall : ∀ t ∈ s, ∀ f ∈ t.foreigns, 0 ≤ byT s f.table := fun t ht f hf => refM_at (ferr_zero (ferr_zero hz t ht) f hf)
  refine callq [[6]] [] (c_order s (by omega) (fun t ht => (hs.tab t ht).fors) hall) ?_
  simp -implicitDefEqProofs only [↓steps, push_cast, simprocAttr, tte]
  exact ret_d trivial (by rw [← hr, hM2, if_neg (by rw [hz]; decide)]; rfl) (by simp [ends])
end Go.Proofs.YtampbaaiddbacaaDoor
