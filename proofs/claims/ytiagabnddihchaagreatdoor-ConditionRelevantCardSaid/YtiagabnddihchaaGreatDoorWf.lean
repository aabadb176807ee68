/- Conditions over finite domains (part Wf) -/
import Derived.Test.YtiagabnddihchaaGreatDoorWd
set_option linter.all false
namespace Go.Proofs.YtiagabnddihchaaGreatDoor
open Go.Am
attribute [local simp, local push_cast] num boo str ints aV
set_option linter.unusedVariables false
set_option maxRecDepth 100000
set_option maxHeartbeats 4000000
/-! Folding: the model. -/
/-- Constant, by the value. -/
def constM (v : Val) (t : Int) : Ex :=
  if v.kind = 1 then .mk 2 0 v.num ByteArray.empty 0 [] else if v.kind = 2 then .mk 3 0 v.num ByteArray.empty 0 [] else if v.kind = 3 then .mk 4 0 0 v.text 0 [] else .mk 1 t 0 ByteArray.empty 0 []
def constTy (e : Ex) : Int := if e.op = 1 then e.type else if e.op = 2 then 1 else if e.op = 3 then 2 else 3
def isConst (e : Ex) : Bool := (e.kids.length == 0) && (decide (1 ≤ e.op) && decide (e.op ≤ 4))
def fitsM (e : Ex) : Bool := (decide (6 ≤ e.op) && decide (e.op ≤ 28)) && kidsR e.op e.kids.length
def resultM (e : Ex) : Int :=
  if e.op = 12 then 3 else if e.op ≤ 11 ∨ e.op = 13 then 1 else if e.op = 26 then constTy (e.kids.getD 1 default) else if e.op = 27 then constTy (e.kids.getD 0 default) else 2
/-- The constant of a truth. -/
def isB (e : Ex) (n : Int) : Bool := ((e.op == 3) && (e.kids.length == 0)) && (e.num == n)
def eitherM (e : Ex) (n : Int) : Bool := (e.kids.length == 2) && (isB (e.kids.getD 0 default) n || isB (e.kids.getD 1 default) n)
def logicalM (e : Ex) : Bool := decide (14 ≤ e.op) && decide (e.op ≤ 25)
def knownM (e : Ex) : Bool := fitsM e && (((e.op == 25) || (e.op == 21)) || (e.op == 20))
def ebool (n : Int) : Ex := .mk 3 0 n ByteArray.empty 0 []
def withK (e : Ex) (ks : List Ex) : Ex := .mk e.op e.type e.num e.text e.col ks
/-- What an expression is whose operands are folded: its own turn. -/
def foldO (o : Ex) : Ex :=
  if o.kids ≠ [] ∧ o.kids.all isConst = true ∧ fitsM o = true then constM (evalM [] o) (resultM o)
  else if o.op = 22 ∧ eitherM o 0 = true then ebool 0
  else if o.op = 23 ∧ eitherM o 1 = true then ebool 1
  else if o.kids = [] then o
  else if o.op = 24 ∧ o.kids.length = 1 ∧ (o.kids.getD 0 default).op = 24 ∧ (o.kids.getD 0 default).kids.length = 1 ∧ logicalM ((o.kids.getD 0 default).kids.getD 0 default) = true then (o.kids.getD 0 default).kids.getD 0 default
  else if o.op = 25 ∧ o.kids.length = 1 ∧ knownM (o.kids.getD 0 default) = true then o.kids.getD 0 default
  else if o.op = 26 ∧ o.kids.length = 3 ∧ (o.kids.getD 0 default).op = 3 ∧ (o.kids.getD 0 default).kids.length = 0 then (if (o.kids.getD 0 default).num = 1 then o.kids.getD 1 default else o.kids.getD 2 default)
  else o
mutual
def foldM : Ex → Ex
  | .mk a b c d g ks => foldO (.mk a b c d g (foldL ks))
def foldL : List Ex → List Ex
  | [] => []
  | e :: l => foldM e :: foldL l
end
theorem foldL_eq : ∀ l, foldL l = l.map foldM
  | [] => rfl
  | e :: l => by rw [foldL, foldL_eq l]; rfl
theorem foldM_eq (e : Ex) : foldM e = foldO (withK e (e.kids.map foldM)) := by cases e; rw [foldM, foldL_eq]; rfl
theorem withK_kids (e : Ex) (ks : List Ex) : (withK e ks).kids = ks := rfl
theorem withK_self (e : Ex) : withK e e.kids = e := by cases e; rfl
/-! Folding keeps the value. -/
def normV (v : Val) : Prop := ((v.kind = 1 ∨ v.kind = 2) ∧ v.text = ByteArray.empty) ∨ (v.kind = 3 ∧ v.num = 0) ∨ v = nullV
theorem norm_null : normV nullV := .inr (.inr rfl)
theorem norm_of (b : Bool) : normV (ofV b) := .inl ⟨.inr rfl, rfl⟩
theorem norm_not (v : Val) : normV (notM v) := by unfold notM; split; exact norm_null; exact norm_of _
theorem norm_equal (a b : Val) : normV (equalM a b) := by unfold equalM; split; exact norm_null; exact norm_of _
theorem norm_less (a b : Val) : normV (lessM a b) := by unfold lessM; split; exact norm_null; exact norm_of _
theorem norm_and (a b : Val) : normV (andM a b) := by unfold andM; split; exact norm_of _; split; exact norm_null; exact norm_of _
theorem norm_or (a b : Val) : normV (orM a b) := by unfold orM; split; exact norm_of _; split; exact norm_null; exact norm_of _
theorem norm_in (v : Val) : ∀ (l : List Val) (out : Val), normV out → normV (inM v out l)
  | [], out, h => h
  | x :: l, out, h => norm_in v l _ (norm_or _ _)
theorem norm_validV {v : Val} (h : normV v) : normV (validV v) := by unfold validV; split; exact h; exact norm_null
theorem norm_arith (op : Int) (a b : Val) : normV (arithM op a b) := by
  unfold arithM
  repeat' split
  all_goals first
    | exact norm_null
    | exact norm_validV norm_null
    | exact norm_validV (.inl ⟨.inl rfl, rfl⟩)
    | exact norm_validV (.inr (.inl ⟨rfl, rfl⟩))
    | skip
/-- The operations whose value is a truth or null. -/
def boolish (v : Val) : Prop := v = nullV ∨ ∃ b, v = ofV b
theorem bi_null : boolish nullV := .inl rfl
theorem bi_of (b : Bool) : boolish (ofV b) := .inr ⟨b, rfl⟩
theorem bi_not (v : Val) : boolish (notM v) := by unfold notM; split; exact bi_null; exact bi_of _
theorem bi_equal (a b : Val) : boolish (equalM a b) := by unfold equalM; split; exact bi_null; exact bi_of _
theorem bi_less (a b : Val) : boolish (lessM a b) := by unfold lessM; split; exact bi_null; exact bi_of _
theorem bi_and (a b : Val) : boolish (andM a b) := by unfold andM; split; exact bi_of _; split; exact bi_null; exact bi_of _
theorem bi_or (a b : Val) : boolish (orM a b) := by unfold orM; split; exact bi_of _; split; exact bi_null; exact bi_of _
theorem truth_of (b : Bool) : truthM (ofV b) = if b then 1 else 0 := by cases b <;> simp [truthM, ofV]
theorem truth_null : truthM nullV = 2 := by simp [truthM, nullV]
theorem not_of (b : Bool) : notM (ofV b) = ofV (!b) := by cases b <;> simp [notM, truth_of]
theorem not_null : notM nullV = nullV := by simp [notM, truth_null]
theorem not_not {v : Val} (h : boolish v) : notM (notM v) = v := by
  rcases h with rfl | ⟨b, rfl⟩
  · rw [not_null, not_null]
  · rw [not_of, not_of, Bool.not_not]
theorem iteP {α : Type} {P : α → Prop} {c : Prop} [Decidable c] {a b : α} (h1 : c → P a) (h2 : ¬c → P b) : P (if c then a else b) := by
  split
  · rename_i h; exact h1 h
  · rename_i h; exact h2 h
theorem norm_apply (op : Int) (l : List Val) (h0 : normV (l.getD 0 default)) (h1 : normV (l.getD 1 default)) : normV (applyM op l) := by
  unfold applyM
  repeat' with_reducible refine iteP (P := normV) (fun _ => ?_) fun _ => ?_
  all_goals first
    | exact norm_arith _ _ _
    | exact norm_null
    | exact norm_not _
    | exact norm_equal _ _
    | exact norm_less _ _
    | exact norm_of _
    | exact norm_and _ _
    | exact norm_or _ _
    | exact norm_in _ _ _ (norm_of _)
    | exact h1
    | exact h0
    | exact .inl ⟨.inl rfl, rfl⟩
theorem bi_apply (op : Int) (l : List Val) (h1 : 14 ≤ op) (h2 : op ≤ 25) : boolish (applyM op l) := by
  unfold applyM
  repeat' with_reducible refine iteP (P := boolish) (fun _ => ?_) fun _ => ?_
  all_goals first
    | (exfalso; omega)
    | exact bi_null
    | exact bi_not _
    | exact bi_equal _ _
    | exact bi_less _ _
    | exact bi_of _
    | exact bi_and _ _
    | exact bi_or _ _
theorem isop_of {op : Int} (h1 : 1 ≤ op) (h2 : op ≤ 28) : isOp op = true := by unfold isOp; rw [decide_eq_true h1, decide_eq_true h2]; rfl
theorem eval_flat {e : Ex} (row : List Val) (hk : e.kids = []) (h1 : 1 ≤ e.op) (h4 : e.op ≤ 4) : evalM row e = if e.op = 2 then ⟨1, e.num, ByteArray.empty⟩ else if e.op = 3 then ⟨2, e.num, ByteArray.empty⟩ else if e.op = 4 then ⟨3, 0, e.text⟩ else nullV := by
  have hc : countM e = true := by
    rw [← kids_count (isop_of h1 (by omega)), hk, kidsR, if_pos (by omega)]; rfl
  rw [evalM_eq, evalK, if_neg (by rw [hc]; decide), hk]
  split
  · rfl
  · split
    · rfl
    · split
      · rfl
      · rename_i a b c
        have e1 : e.op = 1 := by omega
        rw [if_neg (by omega), if_neg (by omega), e1]
        simp [applyM]
theorem eval_const {e : Ex} (row : List Val) (h : isConst e = true) : evalM row e = evalM [] e ∧ normV (evalM row e) := by
  unfold isConst at h
  simp only [Bool.and_eq_true, decide_eq_true_eq, beq_iff_eq] at h
  obtain ⟨hk, h1, h4⟩ := h
  have hk := List.length_eq_zero_iff.1 hk
  rw [eval_flat row hk h1 h4, eval_flat [] hk h1 h4]
  refine ⟨rfl, ?_⟩
  repeat' split
  · exact .inl ⟨.inl rfl, rfl⟩
  · exact .inl ⟨.inr rfl, rfl⟩
  · exact .inr (.inl ⟨rfl, rfl⟩)
  · exact norm_null
theorem eval_isB {e : Ex} {n : Int} (row : List Val) (h : isB e n = true) : evalM row e = ⟨2, n, ByteArray.empty⟩ := by
  unfold isB at h
  simp only [Bool.and_eq_true, beq_iff_eq] at h
  obtain ⟨⟨h3, hk⟩, hn⟩ := h
  rw [eval_flat row (List.length_eq_zero_iff.1 hk) (by omega) (by omega), if_neg (by omega), if_pos h3, hn]
theorem eval_ebool (row : List Val) (n : Int) : evalM row (ebool n) = ⟨2, n, ByteArray.empty⟩ := eval_isB row (by simp [isB, ebool, Ex.op, Ex.kids, Ex.num])
theorem eval_constM (row : List Val) {v : Val} (h : normV v) (t : Int) : evalM row (constM v t) = v := by
  obtain ⟨k, n, x⟩ := v
  rcases h with ⟨h | h, h2⟩ | ⟨h, h2⟩ | h
  · dsimp only at h h2; subst h h2
    unfold constM
    rw [if_pos rfl, eval_flat row rfl (by simp [Ex.op]) (by simp [Ex.op])]; rfl
  · dsimp only at h h2; subst h h2
    unfold constM
    rw [if_neg (by simp), if_pos rfl, eval_flat row rfl (by simp [Ex.op]) (by simp [Ex.op])]; rfl
  · dsimp only at h h2; subst h h2
    unfold constM
    rw [if_neg (by simp), if_neg (by simp), if_pos rfl, eval_flat row rfl (by simp [Ex.op]) (by simp [Ex.op])]; rfl
  · rw [h]
    have e : constM nullV t = .mk 1 t 0 ByteArray.empty 0 [] := by simp [constM, nullV]
    rw [e, eval_flat row rfl (by simp [Ex.op]) (by simp [Ex.op])]; rfl
theorem fits_count {e : Ex} (h : fitsM e = true) : 6 ≤ e.op ∧ e.op ≤ 28 ∧ countM e = true := by
  unfold fitsM at h
  simp only [Bool.and_eq_true, decide_eq_true_eq] at h
  obtain ⟨⟨h1, h2⟩, h3⟩ := h
  exact ⟨h1, h2, by rw [← kids_count (isop_of (by omega) h2)]; exact h3⟩
/-- An operation with operands: its value comes from theirs, whatever the row. -/
theorem evalK_row (r1 r2 : List Val) (e : Ex) (vs : List Val) (h : 6 ≤ e.op) : evalK r1 e vs = evalK r2 e vs := by
  unfold evalK
  rw [if_neg (show ¬ e.op = 5 by omega), if_neg (show ¬ e.op = 5 by omega)]
theorem norm_evalK (row : List Val) (e : Ex) (vs : List Val) (h : 6 ≤ e.op) (hv : ∀ v ∈ vs, normV v) : normV (evalK row e vs) := by
  have hg : ∀ n, normV (vs.getD n default) := fun n => by
    by_cases hn : n < vs.length
    · exact hv _ (getD_mem hn)
    · rw [List.getD_eq_getElem?_getD, List.getElem?_eq_none (by omega)]; exact norm_null
  unfold evalK
  split
  · exact norm_null
  · rw [if_neg (by omega), if_neg (by omega), if_neg (by omega), if_neg (by omega)]
    split
    · split
      · exact hg 1
      · exact hg 2
    · exact norm_apply _ _ (hg 0) (hg 1)
theorem evalK_bi (row : List Val) (e : Ex) (vs : List Val) (h : 14 ≤ e.op) (h2 : e.op ≤ 25) : boolish (evalK row e vs) := by
  unfold evalK
  split
  · exact bi_null
  · rw [if_neg (by omega), if_neg (by omega), if_neg (by omega), if_neg (by omega), if_neg (by omega)]
    exact bi_apply _ _ h h2
theorem evalK_apply (row : List Val) (e : Ex) (vs : List Val) (h : 6 ≤ e.op) (h26 : e.op ≠ 26) (hc : countM e = true) : evalK row e vs = applyM e.op vs := by
  unfold evalK
  rw [if_neg (by rw [hc]; decide), if_neg (by omega), if_neg (by omega), if_neg (by omega), if_neg (by omega), if_neg h26]
theorem two_of {l : List Ex} (h : l.length = 2) : ∃ a b, l = [a, b] := by
  match l, h with
  | [a, b], _ => exact ⟨a, b, rfl⟩
theorem count_len {e : Ex} {n : Nat} (h1 : 6 ≤ e.op) (h2 : e.op ≤ 28) (hl : e.kids.length = n) (hk : kidsR e.op n = true) : countM e = true := by
  rw [← kids_count (isop_of (by omega) h2), hl]; exact hk
theorem eval_foldO (row : List Val) (o : Ex) : evalM row (foldO o) = evalM row o := by
  unfold foldO
  split
  · rename_i h
    obtain ⟨hn, ha, hf⟩ := h
    obtain ⟨h6, h28, hc⟩ := fits_count hf
    have hv : ∀ r : List Val, o.kids.map (evalM r) = o.kids.map (evalM []) := fun r => List.map_congr_left fun k hk => (eval_const r (List.all_eq_true.1 ha k hk)).1
    have e1 : evalM row o = evalM [] o := by rw [evalM_eq row, evalM_eq [], hv row]; exact evalK_row _ _ _ _ h6
    rw [e1]
    refine eval_constM row ?_ _
    rw [evalM_eq]
    refine norm_evalK _ _ _ h6 fun v hv => ?_
    obtain ⟨k, hk, rfl⟩ := List.mem_map.1 hv
    exact (eval_const [] (List.all_eq_true.1 ha k hk)).2
  split
  · rename_i h
    obtain ⟨h22, he⟩ := h
    unfold eitherM at he
    simp only [Bool.and_eq_true, beq_iff_eq, Bool.or_eq_true] at he
    obtain ⟨hl, he⟩ := he
    obtain ⟨a, b, hab⟩ := two_of hl
    rw [eval_ebool, evalM_eq, evalK_apply _ _ _ (by omega) (by omega) (count_len (by omega) (by omega) hl (by rw [h22]; rfl)), h22, hab]
    rw [hab] at he
    have h0 : (⟨2, 0, ByteArray.empty⟩ : Val) = ofV false := rfl
    simp only [List.getD_cons_zero, List.getD_cons_succ] at he
    rw [h0]
    rcases he with he | he
    · have := eval_isB row he
      rw [h0] at this
      simp [applyM, this, andM, truth_of]
    · have := eval_isB row he
      rw [h0] at this
      simp [applyM, this, andM, truth_of]
  split
  · rename_i h
    obtain ⟨h23, he⟩ := h
    unfold eitherM at he
    simp only [Bool.and_eq_true, beq_iff_eq, Bool.or_eq_true] at he
    obtain ⟨hl, he⟩ := he
    obtain ⟨a, b, hab⟩ := two_of hl
    rw [eval_ebool, evalM_eq, evalK_apply _ _ _ (by omega) (by omega) (count_len (by omega) (by omega) hl (by rw [h23]; rfl)), h23, hab]
    rw [hab] at he
    have h0 : (⟨2, 1, ByteArray.empty⟩ : Val) = ofV true := rfl
    simp only [List.getD_cons_zero, List.getD_cons_succ] at he
    rw [h0]
    rcases he with he | he
    · have := eval_isB row he
      rw [h0] at this
      simp [applyM, this, orM, truth_of]
    · have := eval_isB row he
      rw [h0] at this
      simp [applyM, this, orM, truth_of]
  split
  · rfl
  split
  · rename_i h
    obtain ⟨h24, hl, g24, gl, hg⟩ := h
    obtain ⟨f, hf⟩ := List.length_eq_one_iff.1 hl
    rw [hf] at g24 gl hg ⊢
    simp only [List.getD_cons_zero] at g24 gl hg ⊢
    obtain ⟨x, hx⟩ := List.length_eq_one_iff.1 gl
    rw [hx] at hg ⊢
    simp only [List.getD_cons_zero] at hg ⊢
    unfold logicalM at hg
    simp only [Bool.and_eq_true, decide_eq_true_eq] at hg
    have e1 : evalM row o = notM (evalM row f) := by
      rw [evalM_eq row o, evalK_apply _ _ _ (by omega) (by omega) (count_len (by omega) (by omega) hl (by rw [h24]; rfl)), h24, hf]
      simp [applyM]
    have e2 : evalM row f = notM (evalM row x) := by
      rw [evalM_eq row f, evalK_apply _ _ _ (by omega) (by omega) (count_len (by omega) (by omega) gl (by rw [g24]; rfl)), g24, hx]
      simp [applyM]
    rw [e1, e2]
    have hb : boolish (evalM row x) := by rw [evalM_eq]; exact evalK_bi _ _ _ hg.1 hg.2
    exact (not_not hb).symm
  split
  · rename_i h
    obtain ⟨h25, hl, hk⟩ := h
    obtain ⟨f, hf⟩ := List.length_eq_one_iff.1 hl
    rw [hf] at hk ⊢
    simp only [List.getD_cons_zero] at hk ⊢
    unfold knownM at hk
    simp only [Bool.and_eq_true, Bool.or_eq_true, beq_iff_eq] at hk
    obtain ⟨hfit, hop⟩ := hk
    obtain ⟨h6, h28, hc⟩ := fits_count hfit
    have e1 : evalM row o = ofV (truthM (evalM row f) == 1) := by
      rw [evalM_eq row o, evalK_apply _ _ _ (by omega) (by omega) (count_len (by omega) (by omega) hl (by rw [h25]; rfl)), h25, hf]
      simp [applyM]
    have e2 : ∃ b, evalM row f = ofV b := by
      rw [evalM_eq row f, evalK_apply _ _ _ h6 (by omega) hc]
      rcases hop with (hop | hop) | hop
      · rw [hop]; exact ⟨_, rfl⟩
      · rw [hop]; exact ⟨_, rfl⟩
      · rw [hop]; exact ⟨_, rfl⟩
    obtain ⟨b, hb⟩ := e2
    rw [e1, hb, truth_of]
    cases b <;> rfl
  split
  · rename_i h
    obtain ⟨h26, hl, g3, gl⟩ := h
    have hc := count_len (e := o) (by omega) (by omega) hl (by rw [h26]; rfl)
    match hk : o.kids, hl with
    | [a, b, c], _ =>
      rw [hk] at g3 gl
      simp only [List.getD_cons_zero, List.getD_cons_succ] at g3 gl ⊢
      have ha : evalM row a = ⟨2, a.num, ByteArray.empty⟩ := by
        rw [eval_flat row (List.length_eq_zero_iff.1 gl) (by omega) (by omega), if_neg (by omega), if_pos g3]
      have ht : truthM (evalM row a) = if a.num = 1 then 1 else 0 := by rw [ha]; simp [truthM]
      have e1 : evalM row o = if truthM (evalM row a) = 1 then evalM row b else evalM row c := by
        rw [evalM_eq row o, evalK, if_neg (by rw [hc]; decide), if_neg (by omega), if_neg (by omega), if_neg (by omega), if_neg (by omega), if_pos h26, hk]; rfl
      rw [e1, ht]
      by_cases hn : a.num = 1
      · rw [if_pos hn, if_pos hn, if_pos rfl]
      · rw [if_neg hn, if_neg hn, if_neg (by decide)]
  · rfl
theorem eval_same (row : List Val) (e : Ex) (ks : List Ex) (h : ks.map (evalM row) = e.kids.map (evalM row)) : evalM row (withK e ks) = evalM row e := by
  rw [evalM_eq row (withK e ks), evalM_eq row e, withK_kids, h]
  have hl : ks.length = e.kids.length := by have := congrArg List.length h; simpa using this
  unfold evalK countM
  rw [withK_kids, hl]
  rfl
theorem eval_fold (row : List Val) : ∀ e : Ex, evalM row (foldM e) = evalM row e :=
  ex_ind (p := fun e => evalM row (foldM e) = evalM row e) fun e ih => by
    rw [foldM_eq, eval_foldO]
    refine eval_same row e _ ?_
    rw [List.map_map]
    exact List.map_congr_left fun k hk => ih k hk
/-! Folding makes nothing larger. -/
mutual
def sizeT : Ex → Nat
  | .mk _ _ _ _ _ ks => 1 + sizeTs ks
def sizeTs : List Ex → Nat
  | [] => 0
  | e :: l => sizeT e + sizeTs l
end
theorem sizeT_eq (e : Ex) : sizeT e = 1 + sizeTs e.kids := by cases e; rw [sizeT]; rfl
theorem sizeTs_mem : ∀ (l : List Ex) (e : Ex), e ∈ l → sizeT e ≤ sizeTs l
  | [], _, h => by simp at h
  | x :: l, e, h => by
    rw [sizeTs]
    rcases List.mem_cons.1 h with rfl | h
    · omega
    · have := sizeTs_mem l e h; omega
theorem kid_lt {e k : Ex} (h : k ∈ e.kids) : sizeT k < sizeT e := by rw [sizeT_eq e]; have := sizeTs_mem _ _ h; omega
theorem getD_kid {e : Ex} {n : Nat} (h : n < e.kids.length) : e.kids.getD n default ∈ e.kids := getD_mem h
theorem sizeT_pos (e : Ex) : 0 < sizeT e := by rw [sizeT_eq]; omega
theorem const_kids (v : Val) (t : Int) : (constM v t).kids = [] := by
  unfold constM
  split
  · rfl
  split
  · rfl
  split
  · rfl
  · rfl
theorem sizeT_const (v : Val) (t : Int) : sizeT (constM v t) = 1 := by rw [sizeT_eq, const_kids]; rfl
/-- Where the operand's turn is another one, it is smaller. -/
theorem foldO_lt (o : Ex) : foldO o = o ∨ sizeT (foldO o) < sizeT o := by
  unfold foldO
  split
  · rename_i h
    right
    rw [sizeT_const]
    obtain ⟨k, hk⟩ := List.exists_mem_of_ne_nil _ h.1
    have := kid_lt hk
    have := sizeT_pos k
    omega
  split
  · rename_i h
    right
    have hl : 0 < o.kids.length := by have := h.2; unfold eitherM at this; simp only [Bool.and_eq_true, beq_iff_eq] at this; omega
    have := kid_lt (getD_kid hl)
    have := sizeT_pos (o.kids.getD 0 default)
    show 1 + 0 < _
    omega
  split
  · rename_i h
    right
    have hl : 0 < o.kids.length := by have := h.2; unfold eitherM at this; simp only [Bool.and_eq_true, beq_iff_eq] at this; omega
    have := kid_lt (getD_kid hl)
    have := sizeT_pos (o.kids.getD 0 default)
    show 1 + 0 < _
    omega
  split
  · exact .inl rfl
  split
  · rename_i h
    right
    have h1 := kid_lt (getD_kid (e := o) (n := 0) (by omega))
    have h2 := kid_lt (getD_kid (e := o.kids.getD 0 default) (n := 0) (by omega))
    omega
  split
  · rename_i h
    right
    exact kid_lt (getD_kid (e := o) (n := 0) (by omega))
  split
  · rename_i h
    right
    split
    · exact kid_lt (getD_kid (e := o) (n := 1) (by omega))
    · exact kid_lt (getD_kid (e := o) (n := 2) (by omega))
  · exact .inl rfl
theorem sizeTs_le {f : Ex → Ex} : ∀ (l : List Ex), (∀ k ∈ l, sizeT (f k) ≤ sizeT k) → sizeTs (l.map f) ≤ sizeTs l
  | [], _ => Nat.le_refl _
  | x :: l, h => by
    rw [List.map_cons, sizeTs, sizeTs]
    have := h x (by simp)
    have := sizeTs_le l fun k hk => h k (by simp [hk])
    omega
theorem size_fold : ∀ e : Ex, sizeT (foldM e) ≤ sizeT e :=
  ex_ind (p := fun e => sizeT (foldM e) ≤ sizeT e) fun e ih => by
    have h1 : sizeT (withK e (e.kids.map foldM)) ≤ sizeT e := by
      rw [sizeT_eq (withK _ _), sizeT_eq e, withK_kids]
      have := sizeTs_le e.kids ih
      omega
    rw [foldM_eq]
    rcases foldO_lt (withK e (e.kids.map foldM)) with h | h
    · rw [h]; exact h1
    · omega
/-! What is folded folds to itself. -/
theorem map_self {f : Ex → Ex} : ∀ (l : List Ex), l.map f = l → ∀ k ∈ l, f k = k
  | [], _, k, hk => by simp at hk
  | x :: l, h, k, hk => by
    rw [List.map_cons] at h
    injection h with h1 h2
    rcases List.mem_cons.1 hk with rfl | hk
    · exact h1
    · exact map_self l h2 k hk
theorem kids_normal {e : Ex} (h : foldM e = e) : ∀ k ∈ e.kids, foldM k = k := by
  have h0 := h
  rw [foldM_eq] at h
  have h1 : sizeT (withK e (e.kids.map foldM)) ≤ sizeT e := by
    rw [sizeT_eq (withK _ _), sizeT_eq e, withK_kids]
    have := sizeTs_le e.kids fun k _ => size_fold k
    omega
  rcases foldO_lt (withK e (e.kids.map foldM)) with g | g
  · rw [g] at h
    have := congrArg Ex.kids h
    rw [withK_kids] at this
    exact map_self _ this
  · rw [h] at g; omega
theorem normal_flat {e : Ex} (h : e.kids = []) : foldM e = e := by
  have hl : e.kids.length = 0 := by rw [h]; rfl
  have hne : eitherM e 0 = false ∧ eitherM e 1 = false := by simp [eitherM, hl]
  rw [foldM_eq, h, List.map_nil, ← h, withK_self, foldO, if_neg (by simp [h]), if_neg (by simp [hne.1]), if_neg (by simp [hne.2]), if_pos h]
theorem kid_norm {o : Ex} (h : ∀ k ∈ o.kids, foldM k = k) {n : Nat} (hn : n < o.kids.length) : foldM (o.kids.getD n default) = o.kids.getD n default := h _ (getD_kid hn)
theorem normal_foldO {o : Ex} (h : ∀ k ∈ o.kids, foldM k = k) : foldM (foldO o) = foldO o := by
  have hid : foldO o = o → foldM o = o := fun g => by
    rw [foldM_eq, show o.kids.map foldM = o.kids from by
      conv => rhs; rw [← List.map_id o.kids]
      exact List.map_congr_left h, withK_self]
    exact g
  have hfin : foldO o = o → foldM (foldO o) = foldO o := fun g => by rw [g]; exact hid g
  unfold foldO at hfin ⊢
  split
  · exact normal_flat (const_kids _ _)
  rename_i a1
  rw [if_neg a1] at hfin
  split
  · exact normal_flat rfl
  rename_i a2
  rw [if_neg a2] at hfin
  split
  · exact normal_flat rfl
  rename_i a3
  rw [if_neg a3] at hfin
  split
  · rename_i g
    exact normal_flat g
  rename_i a4
  rw [if_neg a4] at hfin
  split
  · rename_i g
    exact kid_norm (kids_normal (kid_norm h (n := 0) (by omega))) (by omega)
  rename_i a5
  rw [if_neg a5] at hfin
  split
  · rename_i g
    exact kid_norm h (by omega)
  rename_i a6
  rw [if_neg a6] at hfin
  split
  · rename_i g
    split
    · exact kid_norm h (by omega)
    · exact kid_norm h (by omega)
  rename_i a7
  rw [if_neg a7] at hfin
  exact hfin rfl
theorem fold_fold : ∀ e : Ex, foldM (foldM e) = foldM e :=
  ex_ind (p := fun e => foldM (foldM e) = foldM e) fun e ih => by
    rw [foldM_eq e]
    refine normal_foldO fun k hk => ?_
    rw [withK_kids] at hk
    obtain ⟨x, hx, rfl⟩ := List.mem_map.1 hk
    exact ih x hx
/-- What is folded has as few operands. -/
theorem ok12_const (v : Val) (t : Int) : Ok12 (constM v t) :=
  ⟨_, by rw [const_kids]; exact Nat.zero_le _, fun k hk => by rw [const_kids] at hk; cases hk⟩
theorem ok12_foldO {o : Ex} (h : Ok12 o) : Ok12 (foldO o) := by
  have hg : ∀ n, n < o.kids.length → Ok12 (o.kids.getD n default) := fun n hn => h.kid (getD_kid hn)
  unfold foldO
  split
  · exact ok12_const _ _
  split
  · exact ⟨_, by simp [ebool, Ex.kids], fun k hk => absurd hk (by simp [ebool, Ex.kids])⟩
  split
  · exact ⟨_, by simp [ebool, Ex.kids], fun k hk => absurd hk (by simp [ebool, Ex.kids])⟩
  split
  · exact h
  split
  · exact (hg 0 (by omega)).kid (getD_kid (by omega))
  split
  · exact hg 0 (by omega)
  split
  · split
    · exact hg 1 (by omega)
    · exact hg 2 (by omega)
  · exact h
theorem ok12_fold : ∀ e : Ex, Ok12 e → Ok12 (foldM e) :=
  ex_ind (p := fun e => Ok12 e → Ok12 (foldM e)) fun e ih ho => by
    rw [foldM_eq]
    refine ok12_foldO ⟨_, by rw [withK_kids, List.length_map]; exact ho.kids, fun k hk => ?_⟩
    rw [withK_kids] at hk
    obtain ⟨x, hx, rfl⟩ := List.mem_map.1 hk
    exact ih x hx (ho.kid hx)
end Go.Proofs.YtiagabnddihchaaGreatDoor
namespace Go.Proofs.YtiagabnddihchaaGreatDoor
open Go.Am
attribute [local simp, local push_cast] num boo str ints aV
set_option linter.unusedVariables false
set_option maxRecDepth 100000
set_option maxHeartbeats 4000000
/-! The points of domains. -/
def prodL : List Row → Nat
  | [] => 1
  | l :: d => l.length * prodL d
def strd (d : List Row) (i : Nat) : Nat := prodL (d.drop (i + 1))
def dig (d : List Row) (i n : Nat) : Nat := n / strd d i % (d.getD i default).length
def ptM (d : List Row) (n : Nat) : Row := (List.range d.length).map fun i => (d.getD i default).getD (dig d i n) default
def Full (d : List Row) : Prop := ∀ l ∈ d, 0 < l.length
theorem Full.tail {l : Row} {d : List Row} (h : Full (l :: d)) : Full d := fun x hx => h x (by simp [hx])
theorem Full.drop {d : List Row} (h : Full d) (n : Nat) : Full (d.drop n) := fun x hx => h x (List.mem_of_mem_drop hx)
theorem Full.at {d : List Row} (h : Full d) {i : Nat} (hi : i < d.length) : 0 < (d.getD i default).length := h _ (getD_mem hi)
theorem prod_pos : ∀ {d : List Row}, Full d → 0 < prodL d
  | [], _ => by simp [prodL]
  | l :: d, h => by rw [prodL]; exact Nat.mul_pos (h l (by simp)) (prod_pos h.tail)
theorem strd_pos {d : List Row} (h : Full d) (i : Nat) : 0 < strd d i := prod_pos (h.drop _)
theorem prod_drop {d : List Row} {i : Nat} (hi : i < d.length) : prodL (d.drop i) = (d.getD i default).length * strd d i := by
  rw [drop_cons d i hi, prodL]; rfl
theorem prod_drop_dvd {d : List Row} : ∀ {i j : Nat}, i ≤ j → prodL (d.drop j) ∣ prodL (d.drop i) := by
  intro i j h
  induction j with
  | zero => rw [Nat.le_zero.1 h]; exact Nat.dvd_refl _
  | succ j ih =>
    rcases Nat.lt_or_ge i (j + 1) with h1 | h1
    · refine Nat.dvd_trans ?_ (ih (by omega))
      rcases Nat.lt_or_ge j d.length with h2 | h2
      · rw [prod_drop h2]; exact Nat.dvd_mul_left _ _
      · rw [List.drop_eq_nil_of_le h2, List.drop_eq_nil_of_le (by omega)]; exact Nat.dvd_refl _
    · rw [show i = j + 1 from by omega]; exact Nat.dvd_refl _
theorem dig_lt {d : List Row} (h : Full d) {i : Nat} (hi : i < d.length) (n : Nat) : dig d i n < (d.getD i default).length := Nat.mod_lt _ (h.at hi)
theorem dig_same {d : List Row} {i n : Nat} (h : ¬ strd d i ∣ n + 1) : dig d i (n + 1) = dig d i n := by
  unfold dig; rw [Nat.succ_div_of_not_dvd h]
theorem dig_up {d : List Row} {i n : Nat} (h : strd d i ∣ n + 1) (h2 : dig d i n + 1 < (d.getD i default).length) : dig d i (n + 1) = dig d i n + 1 := by
  unfold dig at h2 ⊢
  rw [Nat.succ_div_of_dvd h, Nat.add_mod, Nat.mod_eq_of_lt (a := 1) (by omega)]
  exact Nat.mod_eq_of_lt h2
theorem dig_over {d : List Row} (hf : Full d) {i n : Nat} (hi : i < d.length) (h : strd d i ∣ n + 1) (h2 : ¬ dig d i n + 1 < (d.getD i default).length) : dig d i (n + 1) = 0 ∧ prodL (d.drop i) ∣ n + 1 := by
  have h3 := dig_lt hf hi n
  unfold dig at h2 h3 ⊢
  have e : (n / strd d i + 1) % (d.getD i default).length = 0 := by
    have : n / strd d i % (d.getD i default).length + 1 = (d.getD i default).length := by omega
    rw [← Nat.mod_add_mod, this, Nat.mod_self]
  refine ⟨by rw [Nat.succ_div_of_dvd h]; exact e, ?_⟩
  rw [prod_drop hi]
  obtain ⟨q, hq⟩ := h
  have hS := strd_pos hf i
  have e2 : n / strd d i + 1 = q := by
    have := Nat.succ_div_of_dvd (a := n) (b := strd d i) ⟨q, hq⟩
    rw [← this, hq, Nat.mul_div_cancel_left _ hS]
  rw [e2] at e
  rw [hq, Nat.mul_comm]
  exact Nat.mul_dvd_mul_left _ (Nat.dvd_of_mod_eq_zero e)
/-- Where no digit runs over, those before stay. -/
theorem dig_stay {d : List Row} (hf : Full d) {i j n : Nat} (hj : j < i) (hi : i < d.length) (h : strd d i ∣ n + 1) (h2 : dig d i n + 1 < (d.getD i default).length) : dig d j (n + 1) = dig d j n := by
  refine dig_same fun hd => ?_
  have h3 : prodL (d.drop i) ∣ n + 1 := Nat.dvd_trans (prod_drop_dvd (show j + 1 ≤ i by omega)) hd
  have h4 := dig_up h h2
  obtain ⟨q, hq⟩ := h3
  rw [prod_drop hi] at hq
  have hS := strd_pos hf i
  have e : (n + 1) / strd d i = (d.getD i default).length * q := by
    rw [hq, Nat.mul_right_comm, Nat.mul_div_cancel _ hS]
  unfold dig at h4
  rw [e, Nat.mul_mod_right] at h4
  omega
/-- The digits, where those from k on are the next point's. -/
def atM (d : List Row) (n k : Nat) : List Int := (List.range d.length).map fun j => ((if j < k then dig d j n else dig d j (n + 1) : Nat) : Int)
def xM (d : List Row) (n k : Nat) : Row := (List.range d.length).map fun j => (d.getD j default).getD (if j < k then dig d j n else dig d j (n + 1)) default
theorem atM_length (d : List Row) (n k : Nat) : (atM d n k).length = d.length := by simp [atM]
theorem xM_length (d : List Row) (n k : Nat) : (xM d n k).length = d.length := by simp [xM]
theorem ptM_length (d : List Row) (n : Nat) : (ptM d n).length = d.length := by simp [ptM]
theorem xM_full (d : List Row) (n : Nat) : xM d n d.length = ptM d n := by
  unfold xM ptM
  exact List.map_congr_left fun j hj => by rw [if_pos (List.mem_range.1 hj)]
theorem atM_get {d : List Row} {n k j : Nat} (hj : j < d.length) : (atM d n k).getD j default = ((if j < k then dig d j n else dig d j (n + 1) : Nat) : Int) := by
  simp [atM, List.getD_eq_getElem?_getD, hj]
theorem map_range_set {α : Type} (f g : Nat → α) (m i : Nat) (a : α) (hi : i < m) (h1 : g i = a) (h2 : ∀ j, j < m → j ≠ i → f j = g j) : ((List.range m).map f).set i a = (List.range m).map g := by
  apply List.ext_getElem?
  intro j
  rw [List.getElem?_set]
  by_cases hj : i = j
  · subst hj
    rw [if_pos rfl]
    simp [hi, h1]
  · rw [if_neg hj]
    by_cases hjm : j < m
    · simp [hjm, h2 j hjm (Ne.symm hj)]
    · simp [hjm]
theorem atM_over {d : List Row} (hf : Full d) {n k : Nat} (hk : k < d.length) (h : prodL (d.drop (k + 1)) ∣ n + 1) (h2 : ¬ dig d k n + 1 < (d.getD k default).length) : (atM d n (k + 1)).set k 0 = atM d n k := by
  refine map_range_set _ _ _ _ _ hk ?_ fun j hj hne => ?_
  · rw [if_neg (by omega), (dig_over hf hk h h2).1]; rfl
  · skip
    by_cases h3 : j < k
    · rw [if_pos (by omega), if_pos h3]
    · rw [if_neg (by omega), if_neg h3]
theorem xM_over {d : List Row} (hf : Full d) {n k : Nat} (hk : k < d.length) (h : prodL (d.drop (k + 1)) ∣ n + 1) (h2 : ¬ dig d k n + 1 < (d.getD k default).length) : (xM d n (k + 1)).set k ((d.getD k default).getD 0 default) = xM d n k := by
  refine map_range_set _ _ _ _ _ hk ?_ fun j hj hne => ?_
  · rw [if_neg (by omega), (dig_over hf hk h h2).1]
  · skip
    by_cases h3 : j < k
    · rw [if_pos (by omega), if_pos h3]
    · rw [if_neg (by omega), if_neg h3]
theorem atM_up {d : List Row} (hf : Full d) {n k : Nat} (hk : k < d.length) (h : prodL (d.drop (k + 1)) ∣ n + 1) (h2 : dig d k n + 1 < (d.getD k default).length) : (atM d n (k + 1)).set k ((dig d k n + 1 : Nat) : Int) = atM d (n + 1) d.length := by
  refine map_range_set _ _ _ _ _ hk ?_ fun j hj hne => ?_
  · rw [if_pos hk, dig_up h h2]
  · skip
    rw [if_pos hj]
    by_cases h3 : j < k
    · rw [if_pos (by omega), dig_stay hf h3 hk h h2]
    · rw [if_neg (by omega)]
theorem xM_up {d : List Row} (hf : Full d) {n k : Nat} (hk : k < d.length) (h : prodL (d.drop (k + 1)) ∣ n + 1) (h2 : dig d k n + 1 < (d.getD k default).length) : (xM d n (k + 1)).set k ((d.getD k default).getD (dig d k n + 1) default) = xM d (n + 1) d.length := by
  refine map_range_set _ _ _ _ _ hk ?_ fun j hj hne => ?_
  · rw [if_pos hk, dig_up h h2]
  · skip
    rw [if_pos hj]
    by_cases h3 : j < k
    · rw [if_pos (by omega), dig_stay hf h3 hk h h2]
    · rw [if_neg (by omega)]
theorem last_point {d : List Row} {n : Nat} (hn : n < prodL d) (h : prodL d ∣ n + 1) : n + 1 = prodL d := by
  have := Nat.le_of_dvd (by omega) h
  omega
/-! Points that differ in one place. -/
theorem dig_eq_of {d : List Row} {i n m : Nat} (h : n / strd d i = m / strd d i) : dig d i n = dig d i m := by unfold dig; rw [h]
/-- The point with another digit. -/
theorem dig_put {d : List Row} (hf : Full d) {i n j v : Nat} (hi : i < d.length) (hj : j < d.length) (hv : v < (d.getD i default).length) :
    dig d j (n - dig d i n * strd d i + v * strd d i) = if j = i then v else dig d j n := by
  have hS := strd_pos hf i
  have hL := hf.at hi
  have hle : dig d i n * strd d i ≤ n := by
    refine Nat.le_trans (Nat.mul_le_mul_right _ (Nat.mod_le _ _)) ?_
    exact Nat.div_mul_le_self _ _
  -- n = ((a * L + g) * S + r)
  obtain ⟨a, g, r, hr, hg, hn⟩ : ∃ a g r, r < strd d i ∧ g < (d.getD i default).length ∧ n = (a * (d.getD i default).length + g) * strd d i + r := by
    refine ⟨n / strd d i / (d.getD i default).length, n / strd d i % (d.getD i default).length, n % strd d i, Nat.mod_lt _ hS, Nat.mod_lt _ hL, ?_⟩
    rw [Nat.div_add_mod', Nat.div_add_mod']
  have hdg : dig d i n = g := by
    unfold dig
    rw [hn, Nat.mul_comm _ (strd d i), Nat.mul_add_div hS, Nat.div_eq_of_lt hr, Nat.add_zero, Nat.mul_add_mod', Nat.mod_eq_of_lt hg]
  have hm : n - dig d i n * strd d i + v * strd d i = (a * (d.getD i default).length + v) * strd d i + r := by
    rw [hdg, hn, Nat.add_mul, Nat.add_mul]
    omega
  rw [hm]
  rcases Nat.lt_trichotomy j i with h | h | h
  · rw [if_neg (by omega), hn]
    refine dig_eq_of ?_
    -- both lie within the same block of L * S
    have hd : prodL (d.drop i) ∣ strd d j := prod_drop_dvd (by omega)
    obtain ⟨q, hq⟩ := hd
    rw [prod_drop hi] at hq
    have key : ∀ w, w < (d.getD i default).length → ((a * (d.getD i default).length + w) * strd d i + r) / strd d j = a / q := by
      intro w hw
      rw [hq, ← Nat.div_div_eq_div_mul]
      congr 1
      have : (a * (d.getD i default).length + w) * strd d i + r = a * ((d.getD i default).length * strd d i) + (w * strd d i + r) := by
        rw [Nat.add_mul, Nat.mul_assoc, Nat.add_assoc]
      have hw2 : w * strd d i + r < (d.getD i default).length * strd d i := by
        have : (w + 1) * strd d i ≤ (d.getD i default).length * strd d i := Nat.mul_le_mul_right _ hw
        rw [Nat.add_mul] at this
        omega
      rw [this, Nat.mul_comm a, Nat.mul_add_div (Nat.mul_pos hL hS), Nat.div_eq_of_lt hw2, Nat.add_zero]
    rw [key v hv, key g hg]
  · subst h
    rw [if_pos rfl]
    unfold dig
    rw [Nat.mul_comm _ (strd d j), Nat.mul_add_div hS, Nat.div_eq_of_lt hr, Nat.add_zero, Nat.mul_add_mod', Nat.mod_eq_of_lt hv]
  · rw [if_neg (by omega), hn]
    unfold dig
    have hdj : prodL (d.drop j) ∣ strd d i := prod_drop_dvd (by omega)
    obtain ⟨q, hq⟩ := hdj
    rw [prod_drop hj] at hq
    have key : ∀ w, ((a * (d.getD i default).length + w) * strd d i + r) / strd d j % (d.getD j default).length = r / strd d j % (d.getD j default).length := by
      intro w
      have hSj := strd_pos hf j
      have e : (a * (d.getD i default).length + w) * strd d i + r = strd d j * ((d.getD j default).length * (q * (a * (d.getD i default).length + w))) + r := by
        rw [hq]
        congr 1
        rw [Nat.mul_comm (a * _ + w), ← Nat.mul_assoc, ← Nat.mul_assoc, Nat.mul_comm (strd d j)]
      rw [e, Nat.mul_add_div hSj, Nat.mul_add_mod]
    rw [key v, key g]
theorem pt_put {d : List Row} (hf : Full d) {i n v : Nat} (hi : i < d.length) (hv : v < (d.getD i default).length) :
    ptM d (n - dig d i n * strd d i + v * strd d i) = (ptM d n).set i ((d.getD i default).getD v default) := by
  symm
  refine map_range_set _ _ _ _ _ hi ?_ fun j hj hne => ?_
  · rw [dig_put hf hi hi hv, if_pos rfl]
  · rw [dig_put hf hi hj hv, if_neg hne]
theorem put_lt {d : List Row} (hf : Full d) {i n v : Nat} (hi : i < d.length) (hv : v < (d.getD i default).length) (hn : n < prodL d) : n - dig d i n * strd d i + v * strd d i < prodL d := by
  have hS := strd_pos hf i
  have hL := hf.at hi
  have hd : prodL (d.drop i) ∣ prodL d := by have := prod_drop_dvd (d := d) (Nat.zero_le i); simpa using this
  obtain ⟨q, hq⟩ := hd
  rw [prod_drop hi] at hq
  have hle : dig d i n * strd d i ≤ n := Nat.le_trans (Nat.mul_le_mul_right _ (Nat.mod_le _ _)) (Nat.div_mul_le_self _ _)
  have h1 : n = (n / strd d i / (d.getD i default).length * (d.getD i default).length + dig d i n) * strd d i + n % strd d i := by
    show n = (_ * _ + n / strd d i % (d.getD i default).length) * strd d i + _
    rw [Nat.div_add_mod', Nat.div_add_mod']
  have h2 : n % strd d i < strd d i := Nat.mod_lt _ hS
  have h3 : n / strd d i / (d.getD i default).length < q := by
    rw [Nat.div_div_eq_div_mul, Nat.mul_comm (strd d i)]
    exact Nat.div_lt_of_lt_mul (by rw [← hq]; exact hn)
  generalize n / strd d i / (d.getD i default).length = a at h1 h3
  generalize n % strd d i = r at h1 h2
  generalize dig d i n = g at h1 hle ⊢
  generalize strd d i = S at *
  generalize (d.getD i default).length = L at *
  have e : n - g * S + v * S = (a * L + v) * S + r := by
    rw [h1, Nat.add_mul, Nat.add_mul]; omega
  rw [e, hq]
  have h4 : (a * L + v) + 1 ≤ (a + 1) * L := by rw [Nat.add_mul]; omega
  have h5 : (a + 1) * L ≤ L * q := by rw [Nat.mul_comm]; exact Nat.mul_le_mul_left _ h3
  have h6 : ((a * L + v) + 1) * S ≤ L * q * S := Nat.mul_le_mul_right _ (Nat.le_trans h4 h5)
  rw [Nat.add_mul] at h6
  have : L * S * q = L * q * S := by rw [Nat.mul_right_comm]
  omega
end Go.Proofs.YtiagabnddihchaaGreatDoor
namespace Go.Proofs.YtiagabnddihchaaGreatDoor
open Go.Am
attribute [local simp, local push_cast] num boo str ints aV aRow
set_option linter.unusedVariables false
set_option maxRecDepth 100000
set_option maxHeartbeats 4000000
/-! Folding: the small functions. -/
theorem ret_bool {b c : Bool} {t : List (Nat × A)} {o : List (Nat × Ob)} (h : b = true ↔ c = true) (ho : keepIn (inO []) o) : retx (some (True, A.d (.lit (.bool b)))) ⟨t, o⟩ (boo c) [] := by
  have e : b = c := Bool.eq_iff_iff.2 h
  subst e
  exact ret_d trivial rfl ho
theorem const_iff (e : Ex) : isConst e = true ↔ e.kids.length = 0 ∧ 1 ≤ e.op ∧ e.op ≤ 4 := by
  unfold isConst; simp only [Bool.and_eq_true, decide_eq_true_eq, beq_iff_eq]
theorem const_no {e : Ex} (h : ¬ (e.kids.length = 0 ∧ 1 ≤ e.op ∧ e.op ≤ 4)) : isConst e = false := by
  rw [← Bool.not_eq_true, const_iff]; exact h
theorem fits_iff (e : Ex) : fitsM e = true ↔ (6 ≤ e.op ∧ e.op ≤ 28) ∧ ((e.op = 11 ∨ e.op = 13 ∨ e.op = 21 ∨ e.op = 24 ∨ e.op = 25) ∧ e.kids.length = 1 ∨ e.op = 26 ∧ e.kids.length = 3 ∨ e.op = 28 ∧ 2 ≤ e.kids.length ∨
    ¬ (e.op = 11 ∨ e.op = 13 ∨ e.op = 21 ∨ e.op = 24 ∨ e.op = 25 ∨ e.op = 26 ∨ e.op = 28) ∧ e.kids.length = 2) := by
  unfold fitsM kidsR
  generalize e.kids.length = n
  generalize e.op = op
  simp only [Bool.and_eq_true, decide_eq_true_eq, and_congr_right_iff]
  intro h
  rw [if_neg (by omega)]
  split
  · rename_i h2
    simp only [Bool.or_eq_true, beq_iff_eq] at h2 ⊢
    omega
  · rename_i h2
    simp only [Bool.or_eq_true, beq_iff_eq] at h2
    split
    · rename_i h3
      simp only [beq_iff_eq] at h3 ⊢
      omega
    · rename_i h3
      simp only [beq_iff_eq] at h3
      split
      · rename_i h4
        simp only [beq_iff_eq, decide_eq_true_eq] at h4 ⊢
        omega
      · rename_i h4
        simp only [beq_iff_eq] at h4 ⊢
        omega
theorem isB_iff (e : Ex) (n : Int) : isB e n = true ↔ (e.op = 3 ∧ e.kids.length = 0) ∧ e.num = n := by
  unfold isB; simp only [Bool.and_eq_true, beq_iff_eq]
theorem c_constant (e : Ex) : ACall Tryz.prog 78 [aE e] [] (.tup [num (if isConst e = true then constTy e else 0), boo (isConst e)]) [] := by
  refine enterq mixed ttok Tryz.func78 Tryz.ntmps78 Tryz.results78 ?_
  generalize hr : A.tup [num (if isConst e = true then constTy e else 0), boo (isConst e)] = R
  simp -implicitDefEqProofs only [argT, ↓steps, push_cast, simprocAttr, tte]
  refine bcase_intro (fun h0 => ?_) fun h0 => ?_
  · have hc : isConst e = false := const_no (by simp only [decide_eq_true_eq] at h0; omega)
    exact ret_d2 trivial (by rw [← hr, hc]; rfl) (by simp [ends])
  have hk : e.kids.length = 0 := by simp only [decide_eq_false_iff_not] at h0; omega
  refine bcase_intro (fun h1 => ?_) fun h1 => ?_
  · have e1 : e.op = 1 := by simpa using h1
    have hc : isConst e = true := (const_iff e).2 (by omega)
    have ht : constTy e = e.type := by simp [constTy, e1]
    exact ret_d2 trivial (by rw [← hr, hc, ht]; rfl) (by simp [ends])
  refine bcase_intro (fun h2 => ?_) fun h2 => ?_
  · have e1 : e.op = 2 := by simpa using h2
    have hc : isConst e = true := (const_iff e).2 (by omega)
    have ht : constTy e = 1 := by simp [constTy, e1]
    exact ret_d2 trivial (by rw [← hr, hc, ht]; rfl) (by simp [ends])
  refine bcase_intro (fun h3 => ?_) fun h3 => ?_
  · have e1 : e.op = 3 := by simpa using h3
    have hc : isConst e = true := (const_iff e).2 (by omega)
    have ht : constTy e = 2 := by simp [constTy, e1]
    exact ret_d2 trivial (by rw [← hr, hc, ht]; rfl) (by simp [ends])
  refine bcase_intro (fun h4 => ?_) fun h4 => ?_
  · have e1 : e.op = 4 := by simpa using h4
    have hc : isConst e = true := (const_iff e).2 (by omega)
    have ht : constTy e = 3 := by simp [constTy, e1]
    exact ret_d2 trivial (by rw [← hr, hc, ht]; rfl) (by simp [ends])
  have hc : isConst e = false := const_no (by simp only [beq_eq_false_iff_ne, ne_eq] at h1 h2 h3 h4; omega)
  exact ret_d2 trivial (by rw [← hr, hc]; rfl) (by simp [ends])
theorem c_fits (e : Ex) : ACall Tryz.prog 79 [aE e] [] (boo (fitsM e)) [] := by
  refine enterq mixed ttok Tryz.func79 Tryz.ntmps79 Tryz.results79 ?_
  have hi := fits_iff e
  simp -implicitDefEqProofs only [argT, ↓steps, push_cast, simprocAttr, tte]
  repeat' refine bcase_intro (fun h => ?_) fun h => ?_
  all_goals
    refine ret_bool ?_ (by simp [ends])
    rw [hi]
    clear hi
    simp only [beq_iff_eq, beq_eq_false_iff_ne, ne_eq, decide_eq_true_eq, decide_eq_false_iff_not, Bool.false_eq_true, false_iff, true_iff, eq_self] at *
    omega
theorem c_truthE (e : Ex) (n : Int) : ACall Tryz.prog 104 [aE e, num n] [] (boo (isB e n)) [] := by
  refine enterq mixed ttok Tryz.func104 Tryz.ntmps104 Tryz.results104 ?_
  have hi := isB_iff e n
  simp -implicitDefEqProofs only [argT, ↓steps, push_cast, simprocAttr, tte]
  repeat' refine bcase_intro (fun h => ?_) fun h => ?_
  all_goals
    refine ret_bool ?_ (by simp [ends])
    rw [hi]
    clear hi
    simp only [beq_iff_eq, beq_eq_false_iff_ne, ne_eq, decide_eq_true_eq, decide_eq_false_iff_not, Bool.false_eq_true, false_iff, true_iff, eq_self] at *
    omega
theorem c_logical (e : Ex) : ACall Tryz.prog 83 [aE e] [] (boo (logicalM e)) [] := by
  refine enterq mixed ttok Tryz.func83 Tryz.ntmps83 Tryz.results83 ?_
  have hi : logicalM e = true ↔ 14 ≤ e.op ∧ e.op ≤ 25 := by unfold logicalM; simp only [Bool.and_eq_true, decide_eq_true_eq]
  simp -implicitDefEqProofs only [argT, ↓steps, push_cast, simprocAttr, tte]
  repeat' refine bcase_intro (fun h => ?_) fun h => ?_
  all_goals
    refine ret_bool ?_ (by simp [ends])
    rw [hi]
    clear hi
    simp only [beq_iff_eq, beq_eq_false_iff_ne, ne_eq, decide_eq_true_eq, decide_eq_false_iff_not, Bool.false_eq_true, false_iff, true_iff, eq_self] at *
    omega
def resC (e : Ex) : Int := if e.op = 2 then 1 else if e.op = 3 then 2 else if e.op = 4 then 3 else e.type
theorem c_result23 (e : Ex) (hf : fitsM e = true) (hc : ∀ k ∈ e.kids, isConst k = true) : ACall Tryz.prog 81 [aE e] [] (num (resultM e)) [] := by
  have hi := (fits_iff e).1 hf
  refine enterq mixed ttok Tryz.func81 Tryz.ntmps81 Tryz.results81 ?_
  generalize hr : num (resultM e) = R
  unfold resultM at hr
  simp -implicitDefEqProofs only [argT, ↓steps, push_cast, simprocAttr, tte]
  refine bcase_intro (fun h12 => ?_) fun h12 => ?_
  · rw [if_pos (by simpa using h12)] at hr
    exact ret_d trivial hr (by simp [ends])
  have n12 : ¬ e.op = 12 := by simpa using h12
  rw [if_neg n12] at hr
  have k13 : ∀ (P : SL → Prop), True := fun _ => trivial
  refine bcase_intro (fun h11 => ?_) fun h11 => ?_
  · rw [if_pos (.inl (by simpa using h11))] at hr
    refine bcase_intro (fun _ => ?_) fun h => absurd h (by rw [h11]; decide)
    exact ret_d trivial hr (by simp [ends])
  have n11 : ¬ e.op ≤ 11 := by simpa using h11
  refine bcase_intro (fun h13 => ?_) fun h13 => ?_
  · rw [if_pos (.inr (by simpa using h13))] at hr
    exact ret_d trivial hr (by simp [ends])
  have n13 : ¬ e.op = 13 := by simpa using h13
  rw [if_neg (by omega)] at hr
  refine bcase_intro (fun h26 => ?_) fun h26 => ?_
  · have e26 : e.op = 26 := by simpa using h26
    have hl : 1 < e.kids.length := by omega
    rw [if_pos e26] at hr
    have hk := hc _ (getD_mem hl)
    have h1 := c_constant (e.kids.getD 1 default)
    rw [hk, if_pos rfl] at h1
    refine ⟨by omega, ?_⟩
    refine callq [[0, 0, 0, 0, 0, 6]] [] (h1) ?_
    simp -implicitDefEqProofs only [↓steps, push_cast, simprocAttr, tte]
    exact ret_d trivial hr (by simp [ends])
  have n26 : ¬ e.op = 26 := by simpa using h26
  rw [if_neg n26] at hr
  refine bcase_intro (fun h27 => ?_) fun h27 => ?_
  · have e27 : e.op = 27 := by simpa using h27
    have hl : 0 < e.kids.length := by omega
    rw [if_pos e27] at hr
    have hk := hc _ (getD_mem hl)
    have h1 := c_constant (e.kids.getD 0 default)
    rw [hk, if_pos rfl] at h1
    refine ⟨by omega, ?_⟩
    refine callq [[0, 0, 0, 0, 0, 6]] [] (h1) ?_
    simp -implicitDefEqProofs only [↓steps, push_cast, simprocAttr, tte]
    exact ret_d trivial hr (by simp [ends])
  rw [if_neg (by simpa using h27)] at hr
  exact ret_d trivial hr (by simp [ends])
theorem c_either (e : Ex) (n : Int) : ACall Tryz.prog 82 [aE e, num n] [] (boo (eitherM e n)) [] := by
  refine enterq mixed ttok Tryz.func82 Tryz.ntmps82 Tryz.results82 ?_
  generalize hr : boo (eitherM e n) = R
  unfold eitherM at hr
  simp -implicitDefEqProofs only [argT, ↓steps, push_cast, simprocAttr, tte]
  refine bcase_intro (fun h2 => ?_) fun h2 => ?_
  · have hl : e.kids.length = 2 := by simp only [beq_iff_eq] at h2; omega
    refine ⟨by omega, ?_⟩
    refine callq [[0, 0, 0, 0, 0, 6], []] [] (c_truthE (e.kids.getD 0 default) n) ?_
    simp -implicitDefEqProofs only [↓steps, push_cast, simprocAttr, tte]
    refine bcase_intro (fun h3 => ?_) fun h3 => ?_
    · rw [h3, hl] at hr
      exact ret_d trivial hr (by simp [ends])
    · rw [h3, hl] at hr
      refine ⟨by omega, ?_⟩
      refine callq [[0, 0, 0, 0, 0, 6], []] [] (c_truthE (e.kids.getD 1 default) n) ?_
      simp -implicitDefEqProofs only [↓steps, push_cast, simprocAttr, tte]
      exact ret_d trivial hr (by simp [ends])
  · have hl : ¬ e.kids.length = 2 := by simp only [beq_eq_false_iff_ne, ne_eq] at h2; omega
    rw [beq_false_of_ne hl] at hr
    exact ret_d trivial hr (by simp [ends])
end Go.Proofs.YtiagabnddihchaaGreatDoor
