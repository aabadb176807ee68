/- Instances that are made to be valid are valid: a proof over an abstract machine of our own (part Wh) -/
import Derived.Test.YtodoeplhcmecjaaGreatDoorWf
import Derived.Test.YtodoeplhcmecjaaGreatDoorWc
import Derived.Test.YtodoeplhcmecjaaGreatDoorWg
import Derived.Test.YtodoeplhcmecjaaGreatDoorLe
set_option linter.all false
namespace Go.Proofs.YtodoeplhcmecjaaGreatDoor
open Go.Am
set_option linter.unusedVariables false
set_option maxRecDepth 100000
/-! A text determines the values. -/
def tx (b : ByteArray) : List UInt8 := b.data.toList
theorem tx_append (a b : ByteArray) : tx (a ++ b) = tx a ++ tx b := by simp [tx, ByteArray.data_append]
theorem tx_inj {a b : ByteArray} (h : tx a = tx b) : a = b := ByteArray.ext (Array.toList_inj.1 h)
def dv (l : List UInt8) : Nat := l.foldl (fun a c => a * 10 + (c.toNat - 48)) 0
theorem dv_snoc (l : List UInt8) (c : UInt8) : dv (l ++ [c]) = dv l * 10 + (c.toNat - 48) := by simp [dv]
theorem dg_val {u : Nat} (h : u < 10) : (UInt8.ofNat (48 + u)).toNat = 48 + u := by
  simp; omega
theorem dv_dec : ∀ u : Nat, dv (Lib.decDigits u) = u := by
  intro u
  induction u using Nat.strongRecOn with
  | ind u ih =>
    rw [Lib.decDigits]
    split
    · rename_i h
      show 0 * 10 + ((UInt8.ofNat (48 + u)).toNat - 48) = u
      rw [dg_val h]; omega
    · rename_i h
      rw [dv_snoc, ih (u / 10) (by omega), dg_val (by omega)]
      omega
theorem dec_digit : ∀ (u : Nat), ∀ c ∈ Lib.decDigits u, 48 ≤ c.toNat ∧ c.toNat ≤ 57 := by
  intro u
  induction u using Nat.strongRecOn with
  | ind u ih =>
    rw [Lib.decDigits]
    split
    · rename_i h
      intro c hc
      simp only [List.mem_singleton] at hc
      rw [hc, dg_val h]; omega
    · rename_i h
      intro c hc
      rcases List.mem_append.1 hc with hc | hc
      · exact ih (u / 10) (by omega) c hc
      · simp only [List.mem_singleton] at hc
        rw [hc, dg_val (by omega)]; omega
theorem dec_inj {u v : Nat} (h : Lib.decDigits u = Lib.decDigits v) : u = v := by rw [← dv_dec u, ← dv_dec v, h]
theorem itoa_inj {a b : Int} (h : Lib.itoa a = Lib.itoa b) : a = b := by
  unfold Lib.itoa at h
  split at h <;> split at h
  · simp only [List.cons.injEq, true_and] at h
    have := dec_inj h
    omega
  · exfalso
    have : (45 : UInt8) ∈ Lib.decDigits b.toNat := by rw [← h]; simp
    have := dec_digit _ _ this
    simp at this
  · exfalso
    have : (45 : UInt8) ∈ Lib.decDigits a.toNat := by rw [h]; simp
    have := dec_digit _ _ this
    simp at this
  · have := dec_inj h
    omega
theorem itoa_chars (a : Int) : ∀ c ∈ Lib.itoa a, c.toNat = 45 ∨ (48 ≤ c.toNat ∧ c.toNat ≤ 57) := by
  intro c hc
  unfold Lib.itoa at hc
  split at hc
  · rcases List.mem_cons.1 hc with rfl | hc
    · left; rfl
    · right; exact dec_digit _ _ hc
  · right; exact dec_digit _ _ hc
/-- What stands ahead of the first of some letter. -/
theorem cut_at {c : UInt8} : ∀ {a b s t : List UInt8}, c ∉ a → c ∉ b → a ++ c :: s = b ++ c :: t → a = b ∧ s = t
  | [], [], s, t, _, _, h => by simpa using h
  | [], y :: b, s, t, _, hb, h => by
    simp only [List.nil_append, List.cons_append, List.cons.injEq] at h
    exact absurd (h.1 ▸ List.mem_cons_self) hb
  | x :: a, [], s, t, ha, _, h => by
    simp only [List.nil_append, List.cons_append, List.cons.injEq] at h
    exact absurd (h.1 ▸ List.mem_cons_self) ha
  | x :: a, y :: b, s, t, ha, hb, h => by
    simp only [List.cons_append, List.cons.injEq] at h
    have := cut_at (fun q => ha (List.mem_cons_of_mem _ q)) (fun q => hb (List.mem_cons_of_mem _ q)) h.2
    exact ⟨by rw [h.1, this.1], this.2⟩
/-- A value of a type, or null. -/
structure OfType (v : Val) (T : Int) : Prop where
  ok : validM v = true
  k : v.kind = 0 ∨ v.kind = T
theorem toList_nil {s : ByteArray} (h : (s.toList == []) = true) : s = ByteArray.empty := by
  have h2 : s.toList = [] := by simpa using h
  have : s.data.toList = [] := by rw [← ByteArray.toList_eq]; exact h2
  apply ByteArray.ext
  apply Array.toList_inj.1
  rw [this]; rfl
theorem valid_0 {v : Val} (h : validM v = true) (hk : v.kind = 0) : v = ⟨0, 0, ByteArray.empty⟩ := by
  unfold validM at h
  rw [if_pos hk] at h
  simp only [Bool.and_eq_true, beq_iff_eq] at h
  obtain ⟨k, n, s⟩ := v
  simp only at h hk ⊢
  rw [hk, h.1, toList_nil (s := s) (by simpa using h.2)]
theorem valid_1 {v : Val} (h : validM v = true) (hk : v.kind = 1) : v = ⟨1, v.num, ByteArray.empty⟩ := by
  unfold validM at h
  rw [if_neg (by omega), if_pos hk] at h
  simp only [Bool.and_eq_true, beq_iff_eq] at h
  obtain ⟨k, n, s⟩ := v
  simp only at h hk ⊢
  rw [hk, toList_nil (s := s) (by simpa using h.2)]
theorem valid_2 {v : Val} (h : validM v = true) (hk : v.kind = 2) : v = ⟨2, v.num, ByteArray.empty⟩ ∧ (v.num = 0 ∨ v.num = 1) := by
  unfold validM at h
  rw [if_neg (by omega), if_neg (by omega), if_pos hk] at h
  simp only [Bool.and_eq_true, Bool.or_eq_true, beq_iff_eq] at h
  obtain ⟨k, n, s⟩ := v
  simp only at h hk ⊢
  rw [hk, toList_nil (s := s) (by simpa using h.2)]
  exact ⟨rfl, h.1⟩
theorem valid_3 {v : Val} (h : validM v = true) (hk : v.kind = 3) : v = ⟨3, 0, v.text⟩ ∧ (39 : UInt8) ∉ tx v.text := by
  have h0 := h
  unfold validM at h
  rw [if_neg (by omega), if_neg (by omega), if_neg (by omega), if_pos hk] at h
  simp only [Bool.and_eq_true, beq_iff_eq] at h
  obtain ⟨k, n, s⟩ := v
  simp only at h hk ⊢
  rw [hk, h.1]
  refine ⟨rfl, fun hm => ?_⟩
  have h2 := h.2
  rw [textM_eq, Bool.and_eq_true, okBytes, all_range] at h2
  obtain ⟨i, hi, he⟩ := List.getElem_of_mem hm
  have hi' : i < s.size := by simpa [tx] using hi
  have := h2.2 i hi'
  have hb : byteAt s i = 39 := by
    have hd : i < s.data.size := hi'
    rw [byteAt, Array.getD_eq_getD_getElem?, Array.getElem?_eq_getElem hd]
    simp only [tx, Array.getElem_toList] at he
    simp [he]
  rw [hb] at this
  exact absurd this (by decide)
theorem valid_kind {v : Val} (h : validM v = true) : v.kind = 0 ∨ v.kind = 1 ∨ v.kind = 2 ∨ v.kind = 3 := by
  unfold validM at h
  repeat' split at h
  all_goals first | omega | (cases h)
def nullT : List UInt8 := [110, 117, 108, 108]
theorem tx_0 {v : Val} (h : validM v = true) (hk : v.kind = 0) : tx (textV v) = nullT := by
  rw [textV, if_neg (by rw [h]; decide), if_neg (by omega), if_neg (by omega), if_neg (by omega)]; rfl
theorem tx_1 {v : Val} (h : validM v = true) (hk : v.kind = 1) : tx (textV v) = Lib.itoa v.num := by
  rw [textV, if_neg (by rw [h]; decide), if_pos hk]; simp [tx, itoaB]
theorem tx_2 {v : Val} (h : validM v = true) (hk : v.kind = 2) : tx (textV v) = Lib.formatBool (v.num == 1) := by
  rw [textV, if_neg (by rw [h]; decide), if_neg (by omega), if_pos hk]; simp [tx, boolB]
theorem tx_3 {v : Val} (h : validM v = true) (hk : v.kind = 3) : tx (textV v) = 39 :: (tx v.text ++ [39]) := by
  rw [textV, if_neg (by rw [h]; decide), if_neg (by omega), if_neg (by omega), if_pos hk, tx_append, tx_append]; rfl
theorem fb_true : Lib.formatBool true = [116, 114, 117, 101] := by decide +kernel
theorem fb_false : Lib.formatBool false = [102, 97, 108, 115, 101] := by decide +kernel
/-- No comma, or a text. -/
theorem no_comma {v : Val} (h : validM v = true) (hk : v.kind ≠ 3) : (44 : UInt8) ∉ tx (textV v) := by
  rcases valid_kind h with hk0 | hk0 | hk0 | hk0
  · rw [tx_0 h hk0]; decide
  · rw [tx_1 h hk0]
    intro hm
    have := itoa_chars _ _ hm
    simp at this
  · rw [tx_2 h hk0]
    cases (v.num == 1)
    · rw [fb_false]; decide
    · rw [fb_true]; decide
  · exact absurd hk0 hk
theorem one_inj {v u : Val} {T : Int} {s t : List UInt8} (hv : OfType v T) (hu : OfType u T) (h : tx (textV v) ++ 44 :: s = tx (textV u) ++ 44 :: t) : v = u ∧ s = t := by
  obtain ⟨v1, v2⟩ := hv
  obtain ⟨u1, u2⟩ := hu
  by_cases kv : v.kind = 3
  · by_cases ku : u.kind = 3
    · obtain ⟨e1, n1⟩ := valid_3 v1 kv
      obtain ⟨e2, n2⟩ := valid_3 u1 ku
      rw [tx_3 v1 kv, tx_3 u1 ku] at h
      simp only [List.cons_append, List.cons.injEq, true_and, List.append_assoc, List.nil_append] at h
      obtain ⟨g1, g2⟩ := cut_at n1 n2 h
      simp only [List.cons.injEq, true_and] at g2
      exact ⟨by rw [e1, e2, tx_inj g1], g2⟩
    · exfalso
      have k0 : u.kind = 0 := by rcases u2 with q | q <;> rcases v2 with r | r <;> omega
      rw [tx_3 v1 kv, tx_0 u1 k0] at h
      simp [nullT] at h
  · by_cases ku : u.kind = 3
    · exfalso
      have k0 : v.kind = 0 := by rcases u2 with q | q <;> rcases v2 with r | r <;> omega
      rw [tx_3 u1 ku, tx_0 v1 k0] at h
      simp [nullT] at h
    · obtain ⟨g1, g2⟩ := cut_at (no_comma v1 kv) (no_comma u1 ku) h
      refine ⟨?_, g2⟩
      rcases valid_kind v1 with a | a | a | a <;> rcases valid_kind u1 with c | c | c | c
      all_goals first | exact absurd a kv | exact absurd c ku | skip
      · rw [valid_0 v1 a, valid_0 u1 c]
      · exfalso
        rw [tx_0 v1 a, tx_1 u1 c] at g1
        have := itoa_chars u.num 110 (by rw [← g1]; decide)
        simp at this
      · exfalso
        rw [tx_0 v1 a, tx_2 u1 c] at g1
        cases hb : (u.num == 1) <;> rw [hb] at g1 <;> first | rw [fb_true] at g1 | rw [fb_false] at g1
        all_goals exact absurd g1 (by decide)
      · exfalso
        rw [tx_0 u1 c, tx_1 v1 a] at g1
        have := itoa_chars v.num 110 (by rw [g1]; decide)
        simp at this
      · rw [tx_1 v1 a, tx_1 u1 c] at g1
        rw [valid_1 v1 a, valid_1 u1 c, itoa_inj g1]
      · exfalso; rcases u2 with q | q <;> rcases v2 with r | r <;> omega
      · exfalso
        rw [tx_0 u1 c, tx_2 v1 a] at g1
        cases hb : (v.num == 1) <;> rw [hb] at g1 <;> first | rw [fb_true] at g1 | rw [fb_false] at g1
        all_goals exact absurd g1 (by decide)
      · exfalso; rcases u2 with q | q <;> rcases v2 with r | r <;> omega
      · rw [tx_2 v1 a, tx_2 u1 c] at g1
        obtain ⟨e1, b1⟩ := valid_2 v1 a
        obtain ⟨e2, b2⟩ := valid_2 u1 c
        have : v.num = u.num := by
          rcases b1 with b1 | b1 <;> rcases b2 with b2 | b2 <;> rw [b1, b2] at g1 <;> first | rw [b1, b2] | skip
          · exact absurd g1 (by decide +kernel)
          · exact absurd g1 (by decide +kernel)
        rw [e1, e2, this]
theorem tx_fold : ∀ (l : List Val) (s : ByteArray), tx (l.foldl (fun s v => s ++ (textV v ++ comma)) s) = tx s ++ tx (textL l)
  | [], s => by simp [textL, tx]
  | v :: l, s => by
    simp only [textL, List.foldl_cons]
    rw [tx_fold l, tx_fold l (⟨#[]⟩ ++ _), tx_append, tx_append]
    simp [tx]
theorem textL_cons (v : Val) (l : List Val) : tx (textL (v :: l)) = tx (textV v) ++ 44 :: tx (textL l) := by
  show tx (l.foldl _ _) = _
  rw [tx_fold, tx_append, tx_append]
  show [] ++ (tx (textV v) ++ [44]) ++ _ = _
  simp
theorem textL_inj : ∀ (a b : List Val) (ts : List Int), a.length = ts.length → b.length = ts.length → (∀ i, i < ts.length → OfType (a.getD i default) (ts.getD i 0)) → (∀ i, i < ts.length → OfType (b.getD i default) (ts.getD i 0)) →
    textL a = textL b → a = b
  | [], [], [], _, _, _, _, _ => rfl
  | v :: a, u :: b, T :: ts, ha, hb, h1, h2, h => by
    have h' := congrArg tx h
    rw [textL_cons, textL_cons] at h'
    obtain ⟨e1, e2⟩ := one_inj (T := T) (by simpa using h1 0 (by simp)) (by simpa using h2 0 (by simp)) h'
    have := textL_inj a b ts (by simpa using ha) (by simpa using hb) (fun i hi => by simpa using h1 (i + 1) (by simpa using hi)) (fun i hi => by simpa using h2 (i + 1) (by simpa using hi)) (tx_inj e2)
    rw [e1, this]
  | [], _ :: _, [], _, hb, _, _, _ => by simp at hb
  | _ :: _, _, [], ha, _, _, _, _ => by simp at ha
  | [], _, _ :: _, ha, _, _, _, _ => by simp at ha
  | _ :: _, [], _ :: _, _, hb, _, _, _ => by simp at hb
end Go.Proofs.YtodoeplhcmecjaaGreatDoor
namespace Go.Proofs.YtodoeplhcmecjaaGreatDoor
open Go.Am
attribute [local simp, local push_cast] num boo str ints aV aTab aInst aS aT aC aRow rRow rTab vO rVio
set_option linter.unusedVariables false
set_option maxRecDepth 100000
set_option maxHeartbeats 4000000
/-! The specification's keys: rows with the values of an earlier one. -/
def isK0 (v : Val) : Bool := v.kind == 0
end Go.Proofs.YtodoeplhcmecjaaGreatDoor
namespace Go.Proofs.YtodoeplhcmecjaaGreatDoor
open Go.Am
set_option linter.unusedVariables false
set_option maxRecDepth 100000
/-! Keys: what the program finds by texts is what the specification finds by comparing. -/
theorem findS_snoc (k t : ByteArray) (v : Int) : ∀ es : List (ByteArray × Int), findS t (es ++ [(k, v)]) = match findS t es with | some o => some o | none => if t = k then some v else none
  | [] => by simp [findS]
  | p :: es => by
    simp only [List.cons_append, findS, findS_snoc k t v es]
    split <;> rfl
theorem any_congr {p q : Val → Bool} : ∀ {l : List Val}, (∀ v ∈ l, p v = q v) → l.any p = l.any q
  | [], _ => rfl
  | v :: l, h => by
    rw [List.any_cons, List.any_cons, h v List.mem_cons_self, any_congr fun x hx => h x (List.mem_cons_of_mem _ hx)]
/-- Texts of the values in these columns tell them apart, and null is written in one way. -/
structure TextOk (rows : List Row) (cols : List Int) : Prop where
  inj : ∀ q ∈ rows, ∀ r ∈ rows, textL (partM q cols) = textL (partM r cols) → partM q cols = partM r cols
  nul : ∀ r ∈ rows, ∀ v ∈ partM r cols, isNull v = isK0 v
theorem TextOk.any {rows : List Row} {cols : List Int} (h : TextOk rows cols) {r : Row} (hr : r ∈ rows) : (partM r cols).any isNull = (partM r cols).any isK0 := any_congr (h.nul r hr)
def keepR (cols : List Int) (nulls : Bool) (q : Row) : Bool := !(!nulls && (partM q cols).any isNull)
/-! Values of the right types. -/
end Go.Proofs.YtodoeplhcmecjaaGreatDoor
namespace Go.Proofs.YtodoeplhcmecjaaGreatDoor
open Go.Am
attribute [local simp, local push_cast] num boo str ints aV aTab aInst aS aT aC aRow rRow rTab vO rVio rB vT
set_option linter.unusedVariables false
set_option maxRecDepth 100000
set_option maxHeartbeats 4000000
/-! The specification's look at the rows of a table. -/
end Go.Proofs.YtodoeplhcmecjaaGreatDoor
namespace Go.Proofs.YtodoeplhcmecjaaGreatDoor
open Go.Am
attribute [local simp, local push_cast] num boo str ints aV aTab aInst aS aT aC aRow rRow rTab vO rVio rB vT found rE
set_option linter.unusedVariables false
set_option maxRecDepth 100000
set_option maxHeartbeats 4000000
/-! The specification's look at a table. -/
def vI (i : Inst) : Ob := .var [.d (.sl 1 (rowsOf rTab i))]
def bD (fine : List Bool) : A := .d (.sl 1 (rowsOf rB fine))
attribute [local simp, local push_cast] bD
def tS (s : Sch) (i : Inst) (fine : List Bool) (k : Nat) (T : Tbl) (rows : List Row) (o : List Vio) : List (Nat × A) :=
  [(2, num k), (3, bD fine), (4, .ptr 4 0), (5, .ptr 5 0), (9, .ptr 9 0), (10, aTab rows), (11, .vec 600 o.length)]
end Go.Proofs.YtodoeplhcmecjaaGreatDoor
namespace Go.Proofs.YtodoeplhcmecjaaGreatDoor
open Go.Am
set_option linter.unusedVariables false
set_option maxRecDepth 100000
/-! What the specification finds in a table is what the program finds. -/
end Go.Proofs.YtodoeplhcmecjaaGreatDoor
namespace Go.Proofs.YtodoeplhcmecjaaGreatDoor
open Go.Am
attribute [local simp, local push_cast] num boo str ints aV aTab aInst aS aT aC aRow rRow rTab vO rVio rB vT found rE bD
set_option linter.unusedVariables false
set_option maxRecDepth 100000
set_option maxHeartbeats 4000000
/-! The specification finds the violations that the program finds. -/
end Go.Proofs.YtodoeplhcmecjaaGreatDoor
