/- Validity does not depend on the order of rows: a proof over an abstract machine of our own (part Wh) -/
import Derived.Test.YtodoeplhcmecjaaGreatDoorWf
import Derived.Test.YtodoeplhcmecjaaGreatDoorWc
import Derived.Test.YtodoeplhcmecjaaGreatDoorWg
import Derived.Test.YtodoeplhcmecjaaGreatDoorLe
set_option linter.all false
namespace Go.Proofs.YtodoeplhcmecjaaGreatDoor
open Go.Am
set_option linter.unusedVariables false
set_option maxRecDepth 100000
/-! A text determines the values. -/
def tx (b : ByteArray) : List UInt8 := b.data.toList
theorem tx_append (a b : ByteArray) : tx (a ++ b) = tx a ++ tx b := by simp [tx, ByteArray.data_append]
theorem tx_inj {a b : ByteArray} (h : tx a = tx b) : a = b := ByteArray.ext (Array.toList_inj.1 h)
def dv (l : List UInt8) : Nat := l.foldl (fun a c => a * 10 + (c.toNat - 48)) 0
theorem dv_snoc (l : List UInt8) (c : UInt8) : dv (l ++ [c]) = dv l * 10 + (c.toNat - 48) := by simp [dv]
theorem dg_val {u : Nat} (h : u < 10) : (UInt8.ofNat (48 + u)).toNat = 48 + u := by
  simp; omega
theorem dv_dec : ∀ u : Nat, dv (Lib.decDigits u) = u := by
  intro u
  induction u using Nat.strongRecOn with
  | ind u ih =>
    rw [Lib.decDigits]
    split
    · rename_i h
      show 0 * 10 + ((UInt8.ofNat (48 + u)).toNat - 48) = u
      rw [dg_val h]; omega
    · rename_i h
      rw [dv_snoc, ih (u / 10) (by omega), dg_val (by omega)]
      omega
theorem dec_digit : ∀ (u : Nat), ∀ c ∈ Lib.decDigits u, 48 ≤ c.toNat ∧ c.toNat ≤ 57 := by
  intro u
  induction u using Nat.strongRecOn with
  | ind u ih =>
    rw [Lib.decDigits]
    split
    · rename_i h
      intro c hc
      simp only [List.mem_singleton] at hc
      rw [hc, dg_val h]; omega
    · rename_i h
      intro c hc
      rcases List.mem_append.1 hc with hc | hc
      · exact ih (u / 10) (by omega) c hc
      · simp only [List.mem_singleton] at hc
        rw [hc, dg_val (by omega)]; omega
theorem dec_inj {u v : Nat} (h : Lib.decDigits u = Lib.decDigits v) : u = v := by rw [← dv_dec u, ← dv_dec v, h]
theorem itoa_inj {a b : Int} (h : Lib.itoa a = Lib.itoa b) : a = b := by
  unfold Lib.itoa at h
  split at h <;> split at h
  · simp only [List.cons.injEq, true_and] at h
    have := dec_inj h
    omega
  · exfalso
    have : (45 : UInt8) ∈ Lib.decDigits b.toNat := by rw [← h]; simp
    have := dec_digit _ _ this
    simp at this
  · exfalso
    have : (45 : UInt8) ∈ Lib.decDigits a.toNat := by rw [h]; simp
    have := dec_digit _ _ this
    simp at this
  · have := dec_inj h
    omega
theorem itoa_chars (a : Int) : ∀ c ∈ Lib.itoa a, c.toNat = 45 ∨ (48 ≤ c.toNat ∧ c.toNat ≤ 57) := by
  intro c hc
  unfold Lib.itoa at hc
  split at hc
  · rcases List.mem_cons.1 hc with rfl | hc
    · left; rfl
    · right; exact dec_digit _ _ hc
  · right; exact dec_digit _ _ hc
/-- What stands ahead of the first of some letter. -/
theorem cut_at {c : UInt8} : ∀ {a b s t : List UInt8}, c ∉ a → c ∉ b → a ++ c :: s = b ++ c :: t → a = b ∧ s = t
  | [], [], s, t, _, _, h => by simpa using h
  | [], y :: b, s, t, _, hb, h => by
    simp only [List.nil_append, List.cons_append, List.cons.injEq] at h
    exact absurd (h.1 ▸ List.mem_cons_self) hb
  | x :: a, [], s, t, ha, _, h => by
    simp only [List.nil_append, List.cons_append, List.cons.injEq] at h
    exact absurd (h.1 ▸ List.mem_cons_self) ha
  | x :: a, y :: b, s, t, ha, hb, h => by
    simp only [List.cons_append, List.cons.injEq] at h
    have := cut_at (fun q => ha (List.mem_cons_of_mem _ q)) (fun q => hb (List.mem_cons_of_mem _ q)) h.2
    exact ⟨by rw [h.1, this.1], this.2⟩
/-- A value of a type, or null. -/
structure OfType (v : Val) (T : Int) : Prop where
  ok : validM v = true
  k : v.kind = 0 ∨ v.kind = T
theorem toList_nil {s : ByteArray} (h : (s.toList == []) = true) : s = ByteArray.empty := by
  have h2 : s.toList = [] := by simpa using h
  have : s.data.toList = [] := by rw [← ByteArray.toList_eq]; exact h2
  apply ByteArray.ext
  apply Array.toList_inj.1
  rw [this]; rfl
theorem valid_0 {v : Val} (h : validM v = true) (hk : v.kind = 0) : v = ⟨0, 0, ByteArray.empty⟩ := by
  unfold validM at h
  rw [if_pos hk] at h
  simp only [Bool.and_eq_true, beq_iff_eq] at h
  obtain ⟨k, n, s⟩ := v
  simp only at h hk ⊢
  rw [hk, h.1, toList_nil (s := s) (by simpa using h.2)]
theorem valid_1 {v : Val} (h : validM v = true) (hk : v.kind = 1) : v = ⟨1, v.num, ByteArray.empty⟩ := by
  unfold validM at h
  rw [if_neg (by omega), if_pos hk] at h
  simp only [Bool.and_eq_true, beq_iff_eq] at h
  obtain ⟨k, n, s⟩ := v
  simp only at h hk ⊢
  rw [hk, toList_nil (s := s) (by simpa using h.2)]
theorem valid_2 {v : Val} (h : validM v = true) (hk : v.kind = 2) : v = ⟨2, v.num, ByteArray.empty⟩ ∧ (v.num = 0 ∨ v.num = 1) := by
  unfold validM at h
  rw [if_neg (by omega), if_neg (by omega), if_pos hk] at h
  simp only [Bool.and_eq_true, Bool.or_eq_true, beq_iff_eq] at h
  obtain ⟨k, n, s⟩ := v
  simp only at h hk ⊢
  rw [hk, toList_nil (s := s) (by simpa using h.2)]
  exact ⟨rfl, h.1⟩
theorem valid_3 {v : Val} (h : validM v = true) (hk : v.kind = 3) : v = ⟨3, 0, v.text⟩ ∧ (39 : UInt8) ∉ tx v.text := by
  have h0 := h
  unfold validM at h
  rw [if_neg (by omega), if_neg (by omega), if_neg (by omega), if_pos hk] at h
  simp only [Bool.and_eq_true, beq_iff_eq] at h
  obtain ⟨k, n, s⟩ := v
  simp only at h hk ⊢
  rw [hk, h.1]
  refine ⟨rfl, fun hm => ?_⟩
  have h2 := h.2
  rw [textM_eq, Bool.and_eq_true, okBytes, all_range] at h2
  obtain ⟨i, hi, he⟩ := List.getElem_of_mem hm
  have hi' : i < s.size := by simpa [tx] using hi
  have := h2.2 i hi'
  have hb : byteAt s i = 39 := by
    have hd : i < s.data.size := hi'
    rw [byteAt, Array.getD_eq_getD_getElem?, Array.getElem?_eq_getElem hd]
    simp only [tx, Array.getElem_toList] at he
    simp [he]
  rw [hb] at this
  exact absurd this (by decide)
theorem valid_kind {v : Val} (h : validM v = true) : v.kind = 0 ∨ v.kind = 1 ∨ v.kind = 2 ∨ v.kind = 3 := by
  unfold validM at h
  repeat' split at h
  all_goals first | omega | (cases h)
def nullT : List UInt8 := [110, 117, 108, 108]
theorem tx_0 {v : Val} (h : validM v = true) (hk : v.kind = 0) : tx (textV v) = nullT := by
  rw [textV, if_neg (by rw [h]; decide), if_neg (by omega), if_neg (by omega), if_neg (by omega)]; rfl
theorem tx_1 {v : Val} (h : validM v = true) (hk : v.kind = 1) : tx (textV v) = Lib.itoa v.num := by
  rw [textV, if_neg (by rw [h]; decide), if_pos hk]; simp [tx, itoaB]
theorem tx_2 {v : Val} (h : validM v = true) (hk : v.kind = 2) : tx (textV v) = Lib.formatBool (v.num == 1) := by
  rw [textV, if_neg (by rw [h]; decide), if_neg (by omega), if_pos hk]; simp [tx, boolB]
theorem tx_3 {v : Val} (h : validM v = true) (hk : v.kind = 3) : tx (textV v) = 39 :: (tx v.text ++ [39]) := by
  rw [textV, if_neg (by rw [h]; decide), if_neg (by omega), if_neg (by omega), if_pos hk, tx_append, tx_append]; rfl
theorem fb_true : Lib.formatBool true = [116, 114, 117, 101] := by decide +kernel
theorem fb_false : Lib.formatBool false = [102, 97, 108, 115, 101] := by decide +kernel
/-- No comma, or a text. -/
theorem no_comma {v : Val} (h : validM v = true) (hk : v.kind ≠ 3) : (44 : UInt8) ∉ tx (textV v) := by
  rcases valid_kind h with hk0 | hk0 | hk0 | hk0
  · rw [tx_0 h hk0]; decide
  · rw [tx_1 h hk0]
    intro hm
    have := itoa_chars _ _ hm
    simp at this
  · rw [tx_2 h hk0]
    cases (v.num == 1)
    · rw [fb_false]; decide
    · rw [fb_true]; decide
  · exact absurd hk0 hk
theorem one_inj {v u : Val} {T : Int} {s t : List UInt8} (hv : OfType v T) (hu : OfType u T) (h : tx (textV v) ++ 44 :: s = tx (textV u) ++ 44 :: t) : v = u ∧ s = t := by
  obtain ⟨v1, v2⟩ := hv
  obtain ⟨u1, u2⟩ := hu
  by_cases kv : v.kind = 3
  · by_cases ku : u.kind = 3
    · obtain ⟨e1, n1⟩ := valid_3 v1 kv
      obtain ⟨e2, n2⟩ := valid_3 u1 ku
      rw [tx_3 v1 kv, tx_3 u1 ku] at h
      simp only [List.cons_append, List.cons.injEq, true_and, List.append_assoc, List.nil_append] at h
      obtain ⟨g1, g2⟩ := cut_at n1 n2 h
      simp only [List.cons.injEq, true_and] at g2
      exact ⟨by rw [e1, e2, tx_inj g1], g2⟩
    · exfalso
      have k0 : u.kind = 0 := by rcases u2 with q | q <;> rcases v2 with r | r <;> omega
      rw [tx_3 v1 kv, tx_0 u1 k0] at h
      simp [nullT] at h
  · by_cases ku : u.kind = 3
    · exfalso
      have k0 : v.kind = 0 := by rcases u2 with q | q <;> rcases v2 with r | r <;> omega
      rw [tx_3 u1 ku, tx_0 v1 k0] at h
      simp [nullT] at h
    · obtain ⟨g1, g2⟩ := cut_at (no_comma v1 kv) (no_comma u1 ku) h
      refine ⟨?_, g2⟩
      rcases valid_kind v1 with a | a | a | a <;> rcases valid_kind u1 with c | c | c | c
      all_goals first | exact absurd a kv | exact absurd c ku | skip
      · rw [valid_0 v1 a, valid_0 u1 c]
      · exfalso
        rw [tx_0 v1 a, tx_1 u1 c] at g1
        have := itoa_chars u.num 110 (by rw [← g1]; decide)
        simp at this
      · exfalso
        rw [tx_0 v1 a, tx_2 u1 c] at g1
        cases hb : (u.num == 1) <;> rw [hb] at g1 <;> first | rw [fb_true] at g1 | rw [fb_false] at g1
        all_goals exact absurd g1 (by decide)
      · exfalso
        rw [tx_0 u1 c, tx_1 v1 a] at g1
        have := itoa_chars v.num 110 (by rw [g1]; decide)
        simp at this
      · rw [tx_1 v1 a, tx_1 u1 c] at g1
        rw [valid_1 v1 a, valid_1 u1 c, itoa_inj g1]
      · exfalso; rcases u2 with q | q <;> rcases v2 with r | r <;> omega
      · exfalso
        rw [tx_0 u1 c, tx_2 v1 a] at g1
        cases hb : (v.num == 1) <;> rw [hb] at g1 <;> first | rw [fb_true] at g1 | rw [fb_false] at g1
        all_goals exact absurd g1 (by decide)
      · exfalso; rcases u2 with q | q <;> rcases v2 with r | r <;> omega
      · rw [tx_2 v1 a, tx_2 u1 c] at g1
        obtain ⟨e1, b1⟩ := valid_2 v1 a
        obtain ⟨e2, b2⟩ := valid_2 u1 c
        have : v.num = u.num := by
          rcases b1 with b1 | b1 <;> rcases b2 with b2 | b2 <;> rw [b1, b2] at g1 <;> first | rw [b1, b2] | skip
          · exact absurd g1 (by decide +kernel)
          · exact absurd g1 (by decide +kernel)
        rw [e1, e2, this]
theorem tx_fold : ∀ (l : List Val) (s : ByteArray), tx (l.foldl (fun s v => s ++ (textV v ++ comma)) s) = tx s ++ tx (textL l)
  | [], s => by simp [textL, tx]
  | v :: l, s => by
    simp only [textL, List.foldl_cons]
    rw [tx_fold l, tx_fold l (⟨#[]⟩ ++ _), tx_append, tx_append]
    simp [tx]
theorem textL_cons (v : Val) (l : List Val) : tx (textL (v :: l)) = tx (textV v) ++ 44 :: tx (textL l) := by
  show tx (l.foldl _ _) = _
  rw [tx_fold, tx_append, tx_append]
  show [] ++ (tx (textV v) ++ [44]) ++ _ = _
  simp
theorem textL_inj : ∀ (a b : List Val) (ts : List Int), a.length = ts.length → b.length = ts.length → (∀ i, i < ts.length → OfType (a.getD i default) (ts.getD i 0)) → (∀ i, i < ts.length → OfType (b.getD i default) (ts.getD i 0)) →
    textL a = textL b → a = b
  | [], [], [], _, _, _, _, _ => rfl
  | v :: a, u :: b, T :: ts, ha, hb, h1, h2, h => by
    have h' := congrArg tx h
    rw [textL_cons, textL_cons] at h'
    obtain ⟨e1, e2⟩ := one_inj (T := T) (by simpa using h1 0 (by simp)) (by simpa using h2 0 (by simp)) h'
    have := textL_inj a b ts (by simpa using ha) (by simpa using hb) (fun i hi => by simpa using h1 (i + 1) (by simpa using hi)) (fun i hi => by simpa using h2 (i + 1) (by simpa using hi)) (tx_inj e2)
    rw [e1, this]
  | [], _ :: _, [], _, hb, _, _, _ => by simp at hb
  | _ :: _, _, [], ha, _, _, _, _ => by simp at ha
  | [], _, _ :: _, ha, _, _, _, _ => by simp at ha
  | _ :: _, [], _ :: _, _, hb, _, _, _ => by simp at hb
end Go.Proofs.YtodoeplhcmecjaaGreatDoor
namespace Go.Proofs.YtodoeplhcmecjaaGreatDoor
open Go.Am
attribute [local simp, local push_cast] num boo str ints aV aTab aInst aS aT aC aRow rRow rTab vO rVio
set_option linter.unusedVariables false
set_option maxRecDepth 100000
set_option maxHeartbeats 4000000
/-! The specification's keys: rows with the values of an earlier one. -/
def isK0 (v : Val) : Bool := v.kind == 0
theorem c_rin (l : List Int) (v : Int) (hl : l.length ≤ 1000000) : ACall Tryz.prog 60 [ints l, num v] [] (boo (l.contains v)) [] := by
  refine enterq mixed ttok Tryz.func60 Tryz.ntmps60 Tryz.results60 ?_
  generalize hr : boo (l.contains v) = R
  simp -implicitDefEqProofs only [argT, ↓steps, push_cast, simprocAttr, tte]
  refine loop_count mixed ttok 5 [0, 1] [] (by simp only [pickT, ends, push_cast, simprocAttr]; rfl) (by simp only [pickO, consO_some, ends, push_cast, simprocAttr]; rfl) l.length (fun n => ∀ i, i < n → l.getD i default ≠ v) (fun _ => []) (fun _ => []) (fun i h => absurd h (Nat.not_lt_zero _)) ?_ ?_
  · exact Weak.keepL (by simp [cst, ends]) (by simp [cst, ends]) (by simp [cst, ends])
  intro I hI n hn hi
  simp -implicitDefEqProofs only [cst, ↓steps, push_cast, simprocAttr, tte]
  refine bcase_intro (fun h => ?_) fun h => ?_
  · simp only [decide_eq_true_eq] at h
    have h' : n < l.length := by omega
    have hw := wrap_succ h' (by omega)
    refine ⟨(by first | omega | trivial | (refine ⟨?_, ?_⟩ <;> first | omega | trivial | (refine ⟨?_, ?_⟩ <;> first | omega | trivial | (refine ⟨?_, ?_⟩ <;> first | omega | trivial | rfl)))), ?_⟩
    refine bcase_intro (fun g => ?_) fun g => ?_
    · have hc : l.contains v = true := by
        rw [List.contains_iff_mem]
        have := getD_mem h'
        rwa [beq_iff_eq.1 g] at this
      exact ret_d trivial (by rw [← hr, hc]; rfl) (by simp [ends])
    · have g' : l.getD n default ≠ v := by simpa using g
      exact cnt_again hI n rfl h' (fun i h2 => if h3 : i = n then by rw [h3]; exact g' else hi i (by omega)) (by simp [hw, ends]) (by simp [hw, ends]) (by simp [hw, ends]) (by simp [hw, ends])
  · simp only [decide_eq_false_iff_not] at h
    obtain rfl : n = l.length := by omega
    have hc : l.contains v = false := by
      cases hq : l.contains v with
      | false => rfl
      | true =>
        obtain ⟨i, hi2, he⟩ := mem_at (List.contains_iff_mem.1 hq)
        exact absurd he (hi i hi2)
    exact ret_d trivial (by rw [← hr, hc]; rfl) (by simp [ends])
theorem c_rnull (l : List Val) (hl : l.length ≤ 1000000) : ACall Tryz.prog 63 [aRow l] [] (boo (l.any isK0)) [] := by
  refine enterq mixed ttok Tryz.func63 Tryz.ntmps63 Tryz.results63 ?_
  generalize hr : boo (l.any isK0) = R
  simp -implicitDefEqProofs only [argT, ↓steps, push_cast, simprocAttr, tte]
  refine loop_count mixed ttok 3 [0] [] (by simp only [pickT, ends, push_cast, simprocAttr]; rfl) (by simp only [pickO, consO_some, ends, push_cast, simprocAttr]; rfl) l.length (fun n => ∀ i, i < n → isK0 (l.getD i default) = false) (fun _ => []) (fun _ => []) (fun i h => absurd h (Nat.not_lt_zero _)) ?_ ?_
  · exact Weak.keepL (by simp [cst, ends]) (by simp [cst, ends]) (by simp [cst, ends])
  intro I hI n hn hi
  simp -implicitDefEqProofs only [cst, ↓steps, push_cast, simprocAttr, tte]
  refine bcase_intro (fun h => ?_) fun h => ?_
  · simp only [decide_eq_true_eq] at h
    have h' : n < l.length := by omega
    have hw := wrap_succ h' (by omega)
    refine ⟨(by first | omega | trivial | (refine ⟨?_, ?_⟩ <;> first | omega | trivial | (refine ⟨?_, ?_⟩ <;> first | omega | trivial | (refine ⟨?_, ?_⟩ <;> first | omega | trivial | rfl)))), ?_⟩
    refine bcase_intro (fun g => ?_) fun g => ?_
    · have hc : l.any isK0 = true := List.any_eq_true.2 ⟨_, getD_mem h', by rw [isK0]; exact g⟩
      exact ret_d trivial (by rw [← hr, hc]; rfl) (by simp [ends])
    · have g' : isK0 (l.getD n default) = false := by rw [isK0]; exact g
      exact cnt_again hI n rfl h' (fun i h2 => if h3 : i = n then by rw [h3]; exact g' else hi i (by omega)) (by simp [hw, ends]) (by simp [hw, ends]) (by simp [hw, ends]) (by simp [hw, ends])
  · simp only [decide_eq_false_iff_not] at h
    obtain rfl : n = l.length := by omega
    have hc : l.any isK0 = false := by
      rw [List.any_eq_false]
      intro x hx
      obtain ⟨i, hi2, rfl⟩ := mem_at hx
      rw [hi i hi2]; decide
    exact ret_d trivial (by rw [← hr, hc]; rfl) (by simp [ends])
theorem c_rpick (r : Row) (cols : List Int) (hl : cols.length ≤ 1000000) (hc : ∀ c ∈ cols, 0 ≤ c ∧ c < r.length) : ACall Tryz.prog 62 [aRow r, ints cols] [] (aRow (partM r cols)) [] := by
  refine enterq mixed ttok Tryz.func62 Tryz.ntmps62 Tryz.results62 ?_
  generalize hr : aRow (partM r cols) = R
  simp -implicitDefEqProofs only [argT, ↓steps, push_cast, simprocAttr, tte]
  refine loop_count mixed ttok 6 [0, 1] [] (by simp only [pickT, ends, push_cast, simprocAttr]; rfl) (by simp only [pickO, consO_some, ends, push_cast, simprocAttr]; rfl) cols.length (fun _ => True) (fun n => [(5, .vec 500 n)]) (fun n => [(500, .vec 57 3 (rowsOf rV (partM r (cols.take n))) 0)]) trivial ?_ ?_
  · exact (Weak.nilL 5 500 57 3 rfl rfl).trans (Weak.keepL (by simp [cst, ends]) (by simp [cst, partM, ends]) (by simp [cst, ends]))
  intro I hI n hn hi
  have hl2 : (partM r (cols.take n)).length = n := by simp [partM]; omega
  simp -implicitDefEqProofs only [cst, ↓steps, push_cast, simprocAttr, tte]
  refine bcase_intro (fun h => ?_) fun h => ?_
  · simp only [decide_eq_true_eq] at h
    have h' : n < cols.length := by omega
    have hw := wrap_succ h' (by omega)
    have hcn := hc _ (getD_mem h')
    have ht : partM r (cols.take (n + 1)) = partM r (cols.take n) ++ [r.getD (cols.getD n default).toNat default] := by rw [take_snoc _ _ h', partM, List.map_append]; rfl
    refine ⟨(by first | omega | trivial | (refine ⟨?_, ?_⟩ <;> first | omega | trivial | (refine ⟨?_, ?_⟩ <;> first | omega | trivial | (refine ⟨?_, ?_⟩ <;> first | omega | trivial | rfl)))), ⟨by omega, by omega⟩, ⟨hl2.symm, by rw [hl2]; omega⟩, ?_⟩
    exact cnt_again hI n rfl h' trivial (by simp [hw, ht, hl2, rowsOf_append, Nat.min_eq_left hn, ends]) (by simp [hw, ht, hl2, rowsOf_append, Nat.min_eq_left hn, ends]) (by simp [hw, ht, hl2, rowsOf_append, Nat.min_eq_left hn, ends]) (by simp [hw, ht, hl2, rowsOf_append, Nat.min_eq_left hn, ends])
  · simp only [decide_eq_false_iff_not] at h
    obtain rfl : n = cols.length := by omega
    rw [List.take_length] at hl2 ⊢
    refine retx_of [3] rfl (by simp) (by simp [rowsOf_length] <;> omega) ?_ (by first | rfl | simp [ends] | (subst_vars; simp [ends])) (by simp [ends]) (by simp [ends])
    exact hr
def sameP (cols : List Int) (x : List Val) (q : Row) : Bool := cmpR (partM q cols) x == 0
def repAt (kind table index : Int) (cols : List Int) (nulls : Bool) (rows : List Row) (n : Nat) : List Vio :=
  if (!nulls && (partM (rows.getD n default) cols).any isK0) = true then []
  else if fidx (sameP cols (partM (rows.getD n default) cols)) (rows.take n) < 0 then []
  else [⟨kind, table, index, n, fidx (sameP cols (partM (rows.getD n default) cols)) (rows.take n)⟩]
def repTo (kind table index : Int) (cols : List Int) (nulls : Bool) (rows : List Row) (n : Nat) : List Vio := (List.range n).flatMap (repAt kind table index cols nulls rows)
theorem repTo_succ (kind table index : Int) (cols : List Int) (nulls : Bool) (rows : List Row) (n : Nat) :
    repTo kind table index cols nulls rows (n + 1) = repTo kind table index cols nulls rows n ++ repAt kind table index cols nulls rows n := by simp [repTo, List.range_succ]
theorem repAt_len (kind table index : Int) (cols : List Int) (nulls : Bool) (rows : List Row) (n : Nat) : (repAt kind table index cols nulls rows n).length ≤ 1 := by
  unfold repAt; split
  · simp
  · split <;> simp
theorem repTo_len (kind table index : Int) (cols : List Int) (nulls : Bool) (rows : List Row) : ∀ n : Nat, (repTo kind table index cols nulls rows n).length ≤ n
  | 0 => by simp [repTo]
  | n + 1 => by
    have h1 := repTo_len kind table index cols nulls rows n
    have h2 := repAt_len kind table index cols nulls rows n
    rw [repTo_succ, List.length_append]; omega
theorem take_getD {α : Type} [Inhabited α] (l : List α) {n i : Nat} (h : i < n) : (l.take n).getD i default = l.getD i default := by
  simp [List.getD_eq_getElem?_getD, List.getElem?_take, h]
theorem c_repeated (kind table index : Int) (cols : List Int) (nulls : Bool) (rows : List Row) (hl : rows.length ≤ 1000) (hcl : cols.length ≤ 1000) (hc : ∀ r ∈ rows, ∀ c ∈ cols, 0 ≤ c ∧ c < r.length) :
    ACall Tryz.prog 61 [num kind, num table, num index, ints cols, aTab rows, boo nulls] [] (.vec 1000 (repTo kind table index cols nulls rows rows.length).length) [(1000, vO (repTo kind table index cols nulls rows rows.length))] := by
  refine enterq mixed ttok Tryz.func61 Tryz.ntmps61 Tryz.results61 ?_
  simp -implicitDefEqProofs only [argT, ↓steps, push_cast, simprocAttr, tte]
  refine loop_count mixed ttok 14 [0, 1, 2, 3, 4, 5] [] (by simp only [pickT, ends, push_cast, simprocAttr]; rfl) (by simp only [pickO, consO_some, ends, push_cast, simprocAttr]; rfl) rows.length (fun _ => True) (fun n => [(13, .vec 600 (repTo kind table index cols nulls rows n).length)]) (fun n => [(600, vO (repTo kind table index cols nulls rows n))]) trivial ?_ ?_
  · exact (Weak.nilL 13 600 78 5 rfl rfl).trans (Weak.keepL (by simp [cst, repTo, ends]) (by simp [cst, repTo, rowsOf, ends]) (by simp [cst, ends]))
  intro I hI n hn _
  have hs := repTo_succ kind table index cols nulls rows n
  have hlen := repTo_len kind table index cols nulls rows n
  simp -implicitDefEqProofs only [cst, ↓steps, push_cast, simprocAttr, tte]
  refine bcase_intro (fun h => ?_) fun h => ?_
  rotate_left
  · simp only [decide_eq_false_iff_not] at h
    obtain rfl : n = rows.length := by omega
    exact ret_vec 600 trivial (by omega) rfl rfl ⟨.inl (by omega), trivial⟩
  simp only [decide_eq_true_eq] at h
  have h' : n < rows.length := by omega
  have hw := wrap_succ h' (by omega)
  have hcn := hc _ (getD_mem h')
  refine ⟨(by first | omega | trivial | (refine ⟨?_, ?_⟩ <;> first | omega | trivial | (refine ⟨?_, ?_⟩ <;> first | omega | trivial | (refine ⟨?_, ?_⟩ <;> first | omega | trivial | rfl)))), ?_⟩
  generalize hrn : rows.getD n default = r at hcn
  refine callq [[3], [1]] [] (c_rpick r cols (by omega) hcn) ?_
  have hxl : (partM r cols).length = cols.length := by simp [partM]
  rw [repAt, hrn] at hs
  generalize hx : partM r cols = x at hs hxl
  simp -implicitDefEqProofs only [↓steps, push_cast, simprocAttr, tte]
  refine callq [[3]] [] (c_rnull x (by omega)) ?_
  simp -implicitDefEqProofs only [↓steps, push_cast, simprocAttr, tte]
  cases nulls <;> cases hN : x.any isK0 <;> simp -implicitDefEqProofs only [↓steps, push_cast, simprocAttr, tte]
  rotate_left
  · rw [hN, if_pos (by rfl), List.append_nil] at hs
    exact cnt_again hI n rfl h' trivial (by simp [hw, hs, ends]) (by simp [hw, hs, ends]) (by simp [hw, hs, ends]) (by simp [hw, hs, ends])
  rotate_right
  all_goals
    rw [hN, if_neg (by decide)] at hs
    refine loop_count mixed ttok 16 [0, 1, 2, 3, 4, 5, 13, 14, 15] [600] (by simp only [pickT, ends, push_cast, simprocAttr]; rfl) (by simp only [pickO, consO_some, ends, push_cast, simprocAttr]; rfl) n (fun k => ∀ i, i < k → sameP cols x (rows.getD i default) = false) (fun _ => []) (fun _ => []) (fun i h => absurd h (Nat.not_lt_zero _)) ?_ ?_
    · exact Weak.keepL (by simp [cst, ends]) (by simp [cst, ends]) (by simp [cst, ends])
    intro J hJ k hk hki
    simp -implicitDefEqProofs only [cst, ↓steps, push_cast, simprocAttr, tte]
    refine bcase_intro (fun q => ?_) fun q => ?_
    rotate_left
    · simp only [decide_eq_false_iff_not] at q
      obtain rfl : k = n := by omega
      have hf : fidx (sameP cols x) (rows.take k) = -1 := fidx_none _ _ fun i hi => by
        have hi : i < k := by simpa [Nat.min_eq_left (show k ≤ rows.length by omega)] using hi
        rw [take_getD rows hi]; exact hki i hi
      rw [hf, if_pos (by decide), List.append_nil] at hs
      exact cnt_again hI k rfl h' trivial (by simp [hw, hs, ends]) (by simp [hw, hs, ends]) (by simp [hw, hs, ends]) (by simp [hw, hs, ends])
    simp only [decide_eq_true_eq] at q
    have q' : k < n := by omega
    have hwk := wrap_succ q' (by omega)
    have hck := hc _ (getD_mem (show k < rows.length by omega))
    refine ⟨(by first | omega | trivial | (refine ⟨?_, ?_⟩ <;> first | omega | trivial | (refine ⟨?_, ?_⟩ <;> first | omega | trivial | (refine ⟨?_, ?_⟩ <;> first | omega | trivial | rfl)))), ?_⟩
    refine callq [[3], [1]] [] (c_rpick (rows.getD k default) cols (by omega) hck) ?_
    simp -implicitDefEqProofs only [↓steps, push_cast, simprocAttr, tte]
    refine callq [[3], [3]] [] (c_cmpRows (partM (rows.getD k default) cols) x (by simp [partM]; omega)) ?_
    simp -implicitDefEqProofs only [↓steps, push_cast, simprocAttr, tte]
    refine bcase_intro (fun e => ?_) fun e => ?_
    · have hf : fidx (sameP cols x) (rows.take n) = k := by
        have hlt : (rows.take n).length = n := by simp; omega
        refine fidx_at _ _ k (by omega) (fun i hi => ?_) ?_
        · rw [take_getD rows (show i < n by omega)]; exact hki i hi
        · rw [take_getD rows q']; exact e
      rw [hf, if_neg (by omega)] at hs
      have hl1 := hlen
      refine ⟨(by first | omega | trivial | (refine ⟨?_, ?_⟩ <;> first | omega | trivial | (refine ⟨?_, ?_⟩ <;> first | omega | trivial | (refine ⟨?_, ?_⟩ <;> first | omega | trivial | rfl)))), ?_⟩
      exact cnt_again hI n rfl h' trivial (by simp [hw, hs, rowsOf, ends]) (by simp [hw, hs, rowsOf, ends]) (by simp [hw, hs, rowsOf, ends]) (by simp [hw, hs, rowsOf, ends])
    · have g' : sameP cols x (rows.getD k default) = false := e
      exact cnt_again hJ k rfl q' (fun i h2 => if h3 : i = k then by rw [h3]; exact g' else hki i (by omega)) (by simp [hwk, ends]) (by simp [hwk, ends]) (by simp [hwk, ends]) (by simp [hwk, ends])
end Go.Proofs.YtodoeplhcmecjaaGreatDoor
namespace Go.Proofs.YtodoeplhcmecjaaGreatDoor
open Go.Am
set_option linter.unusedVariables false
set_option maxRecDepth 100000
/-! Keys: what the program finds by texts is what the specification finds by comparing. -/
theorem cmpR_eq : ∀ (a b : List Val), cmpR a b = 0 ↔ a = b
  | [], [] => by simp [cmpR]
  | [], _ :: _ => by simp [cmpR]
  | _ :: _, [] => by simp [cmpR]
  | x :: a, y :: b => by
    rw [cmpR]
    split
    · rename_i h
      constructor
      · intro e; exact absurd e h
      · intro e; injection e with e1 e2; exact absurd ((cmpM_eq x y).2 e1) h
    · rename_i h
      have h' : cmpM x y = 0 := by omega
      rw [cmpR_eq a b, (cmpM_eq x y).1 h']; simp
theorem fidx_snoc {α : Type} (p : α → Bool) (x : α) : ∀ l : List α, fidx p (l ++ [x]) = if fidx p l < 0 then (if p x then (l.length : Int) else -1) else fidx p l
  | [] => by cases h : p x <;> simp [fidx, h]
  | y :: l => by
    have ih := fidx_snoc p x l
    have hg := fidx_ge p l
    simp only [List.cons_append, fidx, ih, List.length_cons]
    cases p y with
    | true => simp
    | false =>
      by_cases h : fidx p l < 0
      · cases hx : p x
        · simp [h]
        · simp only [h, if_true, if_false, Bool.false_eq_true]
          rw [if_neg (by omega), if_pos (by omega)]
          push_cast
      · simp only [h, if_false, Bool.false_eq_true]
        rw [if_neg (by omega)]
theorem findS_snoc (k t : ByteArray) (v : Int) : ∀ es : List (ByteArray × Int), findS t (es ++ [(k, v)]) = match findS t es with | some o => some o | none => if t = k then some v else none
  | [] => by simp [findS]
  | p :: es => by
    simp only [List.cons_append, findS, findS_snoc k t v es]
    split <;> rfl
theorem any_congr {p q : Val → Bool} : ∀ {l : List Val}, (∀ v ∈ l, p v = q v) → l.any p = l.any q
  | [], _ => rfl
  | v :: l, h => by
    rw [List.any_cons, List.any_cons, h v List.mem_cons_self, any_congr fun x hx => h x (List.mem_cons_of_mem _ hx)]
/-- Texts of the values in these columns tell them apart, and null is written in one way. -/
structure TextOk (rows : List Row) (cols : List Int) : Prop where
  inj : ∀ q ∈ rows, ∀ r ∈ rows, textL (partM q cols) = textL (partM r cols) → partM q cols = partM r cols
  nul : ∀ r ∈ rows, ∀ v ∈ partM r cols, isNull v = isK0 v
theorem TextOk.any {rows : List Row} {cols : List Int} (h : TextOk rows cols) {r : Row} (hr : r ∈ rows) : (partM r cols).any isNull = (partM r cols).any isK0 := any_congr (h.nul r hr)
def keepR (cols : List Int) (nulls : Bool) (q : Row) : Bool := !(!nulls && (partM q cols).any isNull)
def textP (cols : List Int) (nulls : Bool) (t : ByteArray) (q : Row) : Bool := keepR cols nulls q && decide (t = textL (partM q cols))
def EsOk (cols : List Int) (nulls : Bool) (rows : List Row) (n : Nat) (es : List (ByteArray × Int)) : Prop :=
  ∀ t, findS t es = if fidx (textP cols nulls t) (rows.take n) < 0 then none else some (fidx (textP cols nulls t) (rows.take n))
theorem same_text {cols : List Int} {nulls : Bool} {rows : List Row} (h : TextOk rows cols) {q r : Row} (hq : q ∈ rows) (hr : r ∈ rows) (hk : keepR cols nulls r = true) :
    sameP cols (partM r cols) q = textP cols nulls (textL (partM r cols)) q := by
  rw [Bool.eq_iff_iff, sameP, textP, beq_iff_eq, cmpR_eq, Bool.and_eq_true, decide_eq_true_eq]
  constructor
  · intro e
    refine ⟨?_, by rw [e]⟩
    rw [keepR, e]; exact hk
  · rintro ⟨_, e⟩
    exact (h.inj r hr q hq e).symm
theorem key_go (kind table index : Int) {cols : List Int} {nulls : Bool} {rows : List Row} (h : TextOk rows cols) : ∀ (m n : Nat) (es : List (ByteArray × Int)), n + m = rows.length → EsOk cols nulls rows n es →
    repTo kind table index cols nulls rows n ++ keyGo kind table index cols nulls (rows.drop n) n es = repTo kind table index cols nulls rows rows.length
  | 0, n, es, hn, _ => by
    obtain rfl : n = rows.length := by omega
    rw [List.drop_length, keyGo, List.append_nil]
  | m + 1, n, es, hn, hE => by
    have h' : n < rows.length := by omega
    have hs := repTo_succ kind table index cols nulls rows n
    have hr := getD_mem h'
    have htk := take_snoc rows n h'
    have hlen : (rows.take n).length = n := by simp; omega
    rw [drop_cons rows n h', keyGo]
    rw [repAt, ← h.any hr] at hs
    by_cases hk : (!nulls && (partM (rows.getD n default) cols).any isNull) = true
    · rw [if_pos hk] at hs ⊢
      have hp : ∀ t, textP cols nulls t (rows.getD n default) = false := fun t => by rw [textP, keepR, hk]; rfl
      have := key_go kind table index h m (n + 1) es (by omega) (fun t => by
        rw [htk, fidx_snoc, hp t, hE t]
        by_cases q : fidx (textP cols nulls t) (rows.take n) < 0
        · simp [q]
        · simp [q])
      rwa [hs, List.append_nil] at this
    · rw [if_neg hk] at hs ⊢
      have hkeep : keepR cols nulls (rows.getD n default) = true := by
        rw [keepR]
        cases q : (!nulls && (partM (rows.getD n default) cols).any isNull)
        · rfl
        · exact absurd q hk
      have hfi : fidx (sameP cols (partM (rows.getD n default) cols)) (rows.take n) = fidx (textP cols nulls (textL (partM (rows.getD n default) cols))) (rows.take n) :=
        fidx_congr _ fun q hq => same_text h (List.mem_of_mem_take hq) hr hkeep
      rw [hfi] at hs
      have hf := hE (textL (partM (rows.getD n default) cols))
      generalize hT : textL (partM (rows.getD n default) cols) = T at hs hf hfi ⊢
      have hp : ∀ t, textP cols nulls t (rows.getD n default) = decide (t = T) := fun t => by rw [textP, hkeep, hT, Bool.true_and]
      by_cases q : fidx (textP cols nulls T) (rows.take n) < 0
      · rw [if_pos q] at hs hf
        rw [hf]
        have := key_go kind table index h m (n + 1) (es ++ [(T, (n : Int))]) (by omega) (fun t => by
          rw [htk, fidx_snoc, hp t, hlen, findS_snoc, hE t]
          by_cases q2 : fidx (textP cols nulls t) (rows.take n) < 0
          · by_cases e : t = T
            · subst e; simp [q2]
            · simp [q2, e]
          · simp [q2])
        rwa [hs, List.append_nil] at this
      · rw [if_neg q] at hs hf
        rw [hf]
        have := key_go kind table index h m (n + 1) es (by omega) (fun t => by
          rw [htk, fidx_snoc, hp t, hlen, hE t]
          by_cases q2 : fidx (textP cols nulls t) (rows.take n) < 0
          · have e : t ≠ T := fun e => q (e ▸ q2)
            simp [q2, e]
          · simp [q2])
        rw [hs, List.append_assoc] at this
        exact this
theorem key_eq (kind table index : Int) {cols : List Int} {nulls : Bool} {rows : List Row} (h : TextOk rows cols) : repTo kind table index cols nulls rows rows.length = keyM kind table index cols nulls rows := by
  have := key_go kind table index (nulls := nulls) h rows.length 0 [] (by omega) (fun t => by simp [findS, fidx])
  rw [← this]; rfl
/-! Values of the right types. -/
theorem val_ok {T : Tbl} {r : Row} (h : misM T r = false) {c : Int} (hc : inC T c) : OfType (r.getD c.toNat default) (typeAt T c) ∧ r.length = T.columns.length := by
  have hl : ¬ (r.length : Int) ≠ T.columns.length := fun q => by rw [rowErr_len q] at h; cases h
  have ha := rowErr_all hl
  rw [h] at ha
  have ha : ((List.range r.length).all fun j => !badV (T.columns.getD j default) (r.getD j default)) = true := by
    cases q : ((List.range r.length).all fun j => !badV (T.columns.getD j default) (r.getD j default))
    · rw [q] at ha; cases ha
    · rfl
  obtain ⟨c0, c1⟩ := hc
  have hb := all_range.1 ha c.toNat (by omega)
  have hb : badV (T.columns.getD c.toNat default) (r.getD c.toNat default) = false := by simpa using hb
  rw [badV, Bool.or_eq_false_iff] at hb
  refine ⟨⟨by simpa using hb.1, ?_⟩, by omega⟩
  have h2 := hb.2
  by_cases k : (r.getD c.toNat default).kind = 0
  · exact .inl k
  · right
    have k1 : ((r.getD c.toNat default).kind != 0) = true := by simpa using k
    rw [k1, Bool.true_and] at h2
    simpa [typeAt] using h2
theorem null_eq {v : Val} (h : validM v = true) : isNull v = isK0 v := by
  rw [Bool.eq_iff_iff]
  constructor
  · intro e
    simp only [isNull, Bool.and_eq_true, beq_iff_eq] at e
    rw [isK0, ← e.1.1]; rfl
  · intro e
    have k : v.kind = 0 := by simpa [isK0] using e
    rw [valid_0 h k]; simp [isNull]
theorem part_getD (r : Row) (cols : List Int) {i : Nat} (h : i < cols.length) : (partM r cols).getD i default = r.getD (cols.getD i default).toNat default := by
  simp [partM, List.getD_eq_getElem?_getD, List.getElem?_map, List.getElem?_eq_getElem h]
/-- Values in columns of two tables that have the same types. -/
theorem text_inj2 {T U : Tbl} {a b : List Int} (hk : eqKeys T U a b = true) (ha : ∀ c ∈ a, inC T c) (hb : ∀ c ∈ b, inC U c) {q r : Row} (hq : misM T q = false) (hr : misM U r = false)
    (h : textL (partM q a) = textL (partM r b)) : partM q a = partM r b := by
  simp only [eqKeys, Bool.and_eq_true, beq_iff_eq] at hk
  obtain ⟨hl, hk⟩ := hk
  refine textL_inj _ _ (a.map (typeAt T)) (by simp [partM]) (by simp [partM, hl]) ?_ ?_ h
  · intro i hi
    have hi : i < a.length := by simpa using hi
    have := (val_ok hq (ha _ (getD_mem hi))).1
    rw [part_getD q a hi]
    simpa [List.getD_eq_getElem?_getD, List.getElem?_map, List.getElem?_eq_getElem hi] using this
  · intro i hi
    have hi : i < a.length := by simpa using hi
    have hi2 : i < b.length := by omega
    have := (val_ok hr (hb _ (getD_mem hi2))).1
    have hty := all_range.1 hk i hi
    rw [beq_iff_eq] at hty
    rw [part_getD r b hi2]
    rw [← hty] at this
    simpa [List.getD_eq_getElem?_getD, List.getElem?_map, List.getElem?_eq_getElem hi] using this
theorem eqKeys_self (T : Tbl) (a : List Int) : eqKeys T T a a = true := by simp [eqKeys]
theorem part_null {T : Tbl} {a : List Int} (ha : ∀ c ∈ a, inC T c) {r : Row} (hr : misM T r = false) : ∀ v ∈ partM r a, isNull v = isK0 v := by
  intro v hv
  simp only [partM, List.mem_map] at hv
  obtain ⟨c, hc, rfl⟩ := hv
  exact null_eq (val_ok hr (ha c hc)).1.ok
theorem text_ok {T : Tbl} {a : List Int} (ha : ∀ c ∈ a, inC T c) {rows : List Row} (h : ∀ r ∈ rows, misM T r = false) : TextOk rows a :=
  ⟨fun q hq r hr e => text_inj2 (eqKeys_self T a) ha ha (h q hq) (h r hr) e, fun r hr => part_null ha (h r hr)⟩
end Go.Proofs.YtodoeplhcmecjaaGreatDoor
namespace Go.Proofs.YtodoeplhcmecjaaGreatDoor
open Go.Am
attribute [local simp, local push_cast] num boo str ints aV aTab aInst aS aT aC aRow rRow rTab vO rVio rB vT
set_option linter.unusedVariables false
set_option maxRecDepth 100000
set_option maxHeartbeats 4000000
/-! The specification's look at the rows of a table. -/
def RR (k : Nat) (T : Tbl) (rows : List Row) (x : Nat × List Vio × Bool) : SL :=
  ⟨[(10, .d (.lit (.int .i64 x.1))), (9, boo x.2.2), (8, .vec 600 x.2.1.length), (1, num k), (2, aTab rows), (3, .ptr 3 0)], [(3, vT T), (600, vO x.2.1)]⟩
def RC (k : Nat) (T : Tbl) (rows : List Row) (n : Nat) (x : Nat × List Vio × Bool) : SL :=
  ⟨[(11, .d (.lit (.int .i64 x.1))), (10, .d (.lit (.int .i64 n))), (9, boo x.2.2), (8, .vec 600 x.2.1.length), (1, num k), (2, aTab rows), (3, .ptr 3 0)], [(3, vT T), (600, vO x.2.1)]⟩
def fineTo (T : Tbl) (r : Row) (c : Nat) : Bool := (List.range c).all fun j => !badV (T.columns.getD j default) (r.getD j default)
theorem fineTo_succ (T : Tbl) (r : Row) (c : Nat) : fineTo T r (c + 1) = (fineTo T r c && !badV (T.columns.getD c default) (r.getD c default)) := by
  simp [fineTo, List.range_succ, List.all_append]
theorem c_rrows (T : Tbl) (k : Nat) (rows : List Row) (hl : rows.length ≤ 1000) (hrl : ∀ r ∈ rows, r.length ≤ 1000) (hpl : T.primary.length ≤ 1000) :
    ACall Tryz.prog 31 [aT T, num k, aTab rows] [] (.tup [.d (.sl 5 (rowsOf rVio (rowsVio T k rows 0))), boo (!rows.any (misM T))]) [] := by
  refine enterq mixed ttok Tryz.func31 Tryz.ntmps31 Tryz.results31 ?_
  generalize hV : rowsVio T k rows 0 = V
  generalize hF : (!rows.any (misM T)) = F
  simp -implicitDefEqProofs only [argT, ↓steps, push_cast, simprocAttr, tte]
  refine loop_gen mixed ttok (fun x : Nat × List Vio × Bool => RR k T rows x) (fun x => rows.length - x.1)
    (fun x => x.1 ≤ rows.length ∧ x.2.1 ++ rowsVio T k (rows.drop x.1) x.1 = V ∧ x.2.1.length ≤ 1001 * x.1 ∧ x.2.2 = !((rows.take x.1).any (misM T))) (0, [], true) ⟨Nat.zero_le _, hV, by simp, rfl⟩ ?_ ?_
  · exact (Weak.nilL 8 600 78 5 rfl rfl).trans (Weak.keepL (by simp [RR, ends]) (by simp [RR, rowsOf, ends]) (by simp [RR, ends]))
  rintro I hI ⟨n, o2, f⟩ ⟨hn, hi, hol, hf⟩
  simp only at hn hi hol hf
  simp -implicitDefEqProofs only [RR, ↓steps, push_cast, simprocAttr, tte]
  refine bcase_intro (fun h => ?_) fun h => ?_
  rotate_left
  · simp only [decide_eq_false_iff_not] at h
    obtain rfl : n = rows.length := by omega
    have he : V = o2 := by rw [← hi, List.drop_length]; simp [rowsVio]
    have hF2 : F = f := by rw [← hF, hf, List.take_length]
    rw [he, hF2]
    exact retx_tup [[5], []] rfl (by simp) (by simp [rowsOf_length]) rfl (by simp [ends]) trivial (by simp [ends])
  simp only [decide_eq_true_eq] at h
  have h' : n < rows.length := by omega
  have hw := wrap_succ h' (by omega)
  rw [drop_cons rows n h', rowsVio] at hi
  have hrn := hrl _ (getD_mem h')
  have htk := take_snoc rows n h'
  refine ⟨(by first | omega | trivial | (refine ⟨?_, ?_⟩ <;> first | omega | trivial | (refine ⟨?_, ?_⟩ <;> first | omega | trivial | (refine ⟨?_, ?_⟩ <;> first | omega | trivial | rfl)))), drawx_intro (by kernel_rfl), ?_⟩
  refine bcase_intro (fun h1 => ?_) fun h1 => ?_
  · have h1' : ((rows.getD n default).length : Int) ≠ T.columns.length := by simpa using h1
    rw [rowVio, if_pos h1'] at hi
    refine ⟨(by first | omega | trivial | (refine ⟨?_, ?_⟩ <;> first | omega | trivial | (refine ⟨?_, ?_⟩ <;> first | omega | trivial | (refine ⟨?_, ?_⟩ <;> first | omega | trivial | rfl)))), ?_⟩
    refine gen_again hI (n + 1, o2 ++ [⟨1, k, 0, n, 0⟩], false) ⟨h', by simpa using hi, by simp; omega, by simp only [htk, List.any_append, List.any_cons, rowErr_len h1']; simp⟩ (by show rows.length - (n + 1) < rows.length - n; omega) (Weak.keepL (by simp [RR, hw, ends]) (by simp [RR, rowsOf, ends]) (by simp [RR, ends]))
  have h1' : ¬ ((rows.getD n default).length : Int) ≠ T.columns.length := by simpa using h1
  have hmis := rowErr_all h1'
  have hrc : (rows.getD n default).length = T.columns.length := by omega
  rw [rowVio, if_neg h1'] at hi
  refine loop_gen mixed ttok (fun x : Nat × List Vio × Bool => RC k T rows n x) (fun x => T.columns.length - x.1)
    (fun x => x.1 ≤ T.columns.length ∧ x.2.1 ++ (cellsVio T k n ((rows.getD n default).drop x.1) x.1 ++ rowsVio T k (rows.drop (n + 1)) (n + 1)) = V ∧ x.2.1.length ≤ o2.length + x.1 ∧ x.2.2 = (f && fineTo T (rows.getD n default) x.1)) (0, o2, f)
    ⟨Nat.zero_le _, hi, Nat.le_refl _, by simp [fineTo]⟩ ?_ ?_
  · exact Weak.keepL (by simp [RC, ends]) (by simp [RC, ends]) (by simp [RC, ends])
  rintro J hJ ⟨c, o3, g⟩ ⟨hc, hj, hol3, hg⟩
  simp only at hc hj hol3 hg
  simp -implicitDefEqProofs only [RC, ↓steps, push_cast, simprocAttr, tte]
  refine bcase_intro (fun q => ?_) fun q => ?_
  rotate_left
  · simp only [decide_eq_false_iff_not] at q
    obtain rfl : c = T.columns.length := by omega
    rw [← hrc, List.drop_length, cellsVio, List.nil_append] at hj
    have hm : misM T (rows.getD n default) = !fineTo T (rows.getD n default) (rows.getD n default).length := hmis
    exact gen_again hI (n + 1, o3, g) ⟨h', hj, by simp only; omega, by simp only [htk, List.any_append, List.any_cons, List.any_nil, hm, hg, hf, hrc]; simp⟩ (by show rows.length - (n + 1) < rows.length - n; omega) (Weak.keepL (by simp [RR, hw, ends]) (by simp [RR, ends]) (by simp [RR, ends]))
  simp only [decide_eq_true_eq] at q
  have q' : c < T.columns.length := by omega
  have q2 : c < (rows.getD n default).length := by omega
  have hwc := wrap_succ q' (by omega)
  rw [drop_cons _ c q2, cellsVio, List.append_assoc] at hj
  have hfs := fineTo_succ T (rows.getD n default) c
  refine ⟨(by first | omega | trivial | (refine ⟨?_, ?_⟩ <;> first | omega | trivial | (refine ⟨?_, ?_⟩ <;> first | omega | trivial | (refine ⟨?_, ?_⟩ <;> first | omega | trivial | rfl)))), (by first | omega | trivial | (refine ⟨?_, ?_⟩ <;> first | omega | trivial | (refine ⟨?_, ?_⟩ <;> first | omega | trivial | (refine ⟨?_, ?_⟩ <;> first | omega | trivial | rfl)))), ?_⟩
  generalize hv : (rows.getD n default).getD c default = v at hj hfs ⊢
  refine callq [[0, 0, 0]] [] (c_rvalid v) ?_
  simp -implicitDefEqProofs only [↓steps, push_cast, simprocAttr, tte]
  have hcV : cellVio T k n c v = if badV (T.columns.getD c default) v = true then [⟨2, k, c, n, 0⟩]
    else if ((v.kind == 0) && (!(T.columns.getD c default).nullable || T.primary.contains (c : Int))) = true then [⟨3, k, c, n, 0⟩] else [] := rfl
  rw [hcV] at hj
  clear hcV
  generalize hcol : T.columns.getD c default = col at hj hfs ⊢
  refine bcase_intro (fun v1 => ?_) fun v1 => ?_
  · have hb : badV col v = true := by rw [badV, v1, Bool.true_or]
    rw [if_pos hb] at hj
    refine ⟨drawx_intro (by kernel_rfl), ?_⟩
    refine ⟨(by first | omega | trivial | (refine ⟨?_, ?_⟩ <;> first | omega | trivial | (refine ⟨?_, ?_⟩ <;> first | omega | trivial | (refine ⟨?_, ?_⟩ <;> first | omega | trivial | rfl)))), ?_⟩
    exact gen_again hJ (c + 1, o3 ++ [⟨2, k, c, n, 0⟩], false) ⟨q', by simpa using hj, by simp; omega, by simp only [hfs, hb]; simp⟩ (by show T.columns.length - (c + 1) < T.columns.length - c; omega) (Weak.keepL (by simp [RC, hwc, ends]) (by simp [RC, rowsOf, ends]) (by simp [RC, ends]))
  refine bcase_intro (fun v2 => ?_) fun v2 => ?_
  · refine ⟨by omega, drawx_intro (by kernel_rfl), ?_⟩
    refine bcase_intro (fun v3 => ?_) fun v3 => ?_
    · have hb : badV col v = true := by rw [badV, v2, v3]; simp
      rw [if_pos hb] at hj
      refine ⟨(by first | omega | trivial | (refine ⟨?_, ?_⟩ <;> first | omega | trivial | (refine ⟨?_, ?_⟩ <;> first | omega | trivial | (refine ⟨?_, ?_⟩ <;> first | omega | trivial | rfl)))), ?_⟩
      exact gen_again hJ (c + 1, o3 ++ [⟨2, k, c, n, 0⟩], false) ⟨q', by simpa using hj, by simp; omega, by simp only [hfs, hb]; simp⟩ (by show T.columns.length - (c + 1) < T.columns.length - c; omega) (Weak.keepL (by simp [RC, hwc, ends]) (by simp [RC, rowsOf, ends]) (by simp [RC, ends]))
    · have hb : badV col v = false := by rw [badV, v1, v3]; simp
      rw [if_neg (by rw [hb]; decide)] at hj
      refine bcase_intro (fun w => ?_) fun w => ?_
      · exfalso
        rw [beq_iff_eq] at w
        rw [w] at v2
        exact absurd v2 (by decide)
      · rw [if_neg (by rw [w]; simp)] at hj
        exact gen_again hJ (c + 1, o3, g) ⟨q', by simpa using hj, by simp only; omega, by simp only [hfs, hb, hg]; simp⟩ (by show T.columns.length - (c + 1) < T.columns.length - c; omega) (Weak.keepL (by simp [RC, hwc, ends]) (by simp [RC, rowsOf, ends]) (by simp [RC, ends]))
  · refine ⟨drawx_intro (by kernel_rfl), ?_⟩
    have hb : badV col v = false := by rw [badV, v1, v2]; simp
    rw [if_neg (by rw [hb]; decide)] at hj
    refine bcase_intro (fun w => ?_) fun w => ?_
    · refine ⟨by omega, ?_⟩
      refine bcase_intro (fun u => ?_) fun u => ?_
      · rw [if_pos (by rw [w, u]; simp)] at hj
        refine ⟨(by first | omega | trivial | (refine ⟨?_, ?_⟩ <;> first | omega | trivial | (refine ⟨?_, ?_⟩ <;> first | omega | trivial | (refine ⟨?_, ?_⟩ <;> first | omega | trivial | rfl)))), ?_⟩
        exact gen_again hJ (c + 1, o3 ++ [⟨3, k, c, n, 0⟩], g) ⟨q', by simpa using hj, by simp; omega, by simp only [hfs, hb, hg]; simp⟩ (by show T.columns.length - (c + 1) < T.columns.length - c; omega) (Weak.keepL (by simp [RC, hwc, ends]) (by simp [RC, rowsOf, ends]) (by simp [RC, ends]))
      · refine callq [[1], []] [] (c_rin T.primary c (by omega)) ?_
        simp -implicitDefEqProofs only [↓steps, push_cast, simprocAttr, tte]
        refine bcase_intro (fun q3 => ?_) fun q3 => ?_
        · rw [if_pos (by rw [w, u, q3]; simp)] at hj
          refine ⟨(by first | omega | trivial | (refine ⟨?_, ?_⟩ <;> first | omega | trivial | (refine ⟨?_, ?_⟩ <;> first | omega | trivial | (refine ⟨?_, ?_⟩ <;> first | omega | trivial | rfl)))), ?_⟩
          exact gen_again hJ (c + 1, o3 ++ [⟨3, k, c, n, 0⟩], g) ⟨q', by simpa using hj, by simp; omega, by simp only [hfs, hb, hg]; simp⟩ (by show T.columns.length - (c + 1) < T.columns.length - c; omega) (Weak.keepL (by simp [RC, hwc, ends]) (by simp [RC, rowsOf, ends]) (by simp [RC, ends]))
        · rw [if_neg (by rw [w, u, q3]; simp)] at hj
          exact gen_again hJ (c + 1, o3, g) ⟨q', by simpa using hj, by simp only; omega, by simp only [hfs, hb, hg]; simp⟩ (by show T.columns.length - (c + 1) < T.columns.length - c; omega) (Weak.keepL (by simp [RC, hwc, ends]) (by simp [RC, rowsOf, ends]) (by simp [RC, ends]))
    · exfalso
      have : v.kind = 0 := by simpa using v2
      rw [this] at w
      exact absurd w (by decide)
end Go.Proofs.YtodoeplhcmecjaaGreatDoor
namespace Go.Proofs.YtodoeplhcmecjaaGreatDoor
open Go.Am
attribute [local simp, local push_cast] num boo str ints aV aTab aInst aS aT aC aRow rRow rTab vO rVio rB vT found rE
set_option linter.unusedVariables false
set_option maxRecDepth 100000
set_option maxHeartbeats 4000000
/-! The specification's look at a table. -/
def foundR (prim cols : List Int) (there : List Row) (r : Row) : Bool := (partM r cols).any isK0 || there.any (sameP prim (partM r cols))
def rforGo (k x : Int) (prim cols : List Int) (there : List Row) : List Row → Nat → List Vio
  | [], _ => []
  | r :: rs, n => (if foundR prim cols there r = true then [] else [⟨6, k, x, n, 0⟩]) ++ rforGo k x prim cols there rs (n + 1)
def rforM1 (s : Sch) (i : Inst) (fine : List Bool) (k : Nat) (f : Fk) (n : Nat) : List Vio :=
  if fine.getD (targetN s f) default = true then rforGo k n (s.getD (targetN s f) default).primary f.columns (i.getD (targetN s f) default) (i.getD k default) 0 else []
def rforsM (s : Sch) (i : Inst) (fine : List Bool) (k : Nat) : List Fk → Nat → List Vio
  | [], _ => []
  | f :: fs, n => rforM1 s i fine k f n ++ rforsM s i fine k fs (n + 1)
def runiqsM (k : Int) (rows : List Row) : List (List Int) → Nat → List Vio
  | [], _ => []
  | u :: us, n => repTo 5 k n u false rows rows.length ++ runiqsM k rows us (n + 1)
def rconsM (s : Sch) (i : Inst) (fine : List Bool) (k : Nat) : List Vio :=
  repTo 4 k 0 (s.getD k default).primary true (i.getD k default) (i.getD k default).length ++ (runiqsM k (i.getD k default) (s.getD k default).uniques 0 ++
    (rforsM s i fine k (s.getD k default).foreigns 0 ++ chksM k (i.getD k default) (s.getD k default).checks 0))
theorem rforGo_len (k x : Int) (prim cols : List Int) (there : List Row) : ∀ (rows : List Row) (n : Nat), (rforGo k x prim cols there rows n).length ≤ rows.length
  | [], _ => Nat.le_refl _
  | r :: rs, n => by
    have := rforGo_len k x prim cols there rs (n + 1)
    rw [rforGo, List.length_append, List.length_cons]
    split <;> simp <;> omega
theorem rforM1_len (s : Sch) (i : Inst) (fine : List Bool) (k : Nat) (f : Fk) (n : Nat) : (rforM1 s i fine k f n).length ≤ (i.getD k default).length := by
  unfold rforM1
  split
  · exact rforGo_len ..
  · simp
def vI (i : Inst) : Ob := .var [.d (.sl 1 (rowsOf rTab i))]
def bD (fine : List Bool) : A := .d (.sl 1 (rowsOf rB fine))
attribute [local simp, local push_cast] bD
def tS (s : Sch) (i : Inst) (fine : List Bool) (k : Nat) (T : Tbl) (rows : List Row) (o : List Vio) : List (Nat × A) :=
  [(2, num k), (3, bD fine), (4, .ptr 4 0), (5, .ptr 5 0), (9, .ptr 9 0), (10, aTab rows), (11, .vec 600 o.length)]
def oS (s : Sch) (i : Inst) (T : Tbl) (o : List Vio) : List (Nat × Ob) := [(4, vS s), (5, vI i), (9, vT T), (600, vO o)]
def U5 (s : Sch) (i : Inst) (fine : List Bool) (k : Nat) (T : Tbl) (rows : List Row) (x : Nat × List Vio) : SL := ⟨(12, .d (.lit (.int .i64 x.1))) :: tS s i fine k T rows x.2, oS s i T x.2⟩
def V5 (s : Sch) (i : Inst) (fine : List Bool) (k : Nat) (T : Tbl) (rows : List Row) (x : Nat × List Vio) : SL := ⟨(13, .d (.lit (.int .i64 x.1))) :: tS s i fine k T rows x.2, oS s i T x.2⟩
def W5 (s : Sch) (i : Inst) (fine : List Bool) (k : Nat) (T : Tbl) (rows : List Row) (m to : Nat) (x : Nat × List Vio) : SL :=
  ⟨(16, .d (.lit (.int .i64 x.1))) :: (14, num to) :: (13, .d (.lit (.int .i64 m))) :: tS s i fine k T rows x.2, oS s i T x.2⟩
def X5 (s : Sch) (i : Inst) (fine : List Bool) (k : Nat) (T : Tbl) (rows : List Row) (m to n : Nat) (y : List Val) (o : List Vio) (x : Nat × Bool) : SL :=
  ⟨(19, .d (.lit (.int .i64 x.1))) :: (18, boo x.2) :: (17, aRow y) :: (16, .d (.lit (.int .i64 n))) :: (14, num to) :: (13, .d (.lit (.int .i64 m))) :: tS s i fine k T rows o, oS s i T o⟩
def Y5 (s : Sch) (i : Inst) (fine : List Bool) (k : Nat) (T : Tbl) (rows : List Row) (x : Nat × List Vio) : SL := ⟨(20, .d (.lit (.int .i64 x.1))) :: tS s i fine k T rows x.2, oS s i T x.2⟩
def Z5 (s : Sch) (i : Inst) (fine : List Bool) (k : Nat) (T : Tbl) (rows : List Row) (q : Nat) (x : Nat × List Vio) : SL :=
  ⟨(21, .d (.lit (.int .i64 x.1))) :: (20, .d (.lit (.int .i64 q))) :: tS s i fine k T rows x.2, oS s i T x.2⟩
theorem c_r9table (s : Sch) (i : Inst) (fine : List Bool) (k : Nat) (hS : SmallS s) (hG : GoodS s) (hI : SmallI i) (hks : k < s.length) (hil : i.length = s.length) (hfl : fine.length = s.length)
    (hF : ∀ k, k < s.length → fine.getD k default = true → ∀ r ∈ i.getD k default, r.length = (s.getD k default).columns.length) (hfk : fine.getD k default = true) (V : List Vio) (hV : rconsM s i fine k = V) :
    ACall Tryz.prog 32 [aS s, aInst i, num k, bD fine] [] (.vec 1000 V.length) [(1000, vO V)] := by
  have hsl := hS.len
  have hTm : s.getD k default ∈ s := getD_mem hks
  have hRm : i.getD k default ∈ i := getD_mem (by omega)
  have hsm := hS.tab _ hTm
  have hrl := hI.tab _ hRm
  have hsh := hF k hks hfk
  have hG1 := hG.prim _ hTm
  have hG2 := hG.uniq _ hTm
  have hG3 := hG.fors _ hTm
  have hp1 := hsm.prim
  have hu1 := hsm.uniq
  have hf1 := hsm.fors
  have hc1 := hsm.chk
  have inR : ∀ {c : Int} {r : Row}, r ∈ i.getD k default → inC (s.getD k default) c → 0 ≤ c ∧ c < r.length := fun hr hc => by rw [hsh _ hr]; exact hc
  refine enterq mixed ttok Tryz.func32 Tryz.ntmps32 Tryz.results32 ?_
  simp -implicitDefEqProofs only [argT, ↓steps, push_cast, simprocAttr, tte]
  refine ⟨(by first | omega | trivial | (refine ⟨?_, ?_⟩ <;> first | omega | trivial | (refine ⟨?_, ?_⟩ <;> first | omega | trivial | (refine ⟨?_, ?_⟩ <;> first | omega | trivial | rfl)))), (by first | omega | trivial | (refine ⟨?_, ?_⟩ <;> first | omega | trivial | (refine ⟨?_, ?_⟩ <;> first | omega | trivial | (refine ⟨?_, ?_⟩ <;> first | omega | trivial | rfl)))), drawx_intro (by kernel_rfl), ?_⟩
  generalize hT : s.getD k default = T at hTm hsm hsh hG1 hG2 hG3 hp1 hu1 hf1 hc1 inR ⊢
  obtain ⟨rows, hRows⟩ : ∃ rows, i.getD k default = rows := ⟨_, rfl⟩
  rw [rconsM, hT, hRows] at hV
  rw [hRows] at hrl hsh inR hRm ⊢
  refine callq [[], [], [], [1], [1], []] [(1000, 600)] (c_repeated 4 k 0 T.primary true rows hrl hp1 (fun r hr c hc => inR hr (hG1 c hc))) ?_
  simp -implicitDefEqProofs only [↓steps, push_cast, simprocAttr, tte]
  have hl0 := repTo_len 4 k 0 T.primary true rows rows.length
  generalize hK : repTo 4 k 0 T.primary true rows rows.length = K0 at hl0 hV ⊢
  refine loop_gen mixed ttok (fun x : Nat × List Vio => U5 s i fine k T rows x) (fun x => T.uniques.length - x.1)
    (fun x => x.1 ≤ T.uniques.length ∧ x.2 ++ (runiqsM k rows (T.uniques.drop x.1) x.1 ++ (rforsM s i fine k T.foreigns 0 ++ chksM k rows T.checks 0)) = V ∧ x.2.length ≤ 1000 * (x.1 + 1)) (0, K0) ⟨Nat.zero_le _, by rw [← hV]; simp, by simp; omega⟩ ?_ ?_
  · exact Weak.keepL (by simp [U5, tS, oS, ends]) (by simp [U5, oS, vS, vI, ends]) (by simp [U5, oS, ends])
  rintro I hI1 ⟨n, o2⟩ ⟨hn, hi, hol⟩
  simp only at hn hi hol
  simp -implicitDefEqProofs only [U5, tS, oS, bD, vS, vI, ↓steps, push_cast, simprocAttr, tte]
  refine bcase_intro (fun h => ?_) fun h => ?_
  · have h' : n < T.uniques.length := by have := of_decide_eq_true h; omega
    have hw := wrap_succ h' (by omega)
    rw [drop_cons T.uniques n h', runiqsM] at hi
    have hum := getD_mem h'
    have hlk := repTo_len 5 k n (T.uniques.getD n default) false rows rows.length
    refine ⟨(by first | omega | trivial | (refine ⟨?_, ?_⟩ <;> first | omega | trivial | (refine ⟨?_, ?_⟩ <;> first | omega | trivial | (refine ⟨?_, ?_⟩ <;> first | omega | trivial | rfl)))), ?_⟩
    refine callq [[], [], [], [1], [1], []] [(1000, 601)] (c_repeated 5 k n (T.uniques.getD n default) false rows hrl (hsm.uniqs _ hum) (fun r hr c hc => inR hr (hG2 _ hum c hc))) ?_
    simp -implicitDefEqProofs only [↓steps, push_cast, simprocAttr, tte]
    generalize repTo 5 k n (T.uniques.getD n default) false rows rows.length = K1 at hi hlk ⊢
    refine ⟨(by first | omega | trivial | (refine ⟨?_, ?_⟩ <;> first | omega | trivial | (refine ⟨?_, ?_⟩ <;> first | omega | trivial | (refine ⟨?_, ?_⟩ <;> first | omega | trivial | rfl)))), ?_⟩
    exact gen_again hI1 (n + 1, o2 ++ K1) ⟨h', by simpa using hi, by simp; omega⟩ (by show T.uniques.length - (n + 1) < T.uniques.length - n; omega) (Weak.keepL (by simp [U5, tS, oS, hw, ends]) (by simp [U5, oS, vS, vI, rowsOf, ends]) (by simp [U5, oS, ends]))
  have hnn : n = T.uniques.length := by have := of_decide_eq_false h; omega
  rw [hnn, List.drop_length, runiqsM, List.nil_append] at hi
  have holA : o2.length ≤ 1001000 := by omega
  refine loop_gen mixed ttok (fun x : Nat × List Vio => V5 s i fine k T rows x) (fun x => T.foreigns.length - x.1)
    (fun x => x.1 ≤ T.foreigns.length ∧ x.2 ++ (rforsM s i fine k (T.foreigns.drop x.1) x.1 ++ chksM k rows T.checks 0) = V ∧ x.2.length ≤ 1001000 + 1000 * x.1) (0, o2) ⟨Nat.zero_le _, hi, by simpa using holA⟩ ?_ ?_
  · exact Weak.keepL (by simp [V5, tS, oS, bD, ends]) (by simp [V5, oS, vS, vI, ends]) (by simp [V5, oS, ends])
  rintro I2 hI2 ⟨m, o3⟩ ⟨hm, hi2, hol2⟩
  simp only at hm hi2 hol2
  simp -implicitDefEqProofs only [V5, tS, oS, bD, vS, vI, ↓steps, push_cast, simprocAttr, tte]
  refine bcase_intro (fun h2 => ?_) fun h2 => ?_
  · have h2' : m < T.foreigns.length := by have := of_decide_eq_true h2; omega
    have hw := wrap_succ h2' (by omega)
    rw [drop_cons T.foreigns m h2', rforsM] at hi2
    have hfm := getD_mem h2'
    have hlk := rforM1_len s i fine k (T.foreigns.getD m default) m
    rw [hRows] at hlk
    obtain ⟨g1, g2, g3, g4⟩ := hG3 _ hfm
    have hTo : s.getD (targetN s (T.foreigns.getD m default)) default ∈ s := getD_mem g2
    have hRo : i.getD (targetN s (T.foreigns.getD m default)) default ∈ i := getD_mem (by omega)
    have hct := c_target s k m hsl hks (by rw [hT]; exact h2')
    rw [hT] at hct
    have hfd : found (byT s (T.foreigns.getD m default).table) = .tup [num (targetN s (T.foreigns.getD m default)), boo true] := by
      rw [g3]; simp only [found]; rw [if_neg (by omega), decide_eq_true (by omega)]
    rw [hfd] at hct
    refine callq [[6], [], []] [] (hct) ?_
    simp -implicitDefEqProofs only [↓steps, push_cast, simprocAttr, tte]
    have hlo : (i.getD (targetN s (T.foreigns.getD m default)) default).length ≤ 1000 := hI.tab _ hRo
    have hpo : (s.getD (targetN s (T.foreigns.getD m default)) default).primary.length ≤ 1000 := (hS.tab _ hTo).prim
    have hco := hsm.forss _ hfm
    have hto : fine.getD (targetN s (T.foreigns.getD m default)) default = true → ∀ r ∈ i.getD (targetN s (T.foreigns.getD m default)) default, ∀ c ∈ (s.getD (targetN s (T.foreigns.getD m default)) default).primary, 0 ≤ c ∧ c < r.length :=
      fun hb r hr c hc => by rw [hF _ g2 hb r hr]; exact hG.prim _ hTo c hc
    rw [rforM1, hRows] at hi2 hlk
    generalize hfe : T.foreigns.getD m default = f at hi2 hlk g1 g2 hlo hpo hco hto ⊢
    generalize targetN s f = to at hi2 hlk g2 hlo hpo hto ⊢
    refine loop_gen mixed ttok (fun x : Nat × List Vio => W5 s i fine k T rows m to x) (fun x => rows.length - x.1)
      (fun x => x.1 ≤ rows.length ∧ x.2 ++ ((if fine.getD to default = true then rforGo k m (s.getD to default).primary f.columns (i.getD to default) (rows.drop x.1) x.1 else []) ++ (rforsM s i fine k (T.foreigns.drop (m + 1)) (m + 1) ++ chksM k rows T.checks 0)) = V ∧ x.2.length ≤ o3.length + x.1) (0, o3) ⟨Nat.zero_le _, by simpa using hi2, Nat.le_refl _⟩ ?_ ?_
    · exact (Weak.keepL (by simp [W5, tS, oS, ends]) (by simp [W5, oS, vS, vI, ends]) (by simp [W5, oS, ends]))
    rintro I3 hI3 ⟨n3, o4⟩ ⟨hn3, hi3, hol3⟩
    simp only at hn3 hi3 hol3
    simp -implicitDefEqProofs only [W5, tS, oS, bD, vS, vI, ↓steps, push_cast, simprocAttr, tte]
    refine bcase_intro (fun h3 => ?_) fun h3 => ?_
    rotate_left
    · have hnn3 : n3 = rows.length := by have := of_decide_eq_false h3; omega
      rw [hnn3, List.drop_length, rforGo, ite_self, List.nil_append] at hi3
      exact gen_again hI2 (m + 1, o4) ⟨h2', hi3, by simp only; omega⟩ (by show T.foreigns.length - (m + 1) < T.foreigns.length - m; omega) (Weak.keepL (by simp [V5, tS, oS, hw, ends]) (by simp [V5, oS, vS, vI, ends]) (by simp [V5, oS, ends]))
    have h3' : n3 < rows.length := by have := of_decide_eq_true h3; omega
    have hw3 := wrap_succ h3' (by omega)
    refine ⟨(by first | omega | trivial | (refine ⟨?_, ?_⟩ <;> first | omega | trivial | (refine ⟨?_, ?_⟩ <;> first | omega | trivial | (refine ⟨?_, ?_⟩ <;> first | omega | trivial | rfl)))), ?_⟩
    refine bcase_intro (fun hfv => ?_) fun hfv => ?_
    rotate_left
    · rw [hfv, if_neg (by decide), List.nil_append] at hi3
      exact gen_again hI2 (m + 1, o4) ⟨h2', hi3, by simp only; omega⟩ (by show T.foreigns.length - (m + 1) < T.foreigns.length - m; omega) (Weak.keepL (by simp [V5, tS, oS, hw, ends]) (by simp [V5, oS, vS, vI, ends]) (by simp [V5, oS, ends]))
    · rw [hfv, if_pos rfl, drop_cons rows n3 h3', rforGo] at hi3
      refine ⟨(by first | omega | trivial | (refine ⟨?_, ?_⟩ <;> first | omega | trivial | (refine ⟨?_, ?_⟩ <;> first | omega | trivial | (refine ⟨?_, ?_⟩ <;> first | omega | trivial | rfl)))), (by first | omega | trivial | (refine ⟨?_, ?_⟩ <;> first | omega | trivial | (refine ⟨?_, ?_⟩ <;> first | omega | trivial | (refine ⟨?_, ?_⟩ <;> first | omega | trivial | rfl)))), ?_⟩
      have hrm : rows.getD n3 default ∈ rows := getD_mem h3'
      generalize hrn : rows.getD n3 default = r at hi3 hrm ⊢
      rw [hfe]
      refine callq [[3], [1]] [] (c_rpick r f.columns (by omega) (fun c hc => inR hrm (g1 c hc))) ?_
      simp -implicitDefEqProofs only [↓steps, push_cast, simprocAttr, tte]
      refine ⟨drawx_intro (by kernel_rfl), ?_⟩
      rw [foundR] at hi3
      have hyl : (partM r f.columns).length ≤ 1000 := by simp [partM]; omega
      generalize hy : partM r f.columns = y at hi3 hyl ⊢
      refine callq [[3]] [] (c_rnull y (by omega)) ?_
      simp -implicitDefEqProofs only [↓steps, push_cast, simprocAttr, tte]
      have hthere := hto hfv
      obtain ⟨prim, hP⟩ : ∃ x, (s.getD to default).primary = x := ⟨_, rfl⟩
      obtain ⟨there, hQ⟩ : ∃ x, i.getD to default = x := ⟨_, rfl⟩
      rw [hP] at hi3 hpo hthere
      rw [hQ] at hi3 hlo hthere
      refine loop_gen mixed ttok (fun x : Nat × Bool => X5 s i fine k T rows m to n3 y o4 x) (fun x => there.length - x.1)
        (fun x => x.1 ≤ there.length ∧ x.2 = (y.any isK0 || (there.take x.1).any (sameP prim y))) (0, y.any isK0) ⟨Nat.zero_le _, by simp⟩ ?_ ?_
      · exact (Weak.keepL (by simp [X5, tS, oS, ends]) (by simp [X5, oS, vS, vI, ends]) (by simp [X5, oS, ends]))
      rintro I4 hI4 ⟨j, fd⟩ ⟨hj, hfd⟩
      simp only at hj hfd
      cases fd with
      | true =>
        have hfo : (y.any isK0 || there.any (sameP prim y)) = true := by
          cases hyk : y.any isK0 with
          | true => rfl
          | false =>
            rw [hyk, Bool.false_or] at hfd
            obtain ⟨q, hq1, hq2⟩ := List.any_eq_true.1 hfd.symm
            exact List.any_eq_true.2 ⟨q, List.mem_of_mem_take hq1, hq2⟩
        simp -implicitDefEqProofs only [X5, tS, oS, bD, vS, vI, ↓steps, push_cast, simprocAttr, tte]
        refine ⟨(by first | omega | trivial | (refine ⟨?_, ?_⟩ <;> first | omega | trivial | (refine ⟨?_, ?_⟩ <;> first | omega | trivial | (refine ⟨?_, ?_⟩ <;> first | omega | trivial | rfl)))), ?_⟩
        refine bcase_intro (fun h4 => ?_) fun h4 => ?_
        · rw [if_pos hfo, List.nil_append] at hi3
          exact gen_again hI3 (n3 + 1, o4) ⟨h3', by rw [hfv, if_pos rfl, hP, hQ]; simpa using hi3, by simp only; omega⟩ (by show rows.length - (n3 + 1) < rows.length - n3; omega) (Weak.keepL (by simp [W5, tS, oS, hw3, ends]) (by simp [W5, oS, vS, vI, ends]) (by simp [W5, oS, ends]))
        · rw [if_pos hfo, List.nil_append] at hi3
          exact gen_again hI3 (n3 + 1, o4) ⟨h3', by rw [hfv, if_pos rfl, hP, hQ]; simpa using hi3, by simp only; omega⟩ (by show rows.length - (n3 + 1) < rows.length - n3; omega) (Weak.keepL (by simp [W5, tS, oS, hw3, ends]) (by simp [W5, oS, vS, vI, ends]) (by simp [W5, oS, ends]))
      | false =>
        simp -implicitDefEqProofs only [X5, tS, oS, bD, vS, vI, ↓steps, push_cast, simprocAttr, tte]
        refine ⟨(by first | omega | trivial | (refine ⟨?_, ?_⟩ <;> first | omega | trivial | (refine ⟨?_, ?_⟩ <;> first | omega | trivial | (refine ⟨?_, ?_⟩ <;> first | omega | trivial | rfl)))), ?_⟩
        refine bcase_intro (fun h4 => ?_) fun h4 => ?_
        rotate_left
        · rw [hQ] at h4
          have hjj : j = there.length := by have := of_decide_eq_false h4; omega
          rw [hjj, List.take_length] at hfd
          have hfo : ¬ (y.any isK0 || there.any (sameP prim y)) = true := by rw [← hfd]; decide
          rw [if_neg hfo] at hi3
          refine ⟨(by first | omega | trivial | (refine ⟨?_, ?_⟩ <;> first | omega | trivial | (refine ⟨?_, ?_⟩ <;> first | omega | trivial | (refine ⟨?_, ?_⟩ <;> first | omega | trivial | rfl)))), ?_⟩
          exact gen_again hI3 (n3 + 1, o4 ++ [⟨6, k, m, n3, 0⟩]) ⟨h3', by rw [hfv, if_pos rfl, hP, hQ]; simpa using hi3, by simp; omega⟩ (by show rows.length - (n3 + 1) < rows.length - n3; omega) (Weak.keepL (by simp [W5, tS, oS, hw3, ends]) (by simp [W5, oS, vS, vI, rowsOf, ends]) (by simp [W5, oS, ends]))
        rw [hQ] at h4
        have h4' : j < there.length := by have := of_decide_eq_true h4; omega
        have hw4 := wrap_succ h4' (by omega)
        have hqm : there.getD j default ∈ there := getD_mem h4'
        refine ⟨(by first | omega | trivial | (refine ⟨?_, ?_⟩ <;> first | omega | trivial | (refine ⟨?_, ?_⟩ <;> first | omega | trivial | (refine ⟨?_, ?_⟩ <;> first | omega | trivial | rfl)))), by rw [hQ]; omega, (by first | omega | trivial | (refine ⟨?_, ?_⟩ <;> first | omega | trivial | (refine ⟨?_, ?_⟩ <;> first | omega | trivial | (refine ⟨?_, ?_⟩ <;> first | omega | trivial | rfl)))), ?_⟩
        refine callq [[3], [1]] [] (c_rpick ((i.getD to default).getD j default) (s.getD to default).primary (by rw [hP]; omega) (by rw [hP, hQ]; exact hthere _ hqm)) ?_
        simp -implicitDefEqProofs only [↓steps, push_cast, simprocAttr, tte]
        refine callq [[3], [3]] [] (c_cmpRows (partM ((i.getD to default).getD j default) (s.getD to default).primary) y (by rw [hP]; simp only [partM, List.length_map]; omega)) ?_
        simp -implicitDefEqProofs only [↓steps, push_cast, simprocAttr, tte]
        have hfa := Bool.or_eq_false_iff.1 hfd.symm
        refine ⟨drawx_intro (by kernel_rfl), ?_⟩
        have hnew : (cmpR (partM ((i.getD to default).getD j default) (s.getD to default).primary) y == 0) = (y.any isK0 || (there.take (j + 1)).any (sameP prim y)) := by
          rw [take_snoc there j h4', List.any_append, hfa.1, hfa.2, hP, hQ]
          simp [sameP]
        exact gen_again hI4 (j + 1, cmpR (partM ((i.getD to default).getD j default) (s.getD to default).primary) y == 0) ⟨h4', hnew⟩ (by show there.length - (j + 1) < there.length - j; omega) (Weak.keepL (by simp [X5, tS, oS, hw4, ends]) (by simp [X5, oS, vS, vI, ends]) (by simp [X5, oS, ends]))
  have hmm : m = T.foreigns.length := by have := of_decide_eq_false h2; omega
  rw [hmm, List.drop_length, rforsM, List.nil_append] at hi2
  have holB : o3.length ≤ 2001000 := by omega
  refine loop_gen mixed ttok (fun x : Nat × List Vio => Y5 s i fine k T rows x) (fun x => T.checks.length - x.1)
    (fun x => x.1 ≤ T.checks.length ∧ x.2 ++ chksM k rows (T.checks.drop x.1) x.1 = V ∧ x.2.length ≤ 2001000 + 1000 * x.1) (0, o3) ⟨Nat.zero_le _, hi2, by simpa using holB⟩ ?_ ?_
  · exact (Weak.keepL (by simp [Y5, tS, oS, ends]) (by simp [Y5, oS, vS, vI, ends]) (by simp [Y5, oS, ends]))
  rintro I3 hI3 ⟨q, o4⟩ ⟨hq, hi3, hol3⟩
  simp only at hq hi3 hol3
  simp -implicitDefEqProofs only [Y5, tS, oS, bD, vS, vI, ↓steps, push_cast, simprocAttr, tte]
  refine bcase_intro (fun h3 => ?_) fun h3 => ?_
  rotate_left
  · have hqq : q = T.checks.length := by have := of_decide_eq_false h3; omega
    rw [hqq, List.drop_length, chksM, List.append_nil] at hi3
    rw [← hi3]
    exact ret_vec 600 trivial (by omega) rfl rfl ⟨.inl (by omega), .inl (by omega), .inl (by omega), .inl (by omega), trivial⟩
  have h3' : q < T.checks.length := by have := of_decide_eq_true h3; omega
  have hw := wrap_succ h3' (by omega)
  rw [drop_cons T.checks q h3', chksM] at hi3
  have hem := hsm.chks _ (getD_mem h3')
  have hlc := chkR_len k q (T.checks.getD q default) rows 0
  generalize hge : T.checks.getD q default = e at hi3 hem hlc
  refine loop_gen mixed ttok (fun x : Nat × List Vio => Z5 s i fine k T rows q x) (fun x => rows.length - x.1)
    (fun x => x.1 ≤ rows.length ∧ x.2 ++ (chkR k q e (rows.drop x.1) x.1 ++ chksM k rows (T.checks.drop (q + 1)) (q + 1)) = V ∧ x.2.length ≤ o4.length + x.1) (0, o4) ⟨Nat.zero_le _, hi3, Nat.le_refl _⟩ ?_ ?_
  · exact (Weak.keepL (by simp [Z5, tS, oS, ends]) (by simp [Z5, oS, vS, vI, ends]) (by simp [Z5, oS, ends]))
  rintro I4 hI4 ⟨n, o5⟩ ⟨hn5, hi4, hol4⟩
  simp only at hn5 hi4 hol4
  simp -implicitDefEqProofs only [Z5, tS, oS, bD, vS, vI, ↓steps, push_cast, simprocAttr, tte]
  refine bcase_intro (fun h4 => ?_) fun h4 => ?_
  rotate_left
  · have hnn5 : n = rows.length := by have := of_decide_eq_false h4; omega
    rw [hnn5, List.drop_length, chkR, List.nil_append] at hi4
    exact gen_again hI3 (q + 1, o5) ⟨h3', hi4, by simp only; omega⟩ (by show T.checks.length - (q + 1) < T.checks.length - q; omega) (Weak.keepL (by simp [Y5, tS, oS, hw, ends]) (by simp [Y5, oS, vS, vI, ends]) (by simp [Y5, oS, ends]))
  have h4' : n < rows.length := by have := of_decide_eq_true h4; omega
  have hw4 := wrap_succ h4' (by omega)
  rw [drop_cons rows n h4', chkR] at hi4
  refine ⟨(by first | omega | trivial | (refine ⟨?_, ?_⟩ <;> first | omega | trivial | (refine ⟨?_, ?_⟩ <;> first | omega | trivial | (refine ⟨?_, ?_⟩ <;> first | omega | trivial | rfl)))), (by first | omega | trivial | (refine ⟨?_, ?_⟩ <;> first | omega | trivial | (refine ⟨?_, ?_⟩ <;> first | omega | trivial | (refine ⟨?_, ?_⟩ <;> first | omega | trivial | rfl)))), ?_⟩
  rw [hge]
  generalize rows.getD n default = r at hi4 ⊢
  refine callq [[0, 0, 0, 0, 0, 6], [3]] [] (c_reval r e hem) ?_
  simp -implicitDefEqProofs only [↓steps, push_cast, simprocAttr, tte]
  refine callq [[0, 0, 0]] [] (c_rTruth (evalM r e)) ?_
  simp -implicitDefEqProofs only [↓steps, push_cast, simprocAttr, tte]
  refine ⟨drawx_intro (by kernel_rfl), ?_⟩
  refine bcase_intro (fun h5 => ?_) fun h5 => ?_
  · have h5' : truthM (evalM r e) = 0 := by simpa using h5
    rw [chk1, if_pos h5'] at hi4
    refine ⟨(by first | omega | trivial | (refine ⟨?_, ?_⟩ <;> first | omega | trivial | (refine ⟨?_, ?_⟩ <;> first | omega | trivial | (refine ⟨?_, ?_⟩ <;> first | omega | trivial | rfl)))), ?_⟩
    exact gen_again hI4 (n + 1, o5 ++ [⟨7, k, q, n, 0⟩]) ⟨h4', by simpa using hi4, by simp; omega⟩ (by show rows.length - (n + 1) < rows.length - n; omega) (Weak.keepL (by simp [Z5, tS, oS, hw4, ends]) (by simp [Z5, oS, vS, vI, rowsOf, ends]) (by simp [Z5, oS, ends]))
  · have h5' : ¬ truthM (evalM r e) = 0 := by simpa using h5
    rw [chk1, if_neg h5'] at hi4
    exact gen_again hI4 (n + 1, o5) ⟨h4', by simpa using hi4, by simp only; omega⟩ (by show rows.length - (n + 1) < rows.length - n; omega) (Weak.keepL (by simp [Z5, tS, oS, hw4, ends]) (by simp [Z5, oS, vS, vI, ends]) (by simp [Z5, oS, ends]))
end Go.Proofs.YtodoeplhcmecjaaGreatDoor
namespace Go.Proofs.YtodoeplhcmecjaaGreatDoor
open Go.Am
set_option linter.unusedVariables false
set_option maxRecDepth 100000
/-! What the specification finds in a table is what the program finds. -/
theorem found_eq {T U : Tbl} {cols prim : List Int} (hk : eqKeys T U cols prim = true) (ha : ∀ c ∈ cols, inC T c) (hb : ∀ c ∈ prim, inC U c) {there : List Row} (ht : ∀ q ∈ there, misM U q = false) {r : Row} (hr : misM T r = false) :
    foundR prim cols there r = true ↔ ((partM r cols).any isNull = true ∨ textL (partM r cols) ∈ there.map fun q => textL (partM q prim)) := by
  rw [foundR, Bool.or_eq_true, any_congr (part_null ha hr)]
  refine or_congr Iff.rfl ?_
  rw [List.any_eq_true, List.mem_map]
  constructor
  · rintro ⟨q, hq, e⟩
    rw [sameP, beq_iff_eq, cmpR_eq] at e
    exact ⟨q, hq, by rw [e]⟩
  · rintro ⟨q, hq, e⟩
    refine ⟨q, hq, ?_⟩
    rw [sameP, beq_iff_eq, cmpR_eq]
    exact (text_inj2 hk ha hb hr (ht q hq) e.symm).symm
theorem for_eq (k x : Int) {T U : Tbl} {cols prim : List Int} (hk : eqKeys T U cols prim = true) (ha : ∀ c ∈ cols, inC T c) (hb : ∀ c ∈ prim, inC U c) {there : List Row} (ht : ∀ q ∈ there, misM U q = false) :
    ∀ (rows : List Row) (n : Nat), (∀ r ∈ rows, misM T r = false) → rforGo k x prim cols there rows n = forGo k x cols (there.map fun q => textL (partM q prim)) rows n
  | [], _, _ => rfl
  | r :: rs, n, h => by
    have hf := found_eq hk ha hb ht (h r List.mem_cons_self)
    rw [rforGo, forGo, for_eq k x hk ha hb ht rs (n + 1) fun q hq => h q (List.mem_cons_of_mem _ hq)]
    by_cases h1 : (partM r cols).any isNull = true
    · rw [if_pos h1, if_pos (hf.2 (.inl h1)), List.nil_append]
    · rw [if_neg h1]
      by_cases h2 : textL (partM r cols) ∈ there.map fun q => textL (partM q prim)
      · rw [if_pos h2, if_pos (hf.2 (.inr h2)), List.nil_append]
      · rw [if_neg h2, if_neg fun q => (hf.1 q).elim h1 h2]; rfl
theorem uniqs_eq (k : Int) {T : Tbl} {rows : List Row} (h : ∀ r ∈ rows, misM T r = false) : ∀ (us : List (List Int)) (n : Nat), (∀ u ∈ us, ∀ c ∈ u, inC T c) → runiqsM k rows us n = uniqsM k rows us n
  | [], _, _ => rfl
  | u :: us, n, hu => by
    rw [runiqsM, uniqsM, uniqs_eq k h us (n + 1) fun v hv => hu v (List.mem_cons_of_mem _ hv), key_eq _ _ _ (text_ok (hu u List.mem_cons_self) h)]
theorem fors_eq {s : Sch} {i : Inst} {b fine : List Bool} {k : Nat} {T : Tbl} (hG : GoodS s) (hb : ∀ k, k < s.length → fine.getD k default = !b.getD k default) (hfit : ∀ k, k < s.length → b.getD k default = false → ∀ r ∈ i.getD k default, misM (s.getD k default) r = false)
    (h : ∀ r ∈ i.getD k default, misM T r = false) : ∀ (fs : List Fk) (n : Nat), (∀ f ∈ fs, (∀ c ∈ f.columns, inC T c) ∧ targetN s f < s.length ∧ eqKeys T (s.getD (targetN s f) default) f.columns (s.getD (targetN s f) default).primary = true) →
    rforsM s i fine k fs n = forsM s i b k fs n
  | [], _, _ => rfl
  | f :: fs, n, hf => by
    obtain ⟨g1, g2, g3⟩ := hf f List.mem_cons_self
    rw [rforsM, forsM, fors_eq hG hb hfit h fs (n + 1) fun v hv => hf v (List.mem_cons_of_mem _ hv), rforM1, forM1, foreignM, hb _ g2]
    congr 1
    cases hbt : b.getD (targetN s f) default with
    | true => rw [if_neg (by decide), if_pos rfl]
    | false =>
      rw [if_pos (by decide), if_neg (by decide)]
      exact for_eq _ _ g3 g1 (hG.prim _ (getD_mem g2)) (hfit _ g2 hbt) _ _ h
theorem cons_eq {s : Sch} {i : Inst} {b fine : List Bool} {k : Nat} (hG : GoodS s) (hks : k < s.length) (hb : ∀ k, k < s.length → fine.getD k default = !b.getD k default)
    (hfit : ∀ k, k < s.length → b.getD k default = false → ∀ r ∈ i.getD k default, misM (s.getD k default) r = false) (hbk : b.getD k default = false) : rconsM s i fine k = consM s i b k := by
  have hT := getD_mem hks
  have h := hfit k hks hbk
  rw [rconsM, consM, key_eq _ _ _ (text_ok (hG.prim _ hT) h), uniqs_eq k h _ _ (hG.uniq _ hT), fors_eq hG hb hfit h _ _ fun f hf => ⟨(hG.fors _ hT f hf).1, (hG.fors _ hT f hf).2.1, (hG.fors _ hT f hf).2.2.2⟩]
theorem bads_fit (s : Sch) (i : Inst) : ∀ k, k < s.length → (badsM s i).getD k default = false → ∀ r ∈ i.getD k default, misM (s.getD k default) r = false := by
  intro k hk hb r hr
  rw [badsM_at s i hk, bad1, List.any_eq_false] at hb
  have := hb r hr
  simpa using this
def fineM (s : Sch) (i : Inst) : List Bool := (List.range s.length).map fun k => !bad1 s i k
theorem fineM_len (s : Sch) (i : Inst) : (fineM s i).length = s.length := by simp [fineM]
theorem fineM_at (s : Sch) (i : Inst) : ∀ k, k < s.length → (fineM s i).getD k default = !(badsM s i).getD k default := by
  intro k hk
  rw [badsM_at s i hk]
  simp [fineM, List.getD_eq_getElem?_getD, hk]
end Go.Proofs.YtodoeplhcmecjaaGreatDoor
namespace Go.Proofs.YtodoeplhcmecjaaGreatDoor
open Go.Am
attribute [local simp, local push_cast] num boo str ints aV aTab aInst aS aT aC aRow rRow rTab vO rVio rB vT found rE bD
set_option linter.unusedVariables false
set_option maxRecDepth 100000
set_option maxHeartbeats 4000000
/-! The specification finds the violations that the program finds. -/
def N9 (s : Sch) (i : Inst) (n : Nat) : SL :=
  ⟨[(8, .d (.lit (.int .i64 n))), (7, .vec 500 n), (2, .ptr 2 0), (3, .ptr 3 0)],
   [(2, vS s), (3, vI i), (500, .vec 4 1 (rowsOf rB ((List.range n).map fun k => !bad1 s i k)) 0)]⟩
def M9 (s : Sch) (i : Inst) (fine : List Bool) (x : Nat × List Vio) : SL :=
  ⟨[(12, .d (.lit (.int .i64 x.1))), (11, .vec 600 x.2.length), (7, bD fine), (2, .ptr 2 0), (3, .ptr 3 0)], [(2, vS s), (3, vI i), (600, vO x.2)]⟩
theorem c_rvio (s : Sch) (i : Inst) (hS : SmallS s) (hI : SmallI i) :
    ACall Tryz.prog 11 [aS s, aInst i] [] (.tup [.d (.sl 5 (rowsOf rVio (vioM s i).1)), num (vioM s i).2]) [] := by
  refine enterq mixed ttok Tryz.func11 Tryz.ntmps11 Tryz.results11 ?_
  generalize hvm : vioM s i = vm
  have hsl := hS.len
  have hil := hI.len
  simp -implicitDefEqProofs only [argT, ↓steps, push_cast, simprocAttr, tte]
  refine callq [[6]] [] (c_rsvalid s hS) ?_
  simp -implicitDefEqProofs only [↓steps, push_cast, simprocAttr, tte]
  refine bcase_intro (fun h0 => ?_) fun h0 => ?_
  · have h0' : validS s ≠ 0 := by simpa using h0
    rw [← hvm, vioM, if_pos h0']
    exact retx_tup [[5], []] rfl (by simp) (by simp) rfl (by simp [ends]) trivial (by simp [ends])
  have h0' : ¬ validS s ≠ 0 := by simpa using h0
  refine bcase_intro (fun h1 => ?_) fun h1 => ?_
  · have h1' : (i.length : Int) ≠ s.length := by simpa using h1
    rw [← hvm, vioM, if_neg h0', if_pos h1']
    exact retx_tup [[5], []] rfl (by simp) (by simp) rfl (by simp [ends]) trivial (by simp [ends])
  have h1' : ¬ (i.length : Int) ≠ s.length := by simpa using h1
  have hlen : i.length = s.length := by omega
  have hG := good_of_valid (s := s) (by omega)
  have hM : vm = (allM s i (badsM s i) s.length, 0) := by rw [← hvm, vioM, if_neg h0', if_neg h1']
  subst hM
  clear hvm
  refine loop_gen mixed ttok (fun n : Nat => N9 s i n) (fun n => s.length - n) (fun n => n ≤ s.length) 0 (Nat.zero_le _) ?_ ?_
  · exact (Weak.nilL 7 500 4 1 rfl rfl).trans (Weak.keepL (by simp [N9, ends]) (by simp [N9, vS, vI, rowsOf, ends]) (by simp [N9, ends]))
  intro J hJ n hn
  have hbl : ((List.range n).map fun k => !bad1 s i k).length = n := by simp
  simp -implicitDefEqProofs only [N9, vS, vI, ↓steps, push_cast, simprocAttr, tte]
  refine bcase_intro (fun h => ?_) fun h => ?_
  · have h' : n < s.length := by have := of_decide_eq_true h; omega
    have hw := wrap_succ h' (by omega)
    have hRm : i.getD n default ∈ i := getD_mem (by omega)
    have hTm : s.getD n default ∈ s := getD_mem h'
    refine ⟨(by first | omega | trivial | (refine ⟨?_, ?_⟩ <;> first | omega | trivial | (refine ⟨?_, ?_⟩ <;> first | omega | trivial | (refine ⟨?_, ?_⟩ <;> first | omega | trivial | rfl)))), by omega, ?_⟩
    refine callq [[0, 3, 1, 1, 2, 6], [], [1]] [] (c_rrows (s.getD n default) n (i.getD n default) (hI.tab _ hRm) (hI.row _ hRm) (hS.tab _ hTm).prim) ?_
    have hb1 : (i.getD n default).any (misM (s.getD n default)) = bad1 s i n := rfl
    rw [hb1]
    simp -implicitDefEqProofs only [↓steps, push_cast, simprocAttr, tte]
    have hs : (List.range (n + 1)).map (fun k => !bad1 s i k) = ((List.range n).map fun k => !bad1 s i k) ++ [!bad1 s i n] := by simp [List.range_succ]
    refine ⟨drawx_intro (by kernel_rfl), ⟨hbl.symm, by rw [hbl]; omega⟩, ?_⟩
    exact gen_again hJ (n + 1) h' (by show s.length - (n + 1) < s.length - n; omega) (Weak.keepL (by simp [N9, hw, ends]) (by simp [N9, vS, vI, hs, rowsOf, ends]) (by simp [N9, ends]))
  have hnn : n = s.length := by have := of_decide_eq_false h; omega
  subst hnn
  have hfe : ((List.range s.length).map fun k => !bad1 s i k) = fineM s i := rfl
  have hfl := fineM_len s i
  have hfa := fineM_at s i
  have hbf := bads_fit s i
  have hsh := shape_bads s i
  rw [hfe]
  clear hfe hJ J
  generalize fineM s i = fine at hfl hfa ⊢
  generalize badsM s i = b at hfa hbf hsh ⊢
  have hF : ∀ k, k < s.length → fine.getD k default = true → ∀ r ∈ i.getD k default, r.length = (s.getD k default).columns.length := fun k hk hf => hsh k hk (by have := hfa k hk; rw [hf] at this; simpa using this.symm)
  refine loop_gen mixed ttok (fun n : Nat => M9 s i fine (n, allM s i b n)) (fun n => s.length - n) (fun n => n ≤ s.length ∧ (allM s i b n).length ≤ 5000000 * n) 0 ⟨Nat.zero_le _, by simp [allM]⟩ ?_ ?_
  · refine (Weak.frzSlotL 7 1 rfl (by simp [rowsOf_length, hfl])).trans ?_
    refine (Weak.nilL 11 600 78 5 rfl rfl).trans ?_
    exact Weak.keepL (by simp [M9, allM, ends]) (by simp [M9, vS, vI, allM, rowsOf, ends]) (by simp [M9, ends])
  rintro J hJ n ⟨hn, hal⟩
  have hsn := allM_succ s i b n
  simp -implicitDefEqProofs only [M9, vS, vI, ↓steps, push_cast, simprocAttr, tte]
  refine bcase_intro (fun h2 => ?_) fun h2 => ?_
  · have h' : n < s.length := by have := of_decide_eq_true h2; omega
    have hw := wrap_succ h' (by omega)
    have hRm : i.getD n default ∈ i := getD_mem (by omega)
    have hTm : s.getD n default ∈ s := getD_mem h'
    have htl := tabM_len hS hI b h' (by omega)
    have hrv : (rowsVio (s.getD n default) n (i.getD n default) 0).length ≤ 5000000 := by unfold tabM at htl; rw [List.length_append] at htl; omega
    refine ⟨(by first | omega | trivial | (refine ⟨?_, ?_⟩ <;> first | omega | trivial | (refine ⟨?_, ?_⟩ <;> first | omega | trivial | (refine ⟨?_, ?_⟩ <;> first | omega | trivial | rfl)))), by omega, ?_⟩
    refine callq [[0, 3, 1, 1, 2, 6], [], [1]] [] (c_rrows (s.getD n default) n (i.getD n default) (hI.tab _ hRm) (hI.row _ hRm) (hS.tab _ hTm).prim) ?_
    simp -implicitDefEqProofs only [↓steps, push_cast, simprocAttr, tte]
    refine ⟨drawx_intro (by kernel_rfl), (by first | omega | trivial | (refine ⟨?_, ?_⟩ <;> first | omega | trivial | (refine ⟨?_, ?_⟩ <;> first | omega | trivial | (refine ⟨?_, ?_⟩ <;> first | omega | trivial | rfl)))), (by first | omega | trivial | (refine ⟨?_, ?_⟩ <;> first | omega | trivial | (refine ⟨?_, ?_⟩ <;> first | omega | trivial | (refine ⟨?_, ?_⟩ <;> first | omega | trivial | rfl)))), ?_⟩
    have hfn := hfa n h'
    refine bcase_intro (fun hb => ?_) fun hb => ?_
    · have hbn : b.getD n default = false := by rw [hb] at hfn; simpa using hfn.symm
      have ht : tabM s i b n = rowsVio (s.getD n default) n (i.getD n default) 0 ++ consM s i b n := by rw [tabM, if_neg (by rw [hbn]; decide)]
      rw [ht] at hsn htl
      have hc2 := c_r9table s i fine n hS hG hI h' hlen hfl hF hb (consM s i b n) (cons_eq hG h' hfa hbf hbn)
      refine callq [[6], [1], [], [1]] [(1000, 601)] (hc2) ?_
      simp -implicitDefEqProofs only [↓steps, push_cast, simprocAttr, tte]
      rw [List.length_append] at htl
      refine ⟨by simp only [List.length_append, rowsOf_length, true_and]; omega, ?_⟩
      exact gen_again hJ (n + 1) ⟨h', by rw [hsn, List.length_append, List.length_append]; omega⟩ (by show s.length - (n + 1) < s.length - n; omega) (Weak.keepL (by simp [M9, hw, hsn, rowsOf_length, Nat.add_assoc, ends]) (by simp [M9, vS, vI, hsn, rowsOf, ends]) (by simp [M9, ends]))
    · have hbn : b.getD n default = true := by rw [hb] at hfn; simpa using hfn.symm
      have ht : tabM s i b n = rowsVio (s.getD n default) n (i.getD n default) 0 := by rw [tabM, if_pos hbn, List.append_nil]
      rw [ht] at hsn htl
      exact gen_again hJ (n + 1) ⟨h', by rw [hsn, List.length_append]; omega⟩ (by show s.length - (n + 1) < s.length - n; omega) (Weak.keepL (by simp [M9, hw, hsn, ends]) (by simp [M9, vS, vI, hsn, rowsOf, ends]) (by simp [M9, ends]))
  have hnn : n = s.length := by have := of_decide_eq_false h2; omega
  subst hnn
  exact retx_tup [[5], []] rfl (by simp) (by simp [rowsOf_length]) rfl (by simp [ends]) trivial (by simp [ends])
theorem c_rvalidI (s : Sch) (i : Inst) (hS : SmallS s) (hI : SmallI i) : ACall Tryz.prog 14 [aS s, aInst i] [] (boo (validI s i)) [] := by
  refine enterq mixed ttok Tryz.func14 Tryz.ntmps14 Tryz.results14 ?_
  generalize hr : boo (validI s i) = R
  simp -implicitDefEqProofs only [argT, ↓steps, push_cast, simprocAttr, tte]
  have hc := c_rvio s i hS hI
  refine callq [[6], [1]] [] (hc) ?_
  simp -implicitDefEqProofs only [↓steps, push_cast, simprocAttr, tte]
  have hv : validI s i = (((vioM s i).2 == 0) && ((vioM s i).1.length == 0)) := rfl
  cases h0 : ((vioM s i).2 == 0) with
  | false =>
    simp -implicitDefEqProofs only [h0, ↓steps, push_cast, simprocAttr, tte]
    refine retx_of [0] rfl (by simp) (by simp [rowsOf_length] <;> omega) ?_ (by first | rfl | simp [ends] | (subst_vars; simp [ends])) (by simp [ends]) (by simp [ends])
    rw [← hr, hv, h0]; rfl
  | true =>
    simp -implicitDefEqProofs only [h0, ↓steps, push_cast, simprocAttr, tte]
    refine retx_of [0] rfl (by simp) (by simp [rowsOf_length] <;> omega) ?_ (by first | rfl | simp [ends] | (subst_vars; simp [ends])) (by simp [ends]) (by simp [ends])
    rw [← hr, hv, h0, Bool.true_and]
    have he : (((vioM s i).1.length : Int) == 0) = ((vioM s i).1.length == 0) := by
      rw [Bool.eq_iff_iff, beq_iff_eq, beq_iff_eq]
      omega
    rw [← he]; rfl
end Go.Proofs.YtodoeplhcmecjaaGreatDoor
