/- Histories and their anomalies (part La) -/
import Derived.Calls
import Derived.Orders
import Derived.Below
import Derived.Laws.World
import Derived.Laws.CopyOwn
import Derived.Laws.OwnMore
import GoSem.Dispatch
import Derived.Laws.Cells
import Derived.Laws.CopyRow
import Derived.Laws.StructEq
import Derived.Laws.MakeOwn
import Derived.Laws.Tables
import Derived.MapKept
set_option linter.all false
namespace Go.Am
/-- Data that nobody writes any more: one cell of it. 'lit': a plain value; 'sl': a slice with its elements (each a row of cells of the width w); 'ptr': the address of a cell of a row. -/
inductive D where
  | lit (v : Value)
  | sl (w : Nat) (rows : List (List D))
  | ptr (row : List D) (off : Nat)
/-- Where a loop over a function stands: a round may begin; a round is under way; a round has ended it, by a jump; it is over. -/
inductive LS where
  | ready
  | busy
  | done (j : Code)
  | over
/-- Objects that hold no cells: the block of deferred calls of a loop over a function; the record of such a loop; the iterator of a map. -/
inductive XK where
  | dfr
  | lp (ks ps : List Nat) (asg bd : Code) (st : LS)
  | mi (bs : List Nat) (clk : Nat) (sn : List Nat)
  | bi (clk : Nat)
/-- What is known of a value of a slot or of a cell. Objects (of the frame's own) are known by their numbers. -/
inductive A where
  | any
  | d (x : D)
  | snil
  | ptr (o off : Nat)
  | vec (o n : Nat)
  | vptr (o n i off : Nat)
  | csl (w : Nat) (rows : List (List D))
  | clo (f : Nat) (caps : List A)
  | agg (cs : List A)
  | tup (vs : List A)
  | mp (o : Nat)
  | vs (o n : Nat)
  | bx
  | itr (o : Nat)
  | sub (o m k n : Nat)
  | xo (y : Bool) (o : Nat)
  | g (o n : Nat) (i : Option Nat)
/-- An object: a variable (its cells), or what lies behind a slice that grows (of elements of type e, each a row of w cells; the first fz are read by others and are not written any more). -/
inductive Ob where
  | var (cs : List A)
  | vec (e w : Nat) (rows : List (List D)) (fz : Nat)
  | mp (es : List (Value × Value)) (st : Option (List Nat × Nat) := none)
  | it (s : ByteArray) (pos : Nat)
  | x (k : XK) (as : List A)
  | bag (S : Value → Option Value) (n : Nat)
  | gv (e : Nat) (cs : List A)
/-- A value that fills one cell. -/
def one : Value → Bool
  | .agg _ | .tuple _ => false
  | _ => true
/-- The value of a yield (y), or of a pointer to an iterator. -/
def xval (y : Bool) (b : Nat) : Value := if y then .func (.yield b) #[] #[] else .pointer (some ⟨b, 0, none⟩)
theorem one_xval (y : Bool) (b : Nat) : one (xval y b) = true := by cases y <;> rfl
abbrev Rd := Nat → Nat → Value → Prop
mutual
def D.rep (R : Rd) : D → Value → Prop
  | .lit u, v => v = u ∧ one u = true
  | .sl wd rows, v => ∃ a cap, v = .slice a rows.length cap ∧ rows.length ≤ cap ∧ (a = none → rows = [] ∧ cap = 0) ∧
      ∀ a', a = some a' → (rows ≠ [] → a'.spot = none) ∧ rowsAt R (R a'.block) wd a'.off rows
  | .ptr row off, v => ∃ b k, v = .pointer (some ⟨b, k + off, none⟩) ∧ rowAt R (R b) k row
def rowsAt (R : Rd) (C : Nat → Value → Prop) (wd : Nat) (k : Nat) : List (List D) → Prop
  | [] => True
  | r :: rs => r.length = wd ∧ rowAt R C k r ∧ rowsAt R C wd (k + wd) rs
def rowAt (R : Rd) (C : Nat → Value → Prop) (k : Nat) : List D → Prop
  | [] => True
  | x :: xs => (∃ v, C k v ∧ x.rep R v) ∧ rowAt R C (k + 1) xs
end
mutual
theorem D.rep_mono {R R' : Rd} (h : ∀ b i v, R b i v → R' b i v) : ∀ (x : D) (v : Value), x.rep R v → x.rep R' v
  | .lit u, v, hv => by simpa [D.rep] using hv
  | .sl wd rows, v, hv => by
    simp only [D.rep] at hv ⊢
    obtain ⟨a, cap, h1, h2, h3, h4⟩ := hv
    exact ⟨a, cap, h1, h2, h3, fun a' ha => ⟨(h4 a' ha).1, rowsAt_mono h (h a'.block) rows wd a'.off (h4 a' ha).2⟩⟩
  | .ptr row off, v, hv => by
    simp only [D.rep] at hv ⊢
    obtain ⟨b, k, h1, h2⟩ := hv
    exact ⟨b, k, h1, rowAt_mono h (h b) row k h2⟩
theorem rowsAt_mono {R R' : Rd} (h : ∀ b i v, R b i v → R' b i v) {C C' : Nat → Value → Prop} (hC : ∀ i v, C i v → C' i v) :
    ∀ (rows : List (List D)) (wd k : Nat), rowsAt R C wd k rows → rowsAt R' C' wd k rows
  | [], _, _, _ => by simp [rowsAt]
  | r :: rs, wd, k, hv => by
    simp only [rowsAt] at hv ⊢
    exact ⟨hv.1, rowAt_mono h hC r k hv.2.1, rowsAt_mono h hC rs wd (k + wd) hv.2.2⟩
theorem rowAt_mono {R R' : Rd} (h : ∀ b i v, R b i v → R' b i v) {C C' : Nat → Value → Prop} (hC : ∀ i v, C i v → C' i v) :
    ∀ (row : List D) (k : Nat), rowAt R C k row → rowAt R' C' k row
  | [], _, _ => by simp [rowAt]
  | x :: xs, k, hv => by
    simp only [rowAt] at hv ⊢
    obtain ⟨⟨v, hc, hx⟩, hr⟩ := hv
    exact ⟨⟨v, hC k v hc, D.rep_mono h x v hx⟩, rowAt_mono h hC xs (k + 1) hr⟩
end
/-- The cells of a row may be met at the places of the row alone. -/
theorem rowAt_congr {R : Rd} {C C' : Nat → Value → Prop} : ∀ (row : List D) (k : Nat), (∀ i v, k ≤ i → i < k + row.length → C i v → C' i v) → rowAt R C k row → rowAt R C' k row
  | [], _, _, _ => by simp [rowAt]
  | x :: xs, k, hc, hv => by
    simp only [rowAt] at hv ⊢
    obtain ⟨⟨v, h1, h2⟩, h3⟩ := hv
    exact ⟨⟨v, hc k v (Nat.le_refl _) (by simp) h1, h2⟩, rowAt_congr xs (k + 1) (fun i v h4 h5 => hc i v (by omega) (by simp; omega)) h3⟩
theorem rowsAt_congr {R : Rd} {C C' : Nat → Value → Prop} {wd : Nat} : ∀ (rows : List (List D)) (k : Nat), (∀ i v, k ≤ i → i < k + rows.length * wd → C i v → C' i v) → rowsAt R C wd k rows → rowsAt R C' wd k rows
  | [], _, _, _ => by simp [rowsAt]
  | r :: rs, k, hc, hv => by
    simp only [rowsAt] at hv ⊢
    obtain ⟨h1, h2, h3⟩ := hv
    have hm : (r :: rs).length * wd = wd + rs.length * wd := by simp [Nat.add_mul, Nat.add_comm]
    refine ⟨h1, rowAt_congr r k (fun i v h4 h5 => hc i v h4 (by rw [hm]; omega)) h2, rowsAt_congr rs (k + wd) (fun i v h4 h5 => hc i v (by omega) (by rw [hm]; omega)) h3⟩
theorem rowAt_append {R : Rd} {C : Nat → Value → Prop} : ∀ (r s : List D) (k : Nat), rowAt R C k (r ++ s) ↔ rowAt R C k r ∧ rowAt R C (k + r.length) s
  | [], s, k => by simp [rowAt]
  | x :: xs, s, k => by
    simp only [List.cons_append, rowAt, rowAt_append xs s (k + 1), List.length_cons]
    rw [show k + 1 + xs.length = k + (xs.length + 1) from by omega, and_assoc]
theorem rowsAt_append {R : Rd} {C : Nat → Value → Prop} {wd : Nat} : ∀ (r s : List (List D)) (k : Nat), rowsAt R C wd k (r ++ s) ↔ rowsAt R C wd k r ∧ rowsAt R C wd (k + r.length * wd) s
  | [], s, k => by simp [rowsAt]
  | x :: xs, s, k => by
    simp only [List.cons_append, rowsAt, rowsAt_append xs s (k + wd), List.length_cons]
    rw [show k + wd + xs.length * wd = k + (xs.length + 1) * wd from by rw [Nat.add_mul]; omega]
    simp only [and_assoc]
theorem rowsAt_length {R : Rd} {C : Nat → Value → Prop} {wd : Nat} : ∀ (rows : List (List D)) (k : Nat), rowsAt R C wd k rows → ∀ r ∈ rows, r.length = wd
  | [], _, _ => by simp
  | r :: rs, k, h => by
    simp only [rowsAt] at h
    intro r' hr
    rcases List.mem_cons.1 hr with rfl | hr
    · exact h.1
    · exact rowsAt_length rs (k + wd) h.2.2 r' hr
/-- Row number i of rows. -/
theorem rowsAt_get {R : Rd} {C : Nat → Value → Prop} {wd : Nat} : ∀ (rows : List (List D)) (k i : Nat), i < rows.length → rowsAt R C wd k rows → (rows.getD i []).length = wd ∧ rowAt R C (k + i * wd) (rows.getD i [])
  | [], _, i, hi, _ => by simp at hi
  | r :: rs, k, 0, _, h => by
    simp only [rowsAt] at h
    simpa using ⟨h.1, h.2.1⟩
  | r :: rs, k, i + 1, hi, h => by
    simp only [rowsAt] at h
    have := rowsAt_get rs (k + wd) i (by simpa using hi) h.2.2
    rw [show k + wd + i * wd = k + (i + 1) * wd from by rw [Nat.add_mul]; omega] at this
    simpa using this
theorem rowsAt_take {R : Rd} {C : Nat → Value → Prop} {wd : Nat} (rows : List (List D)) (k n : Nat) (h : rowsAt R C wd k rows) : rowsAt R C wd k (rows.take n) := by
  have := (List.take_append_drop n rows) ▸ h
  exact ((rowsAt_append _ _ _).1 this).1
theorem rowsAt_drop {R : Rd} {C : Nat → Value → Prop} {wd : Nat} (rows : List (List D)) (k n : Nat) (hn : n ≤ rows.length) (h : rowsAt R C wd k rows) : rowsAt R C wd (k + n * wd) (rows.drop n) := by
  have := (List.take_append_drop n rows) ▸ h
  have h2 := ((rowsAt_append _ _ _).1 this).2
  rwa [List.length_take, Nat.min_eq_left hn] at h2
theorem D.one_of {R : Rd} {x : D} {v : Value} (h : x.rep R v) : one v = true := by
  cases x <;> simp only [D.rep] at h
  · rw [h.1]; exact h.2
  · obtain ⟨a, cap, rfl, _⟩ := h; rfl
  · obtain ⟨b, k, rfl, _⟩ := h; rfl
/-- The values in the cells of rows, one behind the other. -/
theorem rowAt_vals {R : Rd} {C : Nat → Value → Prop} : ∀ (row : List D) (k : Nat), rowAt R C k row →
    ∃ vs : List Value, vs.length = row.length ∧ (∀ j u, vs[j]? = some u → C (k + j) u) ∧ (∀ u ∈ vs, one u = true) ∧ ∀ (m : Nat) (C' : Nat → Value → Prop), (∀ j u, vs[j]? = some u → C' (m + j) u) → rowAt R C' m row
  | [], k, _ => ⟨[], rfl, by simp, by simp, by simp [rowAt]⟩
  | x :: xs, k, h => by
    simp only [rowAt] at h
    obtain ⟨⟨v, h1, h2⟩, h3⟩ := h
    obtain ⟨vs, h4, h5, h7, h6⟩ := rowAt_vals xs (k + 1) h3
    refine ⟨v :: vs, by simp [h4], fun j u hj => ?_, fun u hu => ?_, fun m C' hc => ?_⟩
    · cases j with
      | zero => simp at hj; subst hj; exact h1
      | succ j => have := h5 j u (by simpa using hj); rwa [show k + 1 + j = k + (j + 1) from by omega] at this
    · rcases List.mem_cons.1 hu with rfl | hu
      · exact D.one_of h2
      · exact h7 u hu
    · simp only [rowAt]
      refine ⟨⟨v, by simpa using hc 0 v rfl, h2⟩, h6 (m + 1) C' fun j u hj => ?_⟩
      have := hc (j + 1) u (by simpa using hj)
      rwa [show m + (j + 1) = m + 1 + j from by omega] at this
theorem rowsAt_vals {R : Rd} {C : Nat → Value → Prop} {wd : Nat} : ∀ (rows : List (List D)) (k : Nat), rowsAt R C wd k rows →
    ∃ vs : List Value, vs.length = rows.length * wd ∧ (∀ j u, vs[j]? = some u → C (k + j) u) ∧ (∀ u ∈ vs, one u = true) ∧ ∀ (m : Nat) (C' : Nat → Value → Prop), (∀ j u, vs[j]? = some u → C' (m + j) u) → rowsAt R C' wd m rows
  | [], k, _ => ⟨[], by simp, by simp, by simp, by simp [rowsAt]⟩
  | r :: rs, k, h => by
    simp only [rowsAt] at h
    obtain ⟨h0, h1, h2⟩ := h
    obtain ⟨us, g1, g2, g4, g3⟩ := rowAt_vals r k h1
    obtain ⟨vs, h4, h5, h7, h6⟩ := rowsAt_vals rs (k + wd) h2
    refine ⟨us ++ vs, by simp [g1, h4, h0, Nat.add_mul, Nat.add_comm], fun j u hj => ?_, fun u hu => (List.mem_append.1 hu).elim (g4 u) (h7 u), fun m C' hc => ?_⟩
    · rcases Nat.lt_or_ge j us.length with hl | hl
      · rw [List.getElem?_append_left hl] at hj; exact g2 j u hj
      · rw [List.getElem?_append_right hl] at hj
        have := h5 _ u hj
        rwa [show k + wd + (j - us.length) = k + j from by omega] at this
    · simp only [rowsAt]
      refine ⟨h0, g3 m C' fun j u hj => hc j u ?_, h6 (m + wd) C' fun j u hj => ?_⟩
      · rw [List.getElem?_append_left]
        · exact hj
        · rcases Nat.lt_or_ge j us.length with hl | hl
          · exact hl
          · simp [List.getElem?_eq_none hl] at hj
      · have := hc (us.length + j) u (by rw [List.getElem?_append_right (by omega)]; simpa using hj)
        rwa [show m + (us.length + j) = m + wd + j from by omega] at this
/-- What the objects are, where they lie, what of memory may be read as data, and how large a block is. -/
structure Env where
  β : Nat → Option (Option Nat)
  h : Nat → Option Ob
  R : Rd
  sz : Nat → Nat → Prop
/-- The value of a slice of n cells that grows, or of the address of its cell i. -/
def gRep (bo : Option (Option Nat)) (sz : Nat → Nat → Prop) (n : Nat) : Option Nat → Value → Prop
  | none, v => (bo = some none ∧ v = .slice none 0 0) ∨ ∃ b cap, bo = some (some b) ∧ v = .slice (some ⟨b, 0, none⟩) n cap ∧ n ≤ cap ∧ cap ≤ maxLen ∧ sz b cap
  | some i, v => ∃ b, bo = some (some b) ∧ v = .pointer (some ⟨b, i, none⟩)
theorem gRep_le {bo : Option (Option Nat)} {sz sz' : Nat → Nat → Prop} {n : Nat} (L : ∀ b n, sz b n → sz' b n) : ∀ {i : Option Nat} {v : Value}, gRep bo sz n i v → gRep bo sz' n i v
  | none, _, .inl h => .inl h
  | none, _, .inr ⟨b, cap, h1, h2, h3, h4, h5⟩ => .inr ⟨b, cap, h1, h2, h3, h4, L _ _ h5⟩
  | some _, _, h => h
mutual
def A.rep (E : Env) : A → Value → Prop
  | .any, _ => True
  | .d x, v => x.rep E.R v
  | .snil, v => v = .slice none 0 0
  | .ptr o off, v => ∃ b cs, E.β o = some (some b) ∧ E.h o = some (.var cs) ∧ v = .pointer (some ⟨b, off, none⟩)
  | .vec o n, v => ∃ e wd rows fz, E.h o = some (.vec e wd rows fz) ∧ n ≤ rows.length ∧ one v = true ∧ (n = rows.length →
      (E.β o = some none ∧ v = .slice none 0 0) ∨ ∃ b cap, E.β o = some (some b) ∧ v = .slice (some ⟨b, 0, none⟩) n cap ∧ n ≤ cap ∧ cap ≤ maxLen ∧ E.sz b (cap * wd))
  | .vptr o n i off, v => ∃ e wd rows fz, E.h o = some (.vec e wd rows fz) ∧ n ≤ rows.length ∧ one v = true ∧ (n = rows.length → ∃ b, E.β o = some (some b) ∧ v = .pointer (some ⟨b, i * wd + off, none⟩))
  | .csl wd rows, v => ∃ a, v = .slice a rows.length rows.length ∧ (a = none → rows = []) ∧
      ∀ a', a = some a' → (rows ≠ [] → a'.spot = none) ∧ rowsAt E.R (E.R a'.block) wd a'.off rows
  | .clo f caps, v => ∃ vs, v = .func (.func f) #[] vs.toArray ∧ repL E caps vs
  | .agg cs, v => ∃ vs, v = .agg vs.toArray ∧ repL E cs vs ∧ ∀ u ∈ vs, one u = true
  | .tup as, v => ∃ vs, v = .tuple vs.toArray ∧ repL E as vs
  | .mp o, v => ∃ b es st, E.β o = some (some b) ∧ (E.h o = some (.mp es st) ∨ ∃ S n, E.h o = some (.bag S n)) ∧ v = .map (some b)
  | .vs o n, v => ∃ b cs, E.β o = some (some b) ∧ E.h o = some (.var cs) ∧ v = .slice (some ⟨b, 0, none⟩) n n
  | .bx, v => ∃ b, v = .bool b
  | .itr o, v => ∃ b s p, E.β o = some (some b) ∧ E.h o = some (.it s p) ∧ v = .pointer (some ⟨b, 0, none⟩)
  | .sub o m k n, v => ∃ e wd rows fz, E.h o = some (.vec e wd rows fz) ∧ m ≤ rows.length ∧ one v = true ∧ (m = rows.length → (E.β o = some none ∧ n = 0 ∧ v = .slice none 0 0) ∨ ∃ b cap, E.β o = some (some b) ∧ v = .slice (some ⟨b, k * wd, none⟩) n cap ∧ n ≤ cap ∧ k + n ≤ m ∧ k + cap ≤ maxLen ∧ E.sz b ((k + cap) * wd))
  | .xo y o, v => ∃ b k as, E.β o = some (some b) ∧ E.h o = some (.x k as) ∧ v = xval y b
  | .g o n i, v => ∃ e cs, E.h o = some (.gv e cs) ∧ n ≤ cs.length ∧ one v = true ∧ (n = cs.length → gRep (E.β o) E.sz n i v)
def repL (E : Env) : List A → List Value → Prop
  | [], vs => vs = []
  | a :: as, vs => ∃ u us, vs = u :: us ∧ a.rep E u ∧ repL E as us
end
/-- The kind of an object without cells may turn, but for a block of deferred calls. -/
def XK.grow : XK → XK → Prop
  | .dfr, .dfr => True
  | .dfr, _ => False
  | _, .dfr => False
  | _, _ => True
theorem XK.grow_refl (k : XK) : k.grow k := by cases k <;> trivial
theorem XK.grow_trans {a b c : XK} (h1 : a.grow b) (h2 : b.grow c) : a.grow c := by cases a <;> cases b <;> cases c <;> simp_all [XK.grow]
/-- An object may grow: it stays where it lies while it has as many rows. -/
def Ob.grow (bo bo' : Option (Option Nat)) : Ob → Ob → Prop
  | .var _, .var _ => bo' = bo
  | .vec e w rows _, .vec e' w' rows' _ => e' = e ∧ w' = w ∧ rows.length ≤ rows'.length ∧ (rows'.length = rows.length → bo' = bo)
  | .mp _ _, .mp _ _ => bo' = bo
  | .it _ _, .it _ _ => bo' = bo
  | .x k _, .x k' _ => bo' = bo ∧ k.grow k'
  | .bag _ _, .bag _ _ => bo' = bo
  | .mp _ _, .bag _ _ => bo' = bo
  | .bag _ _, .mp _ _ => bo' = bo
  | .gv e cs, .gv e' cs' => e' = e ∧ cs.length ≤ cs'.length ∧ (cs'.length = cs.length → bo' = bo)
  | _, _ => False
/-- All that was known of values stays known. -/
structure Env.Le (E E' : Env) : Prop where
  R : ∀ b i v, E.R b i v → E'.R b i v
  h : ∀ o ob, E.h o = some ob → ∃ ob', E'.h o = some ob' ∧ Ob.grow (E.β o) (E'.β o) ob ob'
  sz : ∀ b n, E.sz b n → E'.sz b n
theorem Ob.grow_refl (bo : Option (Option Nat)) (ob : Ob) : Ob.grow bo bo ob ob := by cases ob <;> simp [Ob.grow, XK.grow_refl]
theorem Ob.grow_trans {b1 b2 b3 : Option (Option Nat)} {x y z : Ob} (h1 : Ob.grow b1 b2 x y) (h2 : Ob.grow b2 b3 y z) : Ob.grow b1 b3 x z := by
  cases x <;> cases y <;> cases z <;> simp only [Ob.grow] at * <;> first
    | (rw [h2, h1])
    | exact ⟨h2.1.trans h1.1, XK.grow_trans h1.2 h2.2⟩
    | (refine ⟨h2.1.trans h1.1, h2.2.1.trans h1.2.1, Nat.le_trans h1.2.2.1 h2.2.2.1, fun h => ?_⟩
       have a1 := h1.2.2.1
       have a2 := h2.2.2.1
       rw [h2.2.2.2 (by omega), h1.2.2.2 (by omega)])
    | (refine ⟨h2.1.trans h1.1, Nat.le_trans h1.2.1 h2.2.1, fun h => ?_⟩
       have a1 := h1.2.1
       have a2 := h2.2.1
       rw [h2.2.2 (by omega), h1.2.2 (by omega)])
theorem Env.Le.refl (E : Env) : E.Le E := ⟨fun _ _ _ h => h, fun _ ob h => ⟨ob, h, Ob.grow_refl _ _⟩, fun _ _ h => h⟩
theorem Env.Le.trans {E E' E'' : Env} (h1 : E.Le E') (h2 : E'.Le E'') : E.Le E'' :=
  ⟨fun b i v h => h2.R _ _ _ (h1.R _ _ _ h), fun o ob h => by
    obtain ⟨ob', h3, h4⟩ := h1.h o ob h
    obtain ⟨ob'', h5, h6⟩ := h2.h o ob' h3
    exact ⟨ob'', h5, Ob.grow_trans h4 h6⟩, fun b n h => h2.sz _ _ (h1.sz _ _ h)⟩
mutual
theorem A.rep_le {E E' : Env} (L : E.Le E') : ∀ (a : A) (v : Value), a.rep E v → a.rep E' v
  | .any, _, _ => by simp [A.rep]
  | .d x, v, h => by
    simp only [A.rep] at h ⊢
    exact D.rep_mono L.R x v h
  | .snil, v, h => by simpa [A.rep] using h
  | .ptr o off, v, h => by
    simp only [A.rep] at h ⊢
    obtain ⟨b, cs, h1, h2, h3⟩ := h
    obtain ⟨ob', h4, h5⟩ := L.h o _ h2
    cases ob' with
    | var cs' => simp only [Ob.grow] at h5; exact ⟨b, cs', h5.trans h1, h4, h3⟩
    | vec => simp [Ob.grow] at h5
    | mp => simp [Ob.grow] at h5
    | it => simp [Ob.grow] at h5
    | x => simp [Ob.grow] at h5
    | bag => simp [Ob.grow] at h5
    | gv => simp [Ob.grow] at h5
  | .vec o n, v, h => by
    simp only [A.rep] at h ⊢
    obtain ⟨e, wd, rows, fz, h1, h2, h2', h3⟩ := h
    obtain ⟨ob', h4, h5⟩ := L.h o _ h1
    cases ob' with
    | var cs' => simp [Ob.grow] at h5
    | mp => simp [Ob.grow] at h5
    | it => simp [Ob.grow] at h5
    | x => simp [Ob.grow] at h5
    | bag => simp [Ob.grow] at h5
    | gv => simp [Ob.grow] at h5
    | vec e' w' rows' fz' =>
      simp only [Ob.grow] at h5
      obtain ⟨rfl, rfl, h6, h7⟩ := h5
      refine ⟨e', w', rows', fz', h4, by omega, h2', fun hn => ?_⟩
      have hl : rows'.length = rows.length := by omega
      rw [h7 hl]
      rcases h3 (by omega) with h8 | ⟨b, cap, h8, h9, h10, h12, h11⟩
      · exact .inl h8
      · exact .inr ⟨b, cap, h8, h9, h10, h12, L.sz _ _ h11⟩
  | .vptr o n i off, v, h => by
    simp only [A.rep] at h ⊢
    obtain ⟨e, wd, rows, fz, h1, h2, h2', h3⟩ := h
    obtain ⟨ob', h4, h5⟩ := L.h o _ h1
    cases ob' with
    | var cs' => simp [Ob.grow] at h5
    | mp => simp [Ob.grow] at h5
    | it => simp [Ob.grow] at h5
    | x => simp [Ob.grow] at h5
    | bag => simp [Ob.grow] at h5
    | gv => simp [Ob.grow] at h5
    | vec e' w' rows' fz' =>
      simp only [Ob.grow] at h5
      obtain ⟨rfl, rfl, h6, h7⟩ := h5
      refine ⟨e', w', rows', fz', h4, by omega, h2', fun hn => ?_⟩
      have hl : rows'.length = rows.length := by omega
      rw [h7 hl]
      exact h3 (by omega)
  | .csl wd rows, v, h => by
    simp only [A.rep] at h ⊢
    obtain ⟨a, h1, h2, h3⟩ := h
    exact ⟨a, h1, h2, fun a' ha => ⟨(h3 a' ha).1, rowsAt_mono L.R (L.R a'.block) _ _ _ (h3 a' ha).2⟩⟩
  | .clo f caps, v, h => by
    simp only [A.rep] at h ⊢
    obtain ⟨vs, h1, h2⟩ := h
    exact ⟨vs, h1, repL_le L caps vs h2⟩
  | .agg cs, v, h => by
    simp only [A.rep] at h ⊢
    obtain ⟨vs, h1, h2, h3⟩ := h
    exact ⟨vs, h1, repL_le L cs vs h2, h3⟩
  | .tup as, v, h => by
    simp only [A.rep] at h ⊢
    obtain ⟨vs, h1, h2⟩ := h
    exact ⟨vs, h1, repL_le L as vs h2⟩
  | .mp o, v, h => by
    simp only [A.rep] at h ⊢
    obtain ⟨b, es, st, h1, h2, h3⟩ := h
    rcases h2 with h2 | ⟨S, n, h2⟩
    · obtain ⟨ob', h4, h5⟩ := L.h o _ h2
      cases ob' with
      | mp es' st' => simp only [Ob.grow] at h5; exact ⟨b, es', st', h5.trans h1, .inl h4, h3⟩
      | bag S n => simp only [Ob.grow] at h5; exact ⟨b, es, st, h5.trans h1, .inr ⟨S, n, h4⟩, h3⟩
      | _ => simp [Ob.grow] at h5
    · obtain ⟨ob', h4, h5⟩ := L.h o _ h2
      cases ob' with
      | mp es' st' => simp only [Ob.grow] at h5; exact ⟨b, es', st', h5.trans h1, .inl h4, h3⟩
      | bag S n => simp only [Ob.grow] at h5; exact ⟨b, es, st, h5.trans h1, .inr ⟨S, n, h4⟩, h3⟩
      | _ => simp [Ob.grow] at h5
  | .vs o n, v, h => by
    simp only [A.rep] at h ⊢
    obtain ⟨b, cs, h1, h2, h3⟩ := h
    obtain ⟨ob', h4, h5⟩ := L.h o _ h2
    cases ob' with
    | var cs' => simp only [Ob.grow] at h5; exact ⟨b, cs', h5.trans h1, h4, h3⟩
    | vec => simp [Ob.grow] at h5
    | mp => simp [Ob.grow] at h5
    | it => simp [Ob.grow] at h5
    | x => simp [Ob.grow] at h5
    | bag => simp [Ob.grow] at h5
    | gv => simp [Ob.grow] at h5
  | .bx, v, h => by simpa [A.rep] using h
  | .itr o, v, h => by
    simp only [A.rep] at h ⊢
    obtain ⟨b, s, p, h1, h2, h3⟩ := h
    obtain ⟨ob', h4, h5⟩ := L.h o _ h2
    cases ob' with
    | it s' p' => simp only [Ob.grow] at h5; exact ⟨b, s', p', h5.trans h1, h4, h3⟩
    | _ => simp [Ob.grow] at h5
  | .sub o m k n, v, h => by
    simp only [A.rep] at h ⊢
    obtain ⟨e, wd, rows, fz, h1, h2, h2', h3⟩ := h
    obtain ⟨ob', h4, h5⟩ := L.h o _ h1
    cases ob' with
    | var cs' => simp [Ob.grow] at h5
    | mp => simp [Ob.grow] at h5
    | it => simp [Ob.grow] at h5
    | x => simp [Ob.grow] at h5
    | bag => simp [Ob.grow] at h5
    | gv => simp [Ob.grow] at h5
    | vec e' w' rows' fz' =>
      simp only [Ob.grow] at h5
      obtain ⟨rfl, rfl, h6, h7⟩ := h5
      refine ⟨e', w', rows', fz', h4, by omega, h2', fun hn => ?_⟩
      have hl : rows'.length = rows.length := by omega
      rw [h7 hl]
      rcases h3 (by omega) with q | ⟨b, cap, q1, q2, q3, q4, q5, q6⟩
      · exact .inl q
      · exact .inr ⟨b, cap, q1, q2, q3, q4, q5, L.sz _ _ q6⟩
  | .xo y o, v, h => by
    simp only [A.rep] at h ⊢
    obtain ⟨b, k, as, h1, h2, h3⟩ := h
    obtain ⟨ob', h4, h5⟩ := L.h o _ h2
    cases ob' with
    | x k' as' => simp only [Ob.grow] at h5; exact ⟨b, k', as', h5.1.trans h1, h4, h3⟩
    | _ => simp [Ob.grow] at h5
  | .g o n i, v, h => by
    simp only [A.rep] at h ⊢
    obtain ⟨e, cs, h1, h2, h2', h3⟩ := h
    obtain ⟨ob', h4, h5⟩ := L.h o _ h1
    cases ob' with
    | gv e' cs' =>
      simp only [Ob.grow] at h5
      obtain ⟨rfl, h6, h7⟩ := h5
      refine ⟨e', cs', h4, by omega, h2', fun hn => ?_⟩
      have hl : cs'.length = cs.length := by omega
      rw [h7 hl]
      exact gRep_le L.sz (h3 (by omega))
    | _ => simp [Ob.grow] at h5
theorem repL_le {E E' : Env} (L : E.Le E') : ∀ (as : List A) (vs : List Value), repL E as vs → repL E' as vs
  | [], vs, h => by simpa [repL] using h
  | a :: as, vs, h => by
    simp only [repL] at h ⊢
    obtain ⟨u, us, h1, h2, h3⟩ := h
    exact ⟨u, us, h1, A.rep_le L a u h2, repL_le L as us h3⟩
end
theorem repL_length {E : Env} : ∀ (as : List A) (vs : List Value), repL E as vs → vs.length = as.length
  | [], vs, h => by simp only [repL] at h; simp [h]
  | a :: as, vs, h => by
    simp only [repL] at h
    obtain ⟨u, us, rfl, _, h3⟩ := h
    simp [repL_length as us h3]
theorem repL_get {E : Env} : ∀ (as : List A) (vs : List Value) (i : Nat) (a : A), repL E as vs → as[i]? = some a → ∃ v, vs[i]? = some v ∧ a.rep E v
  | [], _, _, _, _, h => by simp at h
  | b :: as, vs, 0, a, h, ha => by
    simp only [repL] at h
    obtain ⟨u, us, rfl, h2, _⟩ := h
    simp at ha
    subst ha
    exact ⟨u, rfl, h2⟩
  | b :: as, vs, i + 1, a, h, ha => by
    simp only [repL] at h
    obtain ⟨u, us, rfl, _, h3⟩ := h
    simpa using repL_get as us i a h3 (by simpa using ha)
theorem repL_append {E : Env} : ∀ (as bs : List A) (vs us : List Value), repL E as vs → repL E bs us → repL E (as ++ bs) (vs ++ us)
  | [], bs, vs, us, h, h' => by simp only [repL] at h; subst h; simpa using h'
  | a :: as, bs, vs, us, h, h' => by
    simp only [repL] at h
    obtain ⟨u, us', rfl, h2, h3⟩ := h
    simp only [List.cons_append, repL]
    exact ⟨u, us' ++ us, rfl, h2, repL_append as bs us' us h3 h'⟩
theorem repL_take {E : Env} : ∀ (n : Nat) (as : List A) (vs : List Value), repL E as vs → repL E (as.take n) (vs.take n)
  | 0, as, vs, _ => by simp [repL]
  | n + 1, [], vs, h => by simp only [repL] at h; subst h; simp [repL]
  | n + 1, a :: as, vs, h => by
    simp only [repL] at h
    obtain ⟨u, us, rfl, h2, h3⟩ := h
    simp only [List.take_succ_cons, repL]
    exact ⟨u, _, rfl, h2, repL_take n as us h3⟩
theorem repL_drop {E : Env} : ∀ (n : Nat) (as : List A) (vs : List Value), repL E as vs → repL E (as.drop n) (vs.drop n)
  | 0, as, vs, h => by simpa using h
  | n + 1, [], vs, h => by simp only [repL] at h; subst h; simp [repL]
  | n + 1, a :: as, vs, h => by
    simp only [repL] at h
    obtain ⟨u, us, rfl, h2, h3⟩ := h
    simpa using repL_drop n as us h3
end Go.Am
namespace Go.Am
/-- Which cells of its block an object keeps to itself. -/
def Ob.excl : Ob → Nat → Prop
  | .var _, _ => True
  | .vec _ w _ fz, i => fz * w ≤ i
  | .mp _ _, _ => True
  | .it _ _, _ => True
  | .x _ _, _ => True
  | .bag _ _, _ => True
  | .gv _ _, _ => True
def Xh (β : Nat → Option (Option Nat)) (h : Nat → Option Ob) (b i : Nat) : Prop := ∃ o ob, h o = some ob ∧ β o = some (some b) ∧ ob.excl i
def envOf (Xo : Nat → Nat → Prop) (β : Nat → Option (Option Nat)) (h : Nat → Option Ob) (w : World) : Env where
  β := β
  h := h
  R := fun b i v => ¬ Xo b i ∧ ¬ Xh β h b i ∧ w.cell? ⟨b, i, none⟩ = some v
  sz := fun b n => ∃ c el, w.heap[b]? = some (.cells c el (0, 0)) ∧ c.size = n
def opsOk (N : Nat) (ops : Array Oper) : Bool := ops.all fun o => match o.dst with | none => true | some d => decide (d < N)
def cOk (N : Nat) : Code → Bool
  | .seq a b => cOk N a && cOk N b
  | .cond _ a b => cOk N a && cOk N b
  | .block _ c => cOk N c
  | .loop c => cOk N c
  | .scope c => cOk N c
  | .region _ ops _ => opsOk N ops
  | .rangeFunc .. => false
  | _ => true
/-- What a loop over a function wants of a frame of N slots. -/
def rndOk (N : Nat) (ps : List Nat) (asg bd : Code) : Bool := ps.all (fun p => decide (p < N)) && cOk N asg && cOk N bd
/-- What an object without cells holds: the values that it names. -/
def XK.of : XK → Obj → List Value → Prop
  | .dfr, .deferred (some []), vs => vs = []
  | .lp ks ps asg bd st, .loop r, vs => vs = ks.map (fun k => r.tmps.getD k undef) ∧ rndOk r.tmps.size ps asg bd = true ∧ r.params = ps.toArray ∧ r.assign = asg ∧ r.body = bd ∧
      (match st with
       | .ready => r.state = .ready ∧ r.pending = none
       | .busy => r.state = .busy
       | .done j => r.state = .done ∧ r.pending = some j
       | .over => True)
  | .mi bs clk sn, .mapIter (some m) since seen last, vs => vs = [.map (some m)] ∧ since = clk ∧ last = clk ∧ seen.toList = sn.map (fun i => bs.getD i 0) ∧ ∀ i ∈ sn, i < bs.length
  | .bi clk, .mapIter (some m) since seen last, vs => vs = [.map (some m)] ∧ since = clk ∧ last = clk ∧ seen = #[]
  | _, _, _ => False
/-- The stamps of the entries of a map. -/
structure Stamps (ens : Array MapEntry) (clk : Nat) (st : Option (List Nat × Nat)) : Prop where
  up : (ens.toList.map (·.born)).Pairwise (· < ·)
  lt : ∀ e ∈ ens.toList, e.born < clk
  st : ∀ bs c, st = some (bs, c) → ens.toList.map (·.born) = bs ∧ c = clk
theorem Stamps.any {ens : Array MapEntry} {clk : Nat} {st : Option (List Nat × Nat)} (h : Stamps ens clk st) : Stamps ens clk none := ⟨h.up, h.lt, fun _ _ e => by cases e⟩
/-- An object lies in block bo (none: a nil slice). -/
def Ob.rep (E : Env) (w : World) (bo : Option Nat) : Ob → Prop
  | .var cs => ∃ b c el, bo = some b ∧ w.heap[b]? = some (.cells c el (0, 0)) ∧ repL E cs c.toList ∧ ∀ u ∈ c.toList, one u = true
  | .vec e wd rows fz => fz ≤ rows.length ∧ (∀ r ∈ rows, r.length = wd) ∧ ((bo = none ∧ rows = []) ∨
      ∃ b c, bo = some b ∧ w.heap[b]? = some (.cells c e (0, 0)) ∧ rowsAt E.R (fun i v => c[i]? = some v) wd 0 rows ∧ rows.length * wd ≤ c.size)
  | .mp es st => ∃ b ens clk, bo = some b ∧ w.heap[b]? = some (.map ens clk) ∧ ens.toList.map (fun e => (e.key, e.val)) = es ∧ (∀ p ∈ es, one p.1 = true ∧ one p.2 = true) ∧ Stamps ens clk st
  | .it s pos => ∃ b, bo = some b ∧ w.heap[b]? = some (.stringIter s pos)
  | .x k as => ∃ b ob vs, bo = some b ∧ w.heap[b]? = some ob ∧ k.of ob vs ∧ repL E as vs
  | .bag S n => ∃ b ens, bo = some b ∧ w.heap[b]? = some (.map ens n) ∧ (∀ x y, (x, y) ∈ ens.toList.map (fun e => (e.key, e.val)) ↔ S x = some y) ∧ (∀ e ∈ ens.toList, one e.key = true ∧ one e.val = true) ∧ Stamps ens n none
  | .gv e cs => (bo = none ∧ cs = []) ∨ ∃ b c vs tl, bo = some b ∧ w.heap[b]? = some (.cells c e (0, 0)) ∧ c.toList = vs ++ tl ∧ repL E cs vs ∧ ∀ u ∈ vs, one u = true
/-- A block that holds no cells. -/
def noCells : Obj → Prop
  | .cells .. => False
  | _ => True
/-- From w to w' nothing has turned but cells of Y, and new blocks have come. -/
structure Ev (Y : Nat → Nat → Prop) (w w' : World) : Prop where
  os : w'.os = w.os
  tape : w'.tape = w.tape
  output : w'.output = w.output
  size : w.heap.size ≤ w'.heap.size
  drawn : w.drawn ≤ w'.drawn
  block : ∀ b, b < w.heap.size → w'.heap[b]? = w.heap[b]? ∨ (∃ c c' el, w.heap[b]? = some (.cells c el (0, 0)) ∧ w'.heap[b]? = some (.cells c' el (0, 0)) ∧ c'.size = c.size ∧ ∀ i, ¬ Y b i → c'[i]? = c[i]?) ∨
    ∃ x y, w.heap[b]? = some x ∧ w'.heap[b]? = some y ∧ (noCells x ∧ noCells y) ∧ Y b 0
theorem Ev.refl (Y : Nat → Nat → Prop) (w : World) : Ev Y w w := ⟨rfl, rfl, rfl, Nat.le_refl _, Nat.le_refl _, fun _ _ => .inl rfl⟩
theorem Ev.trans {Y Z : Nat → Nat → Prop} {a b c : World} (h1 : Ev Y a b) (h2 : Ev Z b c) (hz : ∀ k i, k < a.heap.size → Z k i → Y k i) : Ev Y a c := by
  refine ⟨h2.os.trans h1.os, h2.tape.trans h1.tape, h2.output.trans h1.output, Nat.le_trans h1.size h2.size, Nat.le_trans h1.drawn h2.drawn, fun k hk => ?_⟩
  rcases h1.block k hk with e1 | ⟨x, y, el, e1, e2, e3, e4⟩ | ⟨x, y, e1, e2, e0, e3⟩
  · rcases h2.block k (Nat.lt_of_lt_of_le hk h1.size) with f1 | ⟨x, y, el, f1, f2, f3, f4⟩ | ⟨x, y, f1, f2, f0, f3⟩
    · exact .inl (f1.trans e1)
    · exact .inr (.inl ⟨x, y, el, e1 ▸ f1, f2, f3, fun i hi => f4 i (fun hz' => hi (hz k i hk hz'))⟩)
    · exact .inr (.inr ⟨x, y, e1 ▸ f1, f2, f0, hz k 0 hk f3⟩)
  · rcases h2.block k (Nat.lt_of_lt_of_le hk h1.size) with f1 | ⟨x', y', el', f1, f2, f3, f4⟩ | ⟨x', y', f1, f2, f0, f3⟩
    · exact .inr (.inl ⟨x, y, el, e1, f1.trans e2, e3, e4⟩)
    · rw [e2] at f1
      simp only [Option.some.injEq, Obj.cells.injEq, and_true] at f1
      obtain ⟨rfl, rfl⟩ := f1
      exact .inr (.inl ⟨x, y', el, e1, f2, f3.trans e3, fun i hi => (f4 i (fun hz' => hi (hz k i hk hz'))).trans (e4 i hi)⟩)
    · rw [e2] at f1; cases f1; exact f0.1.elim
  · rcases h2.block k (Nat.lt_of_lt_of_le hk h1.size) with f1 | ⟨x', y', el', f1, f2, f3, f4⟩ | ⟨x', y', f1, f2, f0, f3⟩
    · exact .inr (.inr ⟨x, y, e1, f1.trans e2, e0, e3⟩)
    · rw [e2] at f1; cases f1; exact e0.2.elim
    · exact .inr (.inr ⟨x, y', e1, f2, ⟨e0.1, f0.2⟩, e3⟩)
theorem Ev.mono {Y Z : Nat → Nat → Prop} {a b : World} (h : Ev Y a b) (hz : ∀ k i, k < a.heap.size → Y k i → Z k i) : Ev Z a b :=
  (Ev.refl Z a).trans h hz
/-- Where nothing may turn it is 'Below'. -/
theorem Ev.below {Y : Nat → Nat → Prop} {w w' : World} (h : Ev Y w w') (hY : ∀ b i, ¬ Y b i) : RowKit.Below w.heap.size w w' :=
  ⟨h.os, h.tape, h.output, h.size, fun k hk => by
    rcases h.block k hk with e | ⟨c, c', el, e1, e2, e3, e4⟩ | ⟨x, y, e1, e2, e0, e3⟩
    · exact e
    · rw [e1, e2]
      have : c' = c := Array.ext_getElem? fun i => e4 i (hY k i)
      rw [this]
    · exact absurd e3 (hY k 0)⟩
theorem Ev.cell {Y : Nat → Nat → Prop} {w w' : World} (h : Ev Y w w') {b i : Nat} {v : Value} (hy : ¬ Y b i) (hc : w.cell? ⟨b, i, none⟩ = some v) : w'.cell? ⟨b, i, none⟩ = some v := by
  have hb : b < w.heap.size := World.block_lt_of_cell? w _ hc
  unfold World.cell? at *
  rcases h.block b hb with e | ⟨c, c', el, e1, e2, e3, e4⟩ | ⟨x, y, e1, e2, e0, e3⟩
  · simp only [e]; exact hc
  · simp only [e1] at hc
    simp only [e2]
    simpa [e4 i hy] using hc
  · simp only [e1] at hc
    cases x <;> simp at hc
    exact e0.1.elim
/-- What a frame knows of the world outside: w0, the world in which its call began; Xo, cells that others keep to themselves; Y, what of the old memory it may write; h0, β0: the objects that it was handed, and where they lay. (They have numbers from 1000 on.) -/
structure Cx where
  w0 : World
  Xo : Nat → Nat → Prop
  Y : Nat → Nat → Prop
  β0 : Nat → Option (Option Nat)
  h0 : Nat → Option Ob
/-- The package's tables: variables that nobody writes, with what they hold. -/
class Tab where
  tab : Nat → Option (List D)
  /-- Variables of which is known only that they hold a number. -/
  ints : List Nat := []
variable [T : Tab]
/-- A block of so many cells. -/
def Sized (w : World) (g n : Nat) : Prop := ∃ c el fl, w.heap[g]? = some (.cells c el fl) ∧ c.size = n
theorem Sized.step {Y : Nat → Nat → Prop} {w w' : World} {g n : Nat} (h : Sized w g n) (hev : Ev Y w w') : Sized w' g n := by
  obtain ⟨c, el, fl, h1, h2⟩ := h
  have hb : g < w.heap.size := by
    rcases Nat.lt_or_ge g w.heap.size with hl | hl
    · exact hl
    · simp [Array.getElem?_eq_none hl] at h1
  rcases hev.block g hb with e | ⟨x, y, el', e1, e2, e3, _⟩ | ⟨x, y, e1, e2, e0, e3⟩
  · exact ⟨c, el, fl, e.trans h1, h2⟩
  · rw [h1] at e1
    simp only [Option.some.injEq, Obj.cells.injEq] at e1
    obtain ⟨rfl, rfl, rfl⟩ := e1
    exact ⟨y, el, (0, 0), e2, by omega⟩
  · rw [h1] at e1; cases e1; exact e0.1.elim
/-- Numbers of objects that are handed over; all others are the frame's own. -/
def hdd (o : Nat) : Bool := decide (1000 ≤ o) && (decide (o < 100000) || decide (1000000 ≤ o))
@[simp] theorem hdd_eq (o : Nat) : hdd o = (decide (1000 ≤ o) && (decide (o < 100000) || decide (1000000 ≤ o))) := rfl
theorem hdd_ge {o : Nat} (h : hdd o = true) : 1000 ≤ o := by simp at h; omega
theorem hdd_own {o : Nat} (h : 100000 ≤ o) (h2 : o < 1000000) : hdd o = false := by simp; omega
theorem hdd_mark {o : Nat} (h : 1000000 ≤ o) : hdd o = true := by simp; omega
structure Rel (cx : Cx) (β : Nat → Option (Option Nat)) (h : Nat → Option Ob) (w : World) : Prop where
  dom : ∀ o, (β o).isSome = (h o).isSome
  obj : ∀ o ob bo, h o = some ob → β o = some bo → ob.rep (envOf cx.Xo β h w) w bo
  inj : ∀ o o' b, β o = some (some b) → β o' = some (some b) → o = o'
  out : ∀ o b i, β o = some (some b) → ¬ cx.Xo b i
  bnd : ∀ b i, cx.Xo b i → b < cx.w0.heap.size
  ev : Ev cx.Y cx.w0 w
  own : ∀ b i, Xh β h b i → cx.w0.heap.size ≤ b ∨ cx.Y b i
  ent : ∀ o ob, cx.h0 o = some ob → ∃ ob', h o = some ob' ∧ Ob.grow (cx.β0 o) (β o) ob ob'
  big : ∀ o, (cx.h0 o).isSome = true → hdd o = true
  tab : ∀ g row, T.tab g = some row → rowAt (envOf cx.Xo β h w).R ((envOf cx.Xo β h w).R g) 0 row
  gi : ∀ g ∈ T.ints, ∃ m, (envOf cx.Xo β h w).R g 0 (.int .i64 m)
  tsz : ∀ g row, T.tab g = some row → Sized w g row.length
theorem Ob.rep_le {E E' : Env} {w w' : World} {bo : Option Nat} {ob : Ob} (L : E.Le E') (hb : ∀ b, bo = some b → w'.heap[b]? = w.heap[b]?) (h : ob.rep E w bo) : ob.rep E' w' bo := by
  cases ob with
  | var cs =>
    simp only [Ob.rep] at *
    obtain ⟨b, c, el, h1, h2, h3, h4⟩ := h
    exact ⟨b, c, el, h1, (hb b h1).trans h2, repL_le L _ _ h3, h4⟩
  | vec e wd rows fz =>
    simp only [Ob.rep] at *
    obtain ⟨h1, h2, h3⟩ := h
    refine ⟨h1, h2, ?_⟩
    rcases h3 with h3 | ⟨b, c, h3, h4, h5, h6⟩
    · exact .inl h3
    · exact .inr ⟨b, c, h3, (hb b h3).trans h4, rowsAt_mono L.R (fun _ _ h => h) _ _ _ h5, h6⟩
  | mp es st =>
    simp only [Ob.rep] at *
    obtain ⟨b, ens, clk, h1, h2, h3⟩ := h
    exact ⟨b, ens, clk, h1, (hb b h1).trans h2, h3⟩
  | it s p =>
    simp only [Ob.rep] at *
    obtain ⟨b, h1, h2⟩ := h
    exact ⟨b, h1, (hb b h1).trans h2⟩
  | x k as =>
    simp only [Ob.rep] at *
    obtain ⟨b, ob, vs, h1, h2, h3, h4⟩ := h
    exact ⟨b, ob, vs, h1, (hb b h1).trans h2, h3, repL_le L _ _ h4⟩
  | bag S n =>
    simp only [Ob.rep] at *
    obtain ⟨b, ens, h1, h2, h3⟩ := h
    exact ⟨b, ens, h1, (hb b h1).trans h2, h3⟩
  | gv e cs =>
    simp only [Ob.rep] at *
    rcases h with h | ⟨b, c, vs, tl, h1, h2, h3, h4, h5⟩
    · exact .inl h
    · exact .inr ⟨b, c, vs, tl, h1, (hb b h1).trans h2, h3, repL_le L _ _ h4, h5⟩
theorem Rel.lt {cx : Cx} {β : Nat → Option (Option Nat)} {h : Nat → Option Ob} {w : World} (r : Rel cx β h w) {o b : Nat} (hb : β o = some (some b)) : b < w.heap.size := by
  have hd := r.dom o
  rw [hb] at hd
  cases hh : h o with
  | none => simp [hh] at hd
  | some ob =>
    have := r.obj o ob _ hh hb
    have key : ∀ {x}, w.heap[b]? = some x → b < w.heap.size := fun e => by
      rcases Nat.lt_or_ge b w.heap.size with hl | hl
      · exact hl
      · simp [Array.getElem?_eq_none hl] at e
    cases ob with
    | var cs =>
      simp only [Ob.rep] at this
      obtain ⟨b', c, el, h1, h2, _⟩ := this
      cases h1
      exact key h2
    | vec e wd rows fz =>
      simp only [Ob.rep] at this
      obtain ⟨_, _, h3 | ⟨b', c, h3, h4, _⟩⟩ := this
      · cases h3.1
      · cases h3; exact key h4
    | mp es st =>
      simp only [Ob.rep] at this
      obtain ⟨b', ens, clk, h1, h2, _⟩ := this
      cases h1
      exact key h2
    | it s p =>
      simp only [Ob.rep] at this
      obtain ⟨b', h1, h2⟩ := this
      cases h1
      exact key h2
    | x k as =>
      simp only [Ob.rep] at this
      obtain ⟨b', ob, vs, h1, h2, _⟩ := this
      cases h1
      exact key h2
    | bag S n =>
      simp only [Ob.rep] at this
      obtain ⟨b', ens, h1, h2, _⟩ := this
      cases h1
      exact key h2
    | gv e cs =>
      simp only [Ob.rep] at this
      rcases this with h3 | ⟨b', c, vs, tl, h3, h4, _⟩
      · cases h3.1
      · cases h3; exact key h4
/-- ONE LEMMA FOR ALL STEPS. -/
theorem Rel.step {cx : Cx} {β β' : Nat → Option (Option Nat)} {h h' : Nat → Option Ob} {w w' : World} (r : Rel cx β h w)
    (hev : Ev (Xh β h) w w')
    (hdom : ∀ o, (β' o).isSome = (h' o).isSome)
    (hgrow : ∀ o ob, h o = some ob → ∃ ob', h' o = some ob' ∧ Ob.grow (β o) (β' o) ob ob')
    (hblk : ∀ o b, β' o = some (some b) → β o = some (some b) ∨ w.heap.size ≤ b)
    (hinj : ∀ o o' b, β' o = some (some b) → β' o' = some (some b) → o = o')
    (hx : ∀ b i, Xh β' h' b i → Xh β h b i ∨ w.heap.size ≤ b)
    (hobj : ∀ o ob bo, h' o = some ob → β' o = some bo → (h o = some ob ∧ β o = some bo ∧ ∀ b, bo = some b → w'.heap[b]? = w.heap[b]?) ∨
      ((envOf cx.Xo β h w).Le (envOf cx.Xo β' h' w') → ob.rep (envOf cx.Xo β' h' w') w' bo)) :
    Rel cx β' h' w' ∧ (envOf cx.Xo β h w).Le (envOf cx.Xo β' h' w') := by
  have L : (envOf cx.Xo β h w).Le (envOf cx.Xo β' h' w') := by
    refine ⟨fun b i v hr => ?_, hgrow, fun b n hs => ?_⟩
    · obtain ⟨h1, h2, h3⟩ := hr
      refine ⟨h1, fun hx' => ?_, hev.cell h2 h3⟩
      rcases hx b i hx' with hx' | hx'
      · exact h2 hx'
      · have := World.block_lt_of_cell? w _ h3
        simp at this
        omega
    · obtain ⟨c, el, h1, h2⟩ := hs
      have hb : b < w.heap.size := by
        rcases Nat.lt_or_ge b w.heap.size with hl | hl
        · exact hl
        · simp [Array.getElem?_eq_none hl] at h1
      rcases hev.block b hb with e | ⟨x, y, el', e1, e2, e3, _⟩ | ⟨x, y, e1, e2, e0, e3⟩
      · exact ⟨c, el, e.trans h1, h2⟩
      · rw [h1] at e1
        simp only [Option.some.injEq, Obj.cells.injEq, and_true] at e1
        obtain ⟨rfl, rfl⟩ := e1
        exact ⟨y, el, e2, by omega⟩
      · rw [h1] at e1; cases e1; exact e0.1.elim
  have hsz : cx.w0.heap.size ≤ w.heap.size := r.ev.size
  refine ⟨⟨hdom, fun o ob bo h1 h2 => ?_, hinj, fun o b i hb => ?_, r.bnd, r.ev.trans hev fun k i hk hz => ?_, fun b i hX => ?_, fun o ob h1 => ?_, r.big, fun g row hg => rowAt_mono L.R (L.R g) row 0 (r.tab g row hg), fun g hg => (r.gi g hg).imp fun _ => L.R _ _ _, fun g row hg => (r.tsz g row hg).step hev⟩, L⟩
  · rcases hobj o ob bo h1 h2 with ⟨h3, h4, h5⟩ | h3
    · exact Ob.rep_le L h5 (r.obj o ob bo h3 h4)
    · exact h3 L
  · rcases hblk o b hb with h1 | h1
    · exact r.out o b i h1
    · intro hX
      have := r.bnd b i hX
      omega
  · rcases r.own k i hz with h1 | h1
    · omega
    · exact h1
  · rcases hx b i hX with h1 | h1
    · exact r.own b i h1
    · exact .inl (by omega)
  · obtain ⟨ob1, g1, g2⟩ := r.ent o ob h1
    obtain ⟨ob2, g3, g4⟩ := hgrow o ob1 g1
    exact ⟨ob2, g3, Ob.grow_trans g2 g4⟩
def put {α : Type} (f : Nat → α) (k : Nat) (v : α) : Nat → α := fun j => if j = k then v else f j
@[simp] theorem put_same {α : Type} (f : Nat → α) (k : Nat) (v : α) : put f k v k = v := by simp [put]
theorem put_ne {α : Type} (f : Nat → α) {k j : Nat} (v : α) (h : j ≠ k) : put f k v j = f j := by simp [put, h]
/-- A draw turns nothing. -/
theorem Rel.drew {cx : Cx} {β : Nat → Option (Option Nat)} {h : Nat → Option Ob} {w : World} (r : Rel cx β h w) : Rel cx β h w.drew ∧ (envOf cx.Xo β h w).Le (envOf cx.Xo β h w.drew) :=
  r.step ⟨rfl, rfl, rfl, Nat.le_refl _, Nat.le_succ _, fun _ _ => .inl rfl⟩ r.dom (fun o ob ho => ⟨ob, ho, Ob.grow_refl _ _⟩) (fun _ _ h => .inl h) r.inj (fun _ _ h => .inl h)
    (fun _ _ _ h1 h2 => .inl ⟨h1, h2, fun _ _ => rfl⟩)
theorem Ev.alloc (Y : Nat → Nat → Prop) (w : World) (x : Obj) : Ev Y w (w.alloc x) :=
  ⟨rfl, rfl, rfl, by simp, Nat.le_refl _, fun b hb => .inl (RowKit.Below.heap_alloc w x b hb)⟩
theorem heap_alloc_new (w : World) (x : Obj) : (w.alloc x).heap[w.heap.size]? = some x := by show (w.heap.push x)[w.heap.size]? = some x; simp
/-- A new object in a new block. -/
theorem Rel.allocX {cx : Cx} {β : Nat → Option (Option Nat)} {h : Nat → Option Ob} {w : World} (r : Rel cx β h w) (o : Nat) (ob : Ob) (x0 : Obj) (ho : h o = none)
    (hob : (envOf cx.Xo β h w).Le (envOf cx.Xo (put β o (some (some w.heap.size))) (put h o (some ob)) (w.alloc x0)) →
      ob.rep (envOf cx.Xo (put β o (some (some w.heap.size))) (put h o (some ob)) (w.alloc x0)) (w.alloc x0) (some w.heap.size)) :
    Rel cx (put β o (some (some w.heap.size))) (put h o (some ob)) (w.alloc x0) ∧
      (envOf cx.Xo β h w).Le (envOf cx.Xo (put β o (some (some w.heap.size))) (put h o (some ob)) (w.alloc x0)) := by
  have hβ : β o = none := by
    have := r.dom o
    rw [ho] at this
    simpa using this
  refine r.step (Ev.alloc _ _ _) (fun k => ?_) (fun k x hk => ?_) (fun k b hb => ?_) (fun k k' b hb hb' => ?_) (fun b i hX => ?_) (fun k x bo h1 h2 => ?_)
  · by_cases hk : k = o
    · simp [put, hk]
    · simp [put, hk, r.dom k]
  · have hne : k ≠ o := fun e => by rw [e, ho] at hk; cases hk
    exact ⟨x, by rw [put_ne _ _ hne, hk], by rw [put_ne _ _ hne]; exact Ob.grow_refl _ _⟩
  · by_cases hk : k = o
    · subst hk; simp at hb; exact .inr (by omega)
    · rw [put_ne _ _ hk] at hb; exact .inl hb
  · by_cases hk : k = o <;> by_cases hk' : k' = o
    · rw [hk, hk']
    · subst hk; rw [put_ne _ _ hk'] at hb'; simp at hb; have := r.lt hb'; omega
    · subst hk'; rw [put_ne _ _ hk] at hb; simp at hb'; have := r.lt hb; omega
    · rw [put_ne _ _ hk] at hb; rw [put_ne _ _ hk'] at hb'; exact r.inj k k' b hb hb'
  · obtain ⟨k, x, h1, h2, h3⟩ := hX
    by_cases hk : k = o
    · subst hk; simp at h2; exact .inr (by omega)
    · rw [put_ne _ _ hk] at h1 h2; exact .inl ⟨k, x, h1, h2, h3⟩
  · by_cases hk : k = o
    · subst hk
      simp at h1 h2
      subst h1 h2
      exact .inr hob
    · rw [put_ne _ _ hk] at h1 h2
      exact .inl ⟨h1, h2, fun b hb => RowKit.Below.heap_alloc w _ b (r.lt (hb ▸ h2))⟩
/-- A new object in a new block of cells. -/
theorem Rel.alloc {cx : Cx} {β : Nat → Option (Option Nat)} {h : Nat → Option Ob} {w : World} (r : Rel cx β h w) (o : Nat) (ob : Ob) (c : Array Value) (el : TypeId) (ho : h o = none)
    (hob : (envOf cx.Xo β h w).Le (envOf cx.Xo (put β o (some (some w.heap.size))) (put h o (some ob)) (w.alloc (.cells c el))) →
      ob.rep (envOf cx.Xo (put β o (some (some w.heap.size))) (put h o (some ob)) (w.alloc (.cells c el))) (w.alloc (.cells c el)) (some w.heap.size)) :
    Rel cx (put β o (some (some w.heap.size))) (put h o (some ob)) (w.alloc (.cells c el)) ∧
      (envOf cx.Xo β h w).Le (envOf cx.Xo (put β o (some (some w.heap.size))) (put h o (some ob)) (w.alloc (.cells c el))) :=
  r.allocX o ob _ ho hob
/-- A new object that is a nil slice. -/
theorem Rel.nilX {cx : Cx} {β : Nat → Option (Option Nat)} {h : Nat → Option Ob} {w : World} (r : Rel cx β h w) (o : Nat) (ob : Ob) (ho : h o = none) (hn : ∀ E, ob.rep E w none) :
    Rel cx (put β o (some none)) (put h o (some ob)) w ∧ (envOf cx.Xo β h w).Le (envOf cx.Xo (put β o (some none)) (put h o (some ob)) w) := by
  have hβ : β o = none := by
    have := r.dom o
    rw [ho] at this
    simpa using this
  refine r.step (Ev.refl _ _) (fun k => ?_) (fun k x hk => ?_) (fun k b hb => ?_) (fun k k' b hb hb' => ?_) (fun b i hX => ?_) (fun k x bo h1 h2 => ?_)
  · by_cases hk : k = o
    · simp [put, hk]
    · simp [put, hk, r.dom k]
  · have hne : k ≠ o := fun e => by rw [e, ho] at hk; cases hk
    exact ⟨x, by rw [put_ne _ _ hne, hk], by rw [put_ne _ _ hne]; exact Ob.grow_refl _ _⟩
  · by_cases hk : k = o
    · subst hk; simp at hb
    · rw [put_ne _ _ hk] at hb; exact .inl hb
  · by_cases hk : k = o <;> by_cases hk' : k' = o
    · rw [hk, hk']
    · subst hk; simp at hb
    · subst hk'; simp at hb'
    · rw [put_ne _ _ hk] at hb; rw [put_ne _ _ hk'] at hb'; exact r.inj k k' b hb hb'
  · obtain ⟨k, x, h1, h2, h3⟩ := hX
    by_cases hk : k = o
    · subst hk; simp at h2
    · rw [put_ne _ _ hk] at h1 h2; exact .inl ⟨k, x, h1, h2, h3⟩
  · by_cases hk : k = o
    · subst hk
      simp at h1 h2
      subst h1 h2
      exact .inr fun _ => hn _
    · rw [put_ne _ _ hk] at h1 h2
      exact .inl ⟨h1, h2, fun _ _ => rfl⟩
theorem Rel.nil {cx : Cx} {β : Nat → Option (Option Nat)} {h : Nat → Option Ob} {w : World} (r : Rel cx β h w) (o e wd : Nat) (ho : h o = none) :
    Rel cx (put β o (some none)) (put h o (some (.vec e wd [] 0))) w ∧ (envOf cx.Xo β h w).Le (envOf cx.Xo (put β o (some none)) (put h o (some (.vec e wd [] 0))) w) :=
  r.nilX o _ ho fun _ => by simp [Ob.rep]
/-- An object turns in its own block: the cells that it keeps to itself may be written. -/
theorem Rel.write {cx : Cx} {β : Nat → Option (Option Nat)} {h : Nat → Option Ob} {w w' : World} (r : Rel cx β h w) (o b : Nat) (ob ob' : Ob) (ho : h o = some ob) (hb : β o = some (some b))
    (hev : Ev (fun k i => k = b ∧ ob.excl i) w w') (hgrow : Ob.grow (β o) (β o) ob ob') (hx : ∀ i, ob'.excl i → ob.excl i)
    (hrest : ∀ k, k ≠ b → k < w.heap.size → w'.heap[k]? = w.heap[k]?)
    (hob : (envOf cx.Xo β h w).Le (envOf cx.Xo β (put h o (some ob')) w') → ob'.rep (envOf cx.Xo β (put h o (some ob')) w') w' (some b)) :
    Rel cx β (put h o (some ob')) w' ∧ (envOf cx.Xo β h w).Le (envOf cx.Xo β (put h o (some ob')) w') := by
  refine r.step (hev.mono fun k i _ hk => ⟨o, ob, ho, hk.1 ▸ hb, hk.2⟩) (fun k => ?_) (fun k x hk => ?_) (fun _ _ h => .inl h) r.inj (fun k i hX => ?_) (fun k x bo h1 h2 => ?_)
  · by_cases hk : k = o
    · subst hk; simp [hb]
    · rw [put_ne _ _ hk, r.dom k]
  · by_cases hk' : k = o
    · subst hk'
      rw [ho] at hk
      cases hk
      exact ⟨ob', by simp, hgrow⟩
    · exact ⟨x, by rw [put_ne _ _ hk', hk], Ob.grow_refl _ _⟩
  · obtain ⟨k', x, h1, h2, h3⟩ := hX
    by_cases hk : k' = o
    · subst hk
      simp at h1
      subst h1
      exact .inl ⟨k', ob, ho, h2, hx i h3⟩
    · rw [put_ne _ _ hk] at h1; exact .inl ⟨k', x, h1, h2, h3⟩
  · by_cases hk : k = o
    · subst hk
      simp at h1
      subst h1
      rw [hb] at h2
      cases h2
      exact .inr hob
    · rw [put_ne _ _ hk] at h1
      refine .inl ⟨h1, h2, fun k' hk' => hrest k' (fun e => hk ?_) (r.lt (hk' ▸ h2))⟩
      subst e
      exact r.inj k o k' (hk' ▸ h2) hb
/-- An object moves to a new block. -/
theorem Rel.move {cx : Cx} {β : Nat → Option (Option Nat)} {h : Nat → Option Ob} {w : World} (r : Rel cx β h w) (o : Nat) (ob ob' : Ob) (c : Array Value) (el : TypeId) (ho : h o = some ob)
    (hgrow : Ob.grow (β o) (some (some w.heap.size)) ob ob')
    (hob : (envOf cx.Xo β h w).Le (envOf cx.Xo (put β o (some (some w.heap.size))) (put h o (some ob')) (w.alloc (.cells c el))) →
      ob'.rep (envOf cx.Xo (put β o (some (some w.heap.size))) (put h o (some ob')) (w.alloc (.cells c el))) (w.alloc (.cells c el)) (some w.heap.size)) :
    Rel cx (put β o (some (some w.heap.size))) (put h o (some ob')) (w.alloc (.cells c el)) ∧
      (envOf cx.Xo β h w).Le (envOf cx.Xo (put β o (some (some w.heap.size))) (put h o (some ob')) (w.alloc (.cells c el))) := by
  refine r.step (Ev.alloc _ _ _) (fun k => ?_) (fun k x hk => ?_) (fun k b hb => ?_) (fun k k' b hb hb' => ?_) (fun b i hX => ?_) (fun k x bo h1 h2 => ?_)
  · by_cases hk : k = o
    · simp [put, hk]
    · simp [put, hk, r.dom k]
  · by_cases hk' : k = o
    · subst hk'
      rw [ho] at hk
      cases hk
      exact ⟨ob', by simp, by simpa using hgrow⟩
    · exact ⟨x, by rw [put_ne _ _ hk', hk], by rw [put_ne _ _ hk']; exact Ob.grow_refl _ _⟩
  · by_cases hk : k = o
    · subst hk; simp at hb; exact .inr (by omega)
    · rw [put_ne _ _ hk] at hb; exact .inl hb
  · by_cases hk : k = o <;> by_cases hk' : k' = o
    · rw [hk, hk']
    · subst hk; rw [put_ne _ _ hk'] at hb'; simp at hb; have := r.lt hb'; omega
    · subst hk'; rw [put_ne _ _ hk] at hb; simp at hb'; have := r.lt hb; omega
    · rw [put_ne _ _ hk] at hb; rw [put_ne _ _ hk'] at hb'; exact r.inj k k' b hb hb'
  · obtain ⟨k, x, h1, h2, h3⟩ := hX
    by_cases hk : k = o
    · subst hk; simp at h2; exact .inr (by omega)
    · rw [put_ne _ _ hk] at h1 h2; exact .inl ⟨k, x, h1, h2, h3⟩
  · by_cases hk : k = o
    · subst hk
      simp at h1 h2
      subst h1 h2
      exact .inr hob
    · rw [put_ne _ _ hk] at h1 h2
      exact .inl ⟨h1, h2, fun b hb => RowKit.Below.heap_alloc w _ b (r.lt (hb ▸ h2))⟩
end Go.Am
namespace Go.Am
variable [T : Tab]
inductive TK where
  | bool | int (k : IntKind) | string | slice (e : Nat) | array (n e : Nat) | struct (fs : List (Nat × Nat)) | pointer (e : Nat) | map (k e : Nat) | func | other
/-- What is known of a type: its kind, its size in cells and in bytes, the cells of its zero value; of each cell the width of the elements, where it is a slice; flat: a struct whose values may be compared field by field. -/
structure TI where
  k : TK
  size : Nat
  bytes : Nat
  zero : List Value
  cw : List Nat
  flat : Bool
def TK.ok : TK → Option TypeDesc → Prop
  | .bool, d => d = some .bool
  | .int k, d => d = some (.int k)
  | .string, d => d = some .string
  | .slice e, d => d = some (.slice e)
  | .array n e, d => d = some (.array n e)
  | .struct fs, d => ∃ fields : Array Field, d = some (.struct fields) ∧ fields.toList.map (fun f => (f.type, f.offset)) = fs
  | .pointer e, d => d = some (.pointer e)
  | .map k e, d => d = some (.map k e)
  | .func, d => ∃ a b c, d = some (.func a b c)
  | .other, _ => False
def TI.isAgg (t : TI) : Bool := match t.k with | .array _ _ | .struct _ => true | _ => false
structure TOk (P : Program) (t : Nat) (ti : TI) : Prop where
  info : ∃ i, P.info? t = some i ∧ i.size = ti.size ∧ i.bytes = ti.bytes ∧ ∃ z, i.zero = some z ∧ z.cells = ti.zero.toArray
  len : ti.zero.length = ti.size
  one : ∀ v ∈ ti.zero, one v = true
  desc : ti.k.ok (P.underlying t)
  flat : ti.flat = true → P.stoodInHeld t = false ∧ P.eqGuardType P.depth t = false ∧ ∀ fs : Array Field, P.underlying t = some (.struct fs) → ∀ f ∈ fs.toList, f.name ≠ "_"
  zero1 : ti.isAgg = false → ∀ z, ti.zero = [z] → ∃ i, P.info? t = some i ∧ i.zero = some z
abbrev Types := Nat → Option TI
def Types.ok (P : Program) (tt : Types) : Prop := ∀ t ti, tt t = some ti → TOk P t ti
structure Eff where
  side : Prop
  res : A
  upd : List (Nat × Ob)
  rd : List Nat
def upds (h : Nat → Option Ob) : List (Nat × Ob) → Nat → Option Ob
  | [] => h
  | (o, ob) :: l => upds (put h o (some ob)) l
def ofConst1 : Value → A
  | .slice none 0 0 => .snil
  | v => .d (.lit v)
def ofConst : Value → A
  | .agg cs => if cs.toList.all one then .agg (cs.toList.map ofConst1) else .any
  | .tuple _ => .any
  | v => ofConst1 v
theorem ofConst1_rep (E : Env) {v : Value} (h : one v = true) : (ofConst1 v).rep E v := by
  unfold ofConst1
  split
  · simp [A.rep]
  · simp [A.rep, D.rep, h]
theorem repL_ofConst1 (E : Env) : ∀ (vs : List Value), (∀ v ∈ vs, one v = true) → repL E (vs.map ofConst1) vs
  | [], _ => by simp [repL]
  | v :: vs, h => by
    simp only [List.map_cons, repL]
    exact ⟨v, vs, rfl, ofConst1_rep E (h v (by simp)), repL_ofConst1 E vs fun u hu => h u (by simp [hu])⟩
theorem ofConst_rep (E : Env) (v : Value) : (ofConst v).rep E v := by
  unfold ofConst
  split
  · rename_i cs
    split
    · rename_i ha
      simp only [A.rep]
      have ha' : ∀ u ∈ cs.toList, one u = true := List.all_eq_true.1 ha
      exact ⟨cs.toList, by simp, repL_ofConst1 E _ ha', ha'⟩
    · simp [A.rep]
  · simp [A.rep]
  · rename_i h1 h2
    refine ofConst1_rep E ?_
    cases v <;> first | rfl | exact absurd rfl (h1 _) | exact absurd rfl (h2 _)
def A.cells : A → List A
  | .agg cs => cs
  | v => [v]
def A.isOne : A → Bool
  | .any | .agg _ | .tup _ => false
  | _ => true
theorem A.one_of {E : Env} {a : A} {v : Value} (hn : a.isOne = true) (h : a.rep E v) : one v = true := by
  cases a with
  | any => simp [A.isOne] at hn
  | d x => simp only [A.rep] at h; exact D.one_of h
  | snil => simp only [A.rep] at h; subst h; rfl
  | ptr o off => simp only [A.rep] at h; obtain ⟨b, cs, _, _, rfl⟩ := h; rfl
  | vec o n => simp only [A.rep] at h; obtain ⟨_, _, _, _, _, _, h1, _⟩ := h; exact h1
  | vptr o n i off => simp only [A.rep] at h; obtain ⟨_, _, _, _, _, _, h1, _⟩ := h; exact h1
  | csl wd rows => simp only [A.rep] at h; obtain ⟨a, rfl, _⟩ := h; rfl
  | clo f caps => simp only [A.rep] at h; obtain ⟨vs, rfl, _⟩ := h; rfl
  | agg cs => simp [A.isOne] at hn
  | tup vs => simp [A.isOne] at hn
  | mp o => simp only [A.rep] at h; obtain ⟨b, es, _, _, _, rfl⟩ := h; rfl
  | vs o n => simp only [A.rep] at h; obtain ⟨b, cs, _, _, rfl⟩ := h; rfl
  | bx => simp only [A.rep] at h; obtain ⟨b, rfl⟩ := h; rfl
  | itr o => simp only [A.rep] at h; obtain ⟨b, s, p, _, _, rfl⟩ := h; rfl
  | sub o m k n => simp only [A.rep] at h; obtain ⟨_, _, _, _, _, _, h1, _⟩ := h; exact h1
  | xo y o => simp only [A.rep] at h; obtain ⟨_, _, _, _, _, rfl⟩ := h; exact one_xval y _
  | g o n i => simp only [A.rep] at h; obtain ⟨_, _, _, _, h1, _⟩ := h; exact h1
theorem cells_rep {E : Env} {a : A} {v : Value} (h : a.rep E v) (hn : a.isOne = true ∨ ∃ cs, a = .agg cs) : repL E a.cells v.cells.toList ∧ ∀ u ∈ v.cells.toList, Am.one u = true := by
  rcases hn with hn | ⟨cs, rfl⟩
  · have h1 := A.one_of hn h
    have hc : a.cells = [a] := by cases a <;> simp_all [A.cells, A.isOne]
    have hv : v.cells = #[v] := by cases v <;> simp_all [Value.cells, Am.one]
    rw [hc, hv]
    exact ⟨by simp [repL, h], by simp [h1]⟩
  · simp only [A.rep] at h
    obtain ⟨vs, rfl, h1, h2⟩ := h
    simpa [A.cells, Value.cells] using ⟨h1, h2⟩
/-- That an operation of the model is as eff says. -/
def Sound (P : Program) (cx : Cx) (β : Nat → Option (Option Nat)) (h : Nat → Option Ob) (w : World) (s : Sem Next) (e : Eff) : Prop :=
  ∃ β' w' nx r, s.run P w = .ok nx w' ∧ (nx = .value r ∨ nx = .skip ∧ r = undef) ∧ Rel cx β' (upds h e.upd) w' ∧
    (envOf cx.Xo β h w).Le (envOf cx.Xo β' (upds h e.upd) w') ∧ e.res.rep (envOf cx.Xo β' (upds h e.upd) w') r
section
variable {P : Program} {cx : Cx} {β : Nat → Option (Option Nat)} {h : Nat → Option Ob} {w : World}
theorem Sound.pure {s : Sem Next} {e : Eff} {r : Value} (rel : Rel cx β h w) (hs : s.run P w = .ok (.value r) w) (hu : e.upd = []) (hr : e.res.rep (envOf cx.Xo β h w) r) : Sound P cx β h w s e :=
  ⟨β, w, _, r, hs, .inl rfl, by rw [hu]; exact rel, by rw [hu]; exact Env.Le.refl _, by rw [hu]; exact hr⟩
theorem Types.size {tt : Types} (T : tt.ok P) {t : Nat} {ti : TI} (ht : tt t = some ti) (w : World) : (sizeOf t).run P w = .ok ti.size w := by
  obtain ⟨i, h1, h2, _⟩ := (T t ti ht).info
  simp [sizeOf, typeInfo, h1, h2]
theorem TK.ok_some {k : TK} {d : Option TypeDesc} (h : k.ok d) : ∃ x, d = some x := by
  cases k <;> simp only [TK.ok] at h
  case struct fs => obtain ⟨f, h, _⟩ := h; exact ⟨_, h⟩
  case func => obtain ⟨a, b, c, h⟩ := h; exact ⟨_, h⟩
  all_goals first | exact ⟨_, h⟩ | exact h.elim
theorem Types.isAgg {tt : Types} (T : tt.ok P) {t : Nat} {ti : TI} (ht : tt t = some ti) (w : World) : (Go.isAgg t).run P w = .ok ti.isAgg w := by
  have hd := (T t ti ht).desc
  unfold TI.isAgg Go.isAgg
  cases hk : ti.k <;> rw [hk] at hd <;> simp only [TK.ok] at hd
  case struct fs => obtain ⟨f, hd, _⟩ := hd; simp [underlying, hd]
  case func => obtain ⟨a, b, c, hd⟩ := hd; simp [underlying, hd]
  all_goals first | exact hd.elim | simp [underlying, hd]
theorem Types.zero {tt : Types} (T : tt.ok P) {t : Nat} {ti : TI} (ht : tt t = some ti) (w : World) : ∃ z, (zeroValue t).run P w = .ok z w ∧ z.cells = ti.zero.toArray := by
  obtain ⟨i, h1, _, _, z, h2, h3⟩ := (T t ti ht).info
  exact ⟨z, by simp [zeroValue, typeInfo, h1, h2], h3⟩
theorem add_plain (b k j : Nat) : (⟨b, k, none⟩ : Addr).add j = ⟨b, k + j, none⟩ := by unfold Addr.add; split <;> simp_all
/-- Cells that lie behind one another, loaded as a value of a type. -/
def loadA (tt : Types) (t : Nat) (cs : List A) (off : Nat) : Option (Prop × A) :=
  match tt t with
  | some ti => if ti.isAgg then some (off + ti.size ≤ cs.length, .agg ((cs.drop off).take ti.size)) else (cs[off]?).map fun a => (True, a)
  | none => none
theorem load_run {tt : Types} (T : tt.ok P) {t : Nat} {cs : List A} {off : Nat} {p : Prop} {a : A} (hl : loadA tt t cs off = some (p, a)) (hp : p) (b k : Nat) {E : Env} (vs : List Value)
    (hc : ∀ j v, vs[j]? = some v → w.cell? ⟨b, k + j, none⟩ = some v) (hr : repL E cs vs) (h1 : ∀ v ∈ vs, one v = true) :
    ∃ r, (loadVar t ⟨b, k + off, none⟩).run P w = .ok r w ∧ a.rep E r := by
  unfold loadA at hl
  cases ht : tt t with
  | none => simp [ht] at hl
  | some ti =>
    simp only [ht] at hl
    have hag := Types.isAgg T ht w
    by_cases hi : ti.isAgg = true
    · simp only [hi, if_true, Option.some.injEq, Prod.mk.injEq] at hl
      obtain ⟨rfl, rfl⟩ := hl
      have hlen := repL_length cs vs hr
      have hsz := Types.size T ht w
      have hload : (loadCells ⟨b, k + off, none⟩ ti.size).run P w = .ok ((vs.drop off).take ti.size).toArray w := by
        have := run_loadCells_list (P := P) w ⟨b, k + off, none⟩ ((vs.drop off).take ti.size) (fun j v hj => by
          rw [add_plain]
          rw [List.getElem?_take] at hj
          split at hj
          · rw [List.getElem?_drop] at hj
            have := hc _ v hj
            rwa [← Nat.add_assoc] at this
          · cases hj)
        rwa [show ((vs.drop off).take ti.size).length = ti.size from by simp; omega] at this
      refine ⟨.agg ((vs.drop off).take ti.size).toArray, ?_, ?_⟩
      · simp only [loadVar, Sem.run_bind, hag, hi, Result.andThen_ok, if_true, hsz, hload, Sem.run_pure]
      · simp only [A.rep]
        exact ⟨_, rfl, repL_take _ _ _ (repL_drop _ _ _ hr), fun u hu => h1 u (List.mem_of_mem_drop (List.mem_of_mem_take hu))⟩
    · simp only [hi] at hl
      cases hg : cs[off]? with
      | none => simp [hg] at hl
      | some x =>
        simp [hg] at hl
        obtain ⟨_, rfl⟩ := hl
        obtain ⟨v, hv, hx⟩ := repL_get cs vs off x hr hg
        refine ⟨v, ?_, hx⟩
        have hi' : ti.isAgg = false := by simpa using hi
        simp only [loadVar, Sem.run_bind, hag, hi', Result.andThen_ok, Bool.false_eq_true, if_false, run_load, hc off v hv]
theorem repL_map_d {cx : Cx} {β : Nat → Option (Option Nat)} {h : Nat → Option Ob} {w : World} {C : Nat → Value → Prop} : ∀ (row : List D) (k : Nat), rowAt (envOf cx.Xo β h w).R C k row →
    ∃ vs, repL (envOf cx.Xo β h w) (row.map .d) vs ∧ (∀ j v, vs[j]? = some v → C (k + j) v) ∧ ∀ v ∈ vs, one v = true
  | [], k, _ => ⟨[], by simp [repL]⟩
  | x :: xs, k, hr => by
    simp only [rowAt] at hr
    obtain ⟨⟨v, h1, h2⟩, h3⟩ := hr
    obtain ⟨vs, h4, h5, h6⟩ := repL_map_d xs (k + 1) h3
    refine ⟨v :: vs, ?_, fun j u hj => ?_, fun u hu => ?_⟩
    · simp only [List.map_cons, repL]
      exact ⟨v, vs, rfl, by simpa [A.rep] using h2, h4⟩
    · cases j with
      | zero => simp at hj; subst hj; exact h1
      | succ j => have := h5 j u (by simpa using hj); rwa [show k + 1 + j = k + (j + 1) from by omega] at this
    · rcases List.mem_cons.1 hu with rfl | hu
      · exact D.one_of h2
      · exact h6 u hu
def effLoad (tt : Types) (t : Nat) (h : Nat → Option Ob) : A → Option Eff
  | .ptr o off => match h o with
    | some (.var cs) => match loadA tt t cs off with
      | some (p, a) => some ⟨p, a, [], [o]⟩
      | none => none
    | _ => none
  | .d (.ptr row off) => match loadA tt t (row.map .d) off with
    | some (p, a) => some ⟨p, a, [], []⟩
    | none => none
  | .vptr o n i off => match h o with
    | some (.vec _ _ rows _) => match loadA tt t ((rows.getD i []).map .d) off with
      | some (p, a) => some ⟨p ∧ n = rows.length ∧ i < rows.length, a, [], [o]⟩
      | none => none
    | _ => none
  | .g o n (some i) => match h o with
    | some (.gv _ cs) => match loadA tt t cs i with
      | some (p, a) => some ⟨p ∧ n = cs.length, a, [], [o]⟩
      | none => none
    | _ => none
  | _ => none
theorem g_live {o n e : Nat} {cs : List A} {i : Option Nat} {v : Value} (ho : h o = some (.gv e cs)) (hn : n = cs.length) (hv : (A.g o n i).rep (envOf cx.Xo β h w) v) : gRep (β o) (envOf cx.Xo β h w).sz n i v := by
  simp only [A.rep] at hv
  obtain ⟨e', cs', ho', _, _, hv⟩ := hv
  have ho2 : some (Ob.gv e cs) = some (Ob.gv e' cs') := ho.symm.trans ho'
  cases ho2
  exact hv hn
theorem effLoad_ok {tt : Types} (T : tt.ok P) {t : Nat} {a : A} {e : Eff} {v : Value} (rel : Rel cx β h w) (he : effLoad tt t h a = some e) (hs : e.side) (hv : a.rep (envOf cx.Xo β h w) v) :
    Sound P cx β h w (do pure (.value (← Instr.loadAt t v))) e := by
  unfold effLoad at he
  split at he
  · rename_i o off
    split at he
    · rename_i cs ho
      split at he
      · rename_i p x hl
        cases he
        simp only [A.rep] at hv
        obtain ⟨b, _, hb, _, rfl⟩ := hv
        obtain ⟨b', c, el, h1, h2, h3, h4⟩ := rel.obj o _ _ ho hb
        cases h1
        obtain ⟨r, hr, hx⟩ := load_run (w := w) T hl hs b 0 c.toList (fun j v hj => by simp only [World.cell?, h2]; simpa using hj) h3 h4
        rw [Nat.zero_add] at hr
        exact .pure rel (by simp [Instr.loadAt, Instr.sureAddr, hr]) rfl hx
      · cases he
    · cases he
  · rename_i row off
    split at he
    · rename_i p x hl
      cases he
      simp only [A.rep, D.rep] at hv
      obtain ⟨b, k, rfl, hr⟩ := hv
      obtain ⟨vs, h1, h2, h3⟩ := repL_map_d row k hr
      obtain ⟨r, hr, hx⟩ := load_run (w := w) T hl hs b k vs (fun j v hj => (h2 j v hj).2.2) h1 h3
      exact .pure rel (by simp [Instr.loadAt, Instr.sureAddr, hr]) rfl hx
    · cases he
  · rename_i o n i off
    split at he
    · rename_i el wd rows fz ho
      split at he
      · rename_i p x hl
        cases he
        obtain ⟨hp, hn, hi⟩ := hs
        simp only [A.rep] at hv
        obtain ⟨el', wd', rows', fz', ho', _, _, hv⟩ := hv
        have ho2 : some (Ob.vec el wd rows fz) = some (Ob.vec el' wd' rows' fz') := ho.symm.trans ho'
        cases ho2
        obtain ⟨b, hb, rfl⟩ := hv hn
        obtain ⟨_, h2, h3⟩ := rel.obj o _ _ ho hb
        rcases h3 with ⟨h3, _⟩ | ⟨b', c, h3, h4, h5, h6⟩
        · cases h3
        · cases h3
          have hrow := (rowsAt_get rows 0 i hi h5).2
          obtain ⟨vs, g1, g2, g3⟩ := repL_map_d _ _ hrow
          obtain ⟨r, hr, hx⟩ := load_run (w := w) T hl hp b (i * wd) vs (fun j v hj => by
            have := g2 j v hj
            simp only [World.cell?, h4]
            simpa using this) g1 g3
          exact .pure rel (by simp [Instr.loadAt, Instr.sureAddr, hr]) rfl hx
      · cases he
    · cases he
  · rename_i o n i
    split at he
    · rename_i el cs ho
      split at he
      · rename_i p x hl
        cases he
        obtain ⟨hp, hn⟩ := hs
        obtain ⟨b, hb, rfl⟩ := g_live ho hn hv
        rcases rel.obj o _ _ ho hb with ⟨h3, _⟩ | ⟨b', c, vs, tl, h1, h2, h3, h4, h5⟩
        · cases h3
        · cases h1
          obtain ⟨r, hr, hx⟩ := load_run (w := w) T hl hp b 0 vs (fun j v hj => by
            simp only [World.cell?, h2]
            have : c.toList[j]? = some v := by rw [h3, List.getElem?_append_left (List.getElem?_eq_some_iff.1 hj).1]; exact hj
            simpa using this) h4 h5
          rw [Nat.zero_add] at hr
          exact .pure rel (by simp [Instr.loadAt, Instr.sureAddr, hr]) rfl hx
      · cases he
    · cases he
  · cases he
end
end Go.Am
namespace Go.Am
variable [T : Tab]
section
variable {P : Program} {cx : Cx} {β : Nat → Option (Option Nat)} {h : Nat → Option Ob} {w : World}
theorem Sound.skip {s : Sem Next} {e : Eff} {β' : Nat → Option (Option Nat)} {w' : World} (hs : s.run P w = .ok .skip w') (hr : e.res = .any) (rel : Rel cx β' (upds h e.upd) w')
    (L : (envOf cx.Xo β h w).Le (envOf cx.Xo β' (upds h e.upd) w')) : Sound P cx β h w s e :=
  ⟨β', w', _, undef, hs, .inr ⟨rfl, rfl⟩, rel, L, by rw [hr]; simp [A.rep]⟩
/-- What lies in the block of an object, read as data when the object's first rows are shut. -/
theorem vec_rep {o b e wd : Nat} {rows : List (List D)} {fz cap : Nat} (rel : Rel cx β h w) (ho : h o = some (.vec e wd rows fz)) (hf : fz = rows.length) (hb : β o = some (some b)) (hcap : rows.length ≤ cap) :
    (D.sl wd rows).rep (envOf cx.Xo β h w).R (.slice (some ⟨b, 0, none⟩) rows.length cap) := by
  obtain ⟨_, h2, h3⟩ := rel.obj o _ _ ho hb
  rcases h3 with ⟨h3, _⟩ | ⟨b', c, h3, h4, h5, h6⟩
  · cases h3
  · cases h3
    simp only [D.rep]
    refine ⟨_, cap, rfl, hcap, by simp, fun a ha => ?_⟩
    cases ha
    refine ⟨fun _ => rfl, rowsAt_congr rows 0 (fun i v _ hi hc => ⟨rel.out o b i hb, fun hX => ?_, by simp only [World.cell?, h4]; simpa using hc⟩) h5⟩
    obtain ⟨o', ob, h7, h8, h9⟩ := hX
    have := rel.inj o' o b h8 hb
    subst this
    rw [ho] at h7
    cases h7
    simp only [Ob.excl, hf] at h9
    omega
/-- The rows of an object are shut: others may read them from now on. -/
theorem Rel.shut {o e wd : Nat} {rows : List (List D)} {fz : Nat} (rel : Rel cx β h w) (ho : h o = some (.vec e wd rows fz)) :
    Rel cx β (put h o (some (.vec e wd rows rows.length))) w ∧ (envOf cx.Xo β h w).Le (envOf cx.Xo β (put h o (some (.vec e wd rows rows.length))) w) := by
  refine rel.step (Ev.refl _ _) (fun k => ?_) (fun k x hk => ?_) (fun _ _ h => .inl h) rel.inj (fun b i hX => ?_) (fun k x bo h1 h2 => ?_)
  · by_cases hk : k = o
    · subst hk; rw [rel.dom k, ho]; simp
    · rw [put_ne _ _ hk, rel.dom k]
  · by_cases hk' : k = o
    · subst hk'
      rw [ho] at hk
      cases hk
      exact ⟨_, by simp; rfl, by simp [Ob.grow]⟩
    · exact ⟨x, by rw [put_ne _ _ hk', hk], Ob.grow_refl _ _⟩
  · obtain ⟨k, x, h1, h2, h3⟩ := hX
    by_cases hk : k = o
    · subst hk
      simp at h1
      subst h1
      refine .inl ⟨k, _, ho, h2, ?_⟩
      have hfz : fz ≤ rows.length := by
        have hd := rel.dom k
        rw [ho, h2] at hd
        exact (rel.obj k _ _ ho h2).1
      simp only [Ob.excl] at h3 ⊢
      exact Nat.le_trans (Nat.mul_le_mul_right _ hfz) h3
    · rw [put_ne _ _ hk] at h1; exact .inl ⟨k, x, h1, h2, h3⟩
  · by_cases hk : k = o
    · subst hk
      simp at h1
      subst h1
      refine .inr fun L => ?_
      have := Ob.rep_le (w' := w) L (fun _ _ => rfl) (rel.obj k _ _ ho h2)
      simp only [Ob.rep] at this ⊢
      exact ⟨Nat.le_refl _, this.2⟩
    · rw [put_ne _ _ hk] at h1
      exact .inl ⟨h1, h2, fun _ _ => rfl⟩
structure Frz where
  x : D
  upd : List (Nat × Ob)
  rd : List Nat
  side : Prop
/-- A cell's value as data: slices of the frame's own are shut. wd: the width of its elements, if it is a nil slice. -/
def frz (h : Nat → Option Ob) (wd : Nat) : A → Option Frz
  | .d x => some ⟨x, [], [], True⟩
  | .snil => some ⟨.sl wd [], [], [], True⟩
  | .csl w rows => some ⟨.sl w rows, [], [], True⟩
  | .vec o n => match h o with
    | some (.vec e w rows _) => some ⟨.sl w rows, [(o, .vec e w rows rows.length)], [o], n = rows.length⟩
    | _ => none
  | _ => none
theorem csl_rep {R : Rd} {a : Option Addr} {wd : Nat} {rows : List (List D)} (h1 : a = none → rows = []) (h2 : ∀ a', a = some a' → (rows ≠ [] → a'.spot = none) ∧ rowsAt R (R a'.block) wd a'.off rows) :
    (D.sl wd rows).rep R (.slice a rows.length rows.length) := by
  simp only [D.rep]
  exact ⟨a, _, rfl, Nat.le_refl _, fun ha => ⟨h1 ha, by simp [h1 ha]⟩, h2⟩
theorem nil_rep (R : Rd) (wd : Nat) : (D.sl wd []).rep R (.slice none 0 0) := by
  simp only [D.rep]
  exact ⟨none, 0, rfl, Nat.le_refl _, fun _ => ⟨trivial, rfl⟩, fun a ha => by cases ha⟩
theorem frz_ok {wd : Nat} {a : A} {f : Frz} {v : Value} (rel : Rel cx β h w) (hf : frz h wd a = some f) (hs : f.side) (hv : a.rep (envOf cx.Xo β h w) v) :
    Rel cx β (upds h f.upd) w ∧ (envOf cx.Xo β h w).Le (envOf cx.Xo β (upds h f.upd) w) ∧ f.x.rep (envOf cx.Xo β (upds h f.upd) w).R v := by
  unfold frz at hf
  split at hf
  · cases hf; exact ⟨rel, Env.Le.refl _, by simpa [A.rep, upds] using hv⟩
  · cases hf
    refine ⟨rel, Env.Le.refl _, ?_⟩
    simp only [A.rep] at hv
    subst hv
    exact nil_rep _ _
  · cases hf
    refine ⟨rel, Env.Le.refl _, ?_⟩
    simp only [A.rep] at hv
    obtain ⟨a, rfl, h1, h2⟩ := hv
    exact csl_rep h1 h2
  · rename_i o n
    split at hf
    · rename_i e wd' rows fz ho
      cases hf
      obtain ⟨h1, h2⟩ := rel.shut ho
      refine ⟨h1, h2, ?_⟩
      simp only [A.rep] at hv
      obtain ⟨e', wd'', rows', fz', ho', _, _, hv⟩ := hv
      have ho2 : some (Ob.vec e wd' rows fz) = some (Ob.vec e' wd'' rows' fz') := ho.symm.trans ho'
      cases ho2
      rcases hv hs with ⟨hb, rfl⟩ | ⟨b, cap, hb, rfl, hcap, _, _⟩
      · have hd := rel.obj o _ _ ho hb
        simp only [Ob.rep] at hd
        obtain ⟨_, _, hd | ⟨_, _, hd, _⟩⟩ := hd
        · rw [hd.2]
          exact nil_rep _ _
        · cases hd
      · simp only [] at hs
        rw [hs] at hcap ⊢
        exact vec_rep h1 (put_same _ _ _) rfl hb hcap
    · cases hf
  · cases hf
structure FrzL where
  xs : List D
  upd : List (Nat × Ob)
  rd : List Nat
  side : Prop
def frzL (h : Nat → Option Ob) : List Nat → List A → Option FrzL
  | _, [] => some ⟨[], [], [], True⟩
  | ws, a :: as => match frz h (ws.headD 0) a with
    | some f => match frzL (upds h f.upd) ws.tail as with
      | some g => some ⟨f.x :: g.xs, f.upd ++ g.upd, f.rd ++ g.rd, f.side ∧ g.side⟩
      | none => none
    | none => none
theorem upds_append (h : Nat → Option Ob) : ∀ (l m : List (Nat × Ob)), upds h (l ++ m) = upds (upds h l) m
  | [], m => rfl
  | (o, ob) :: l, m => by simp [upds, upds_append (put h o (some ob)) l m]
def repDL (R : Rd) : List D → List Value → Prop
  | [], vs => vs = []
  | x :: xs, vs => ∃ u us, vs = u :: us ∧ x.rep R u ∧ repDL R xs us
theorem repDL_mono {R R' : Rd} (hR : ∀ b i v, R b i v → R' b i v) : ∀ (xs : List D) (vs : List Value), repDL R xs vs → repDL R' xs vs
  | [], _, h => h
  | x :: xs, vs, h => by
    obtain ⟨u, us, rfl, h1, h2⟩ := h
    exact ⟨u, us, rfl, D.rep_mono hR x u h1, repDL_mono hR xs us h2⟩
theorem repDL_length {R : Rd} : ∀ (xs : List D) (vs : List Value), repDL R xs vs → vs.length = xs.length
  | [], vs, h => by simp only [repDL] at h; simp [h]
  | x :: xs, vs, h => by
    obtain ⟨u, us, rfl, _, h2⟩ := h
    simp [repDL_length xs us h2]
theorem repDL_rowAt {R : Rd} {C : Nat → Value → Prop} : ∀ (xs : List D) (vs : List Value) (k : Nat), repDL R xs vs → (∀ j v, vs[j]? = some v → C (k + j) v) → rowAt R C k xs
  | [], _, _, _, _ => by simp [rowAt]
  | x :: xs, vs, k, h, hc => by
    obtain ⟨u, us, rfl, h1, h2⟩ := h
    simp only [rowAt]
    refine ⟨⟨u, by simpa using hc 0 u rfl, h1⟩, repDL_rowAt xs us (k + 1) h2 fun j v hj => ?_⟩
    have := hc (j + 1) v (by simpa using hj)
    rwa [show k + (j + 1) = k + 1 + j from by omega] at this
theorem frzL_ok : ∀ (as : List A) (ws : List Nat) {h : Nat → Option Ob} {g : FrzL} {vs : List Value}, Rel cx β h w → frzL h ws as = some g → g.side → repL (envOf cx.Xo β h w) as vs →
    Rel cx β (upds h g.upd) w ∧ (envOf cx.Xo β h w).Le (envOf cx.Xo β (upds h g.upd) w) ∧ repDL (envOf cx.Xo β (upds h g.upd) w).R g.xs vs
  | [], ws, h, g, vs, rel, hg, _, hv => by
    simp only [frzL, Option.some.injEq] at hg
    subst hg
    simp only [repL] at hv
    exact ⟨rel, Env.Le.refl _, hv⟩
  | a :: as, ws, h, g, vs, rel, hg, hs, hv => by
    simp only [frzL] at hg
    split at hg
    · rename_i f hf
      split at hg
      · rename_i g' hg'
        cases hg
        simp only [repL] at hv
        obtain ⟨u, us, rfl, h1, h2⟩ := hv
        obtain ⟨r1, L1, x1⟩ := frz_ok rel hf hs.1 h1
        obtain ⟨r2, L2, x2⟩ := frzL_ok as ws.tail r1 hg' hs.2 (repL_le L1 as us h2)
        simp only [upds_append]
        exact ⟨r2, L1.trans L2, u, us, rfl, D.rep_mono L2.R _ _ x1, x2⟩
      · cases hg
    · cases hg
theorem Ev.setRow {Y : Nat → Nat → Prop} {w : World} {b : Nat} {c c' : Array Value} {el : TypeId} (hb : w.heap[b]? = some (.cells c el (0, 0))) (hs : c'.size = c.size) (hY : ∀ i, ¬ Y b i → c'[i]? = c[i]?) : Ev Y w (w.setRow b c') := by
  refine ⟨rfl, rfl, rfl, by simp, Nat.le_refl _, fun k hk => ?_⟩
  by_cases hkb : k = b
  · subst hkb
    exact .inr (.inl ⟨c, c', el, hb, setRow_heap w k c c' el (0, 0) hb, hs, hY⟩)
  · exact .inl (setRow_other w b k c' hkb)
/-- Cells of a list put in place of others. -/
def splice {α : Type} (l : List α) (off : Nat) (m : List α) : List α := l.take off ++ m ++ l.drop (off + m.length)
theorem splice_length {α : Type} (l m : List α) (off : Nat) (h : off + m.length ≤ l.length) : (splice l off m).length = l.length := by
  simp [splice]; omega
theorem splice_get_out {α : Type} (l m : List α) (off i : Nat) (h : off + m.length ≤ l.length) (hi : i < off ∨ off + m.length ≤ i) : (splice l off m)[i]? = l[i]? := by
  unfold splice
  rcases hi with hi | hi
  · rw [List.append_assoc, List.getElem?_append_left (by simp; omega), List.getElem?_take, if_pos hi]
  · rw [List.getElem?_append_right (by simp; omega), List.getElem?_drop]
    congr 1
    simp
    omega
theorem splice_get_in {α : Type} (l m : List α) (off j : Nat) (h : off + m.length ≤ l.length) (hj : j < m.length) : (splice l off m)[off + j]? = m[j]? := by
  unfold splice
  rw [List.append_assoc, List.getElem?_append_right (by simp; omega)]
  rw [show off + j - (l.take off).length = j from by simp; omega]
  rw [List.getElem?_append_left hj]
theorem repL_splice {E : Env} {as ms : List A} {vs us : List Value} {off : Nat} (h1 : repL E as vs) (h2 : repL E ms us) : repL E (splice as off ms) (splice vs off us) := by
  unfold splice
  rw [repL_length ms us h2]
  exact repL_append _ _ _ _ (repL_append _ _ _ _ (repL_take _ _ _ h1) h2) (repL_drop _ _ _ h1)
def A.storable : A → Bool
  | .agg _ => true
  | a => a.isOne
theorem A.storable_or {a : A} (h : a.storable = true) : a.isOne = true ∨ ∃ cs, a = .agg cs := by
  cases a <;> simp_all [A.storable, A.isOne]
def effStore (tt : Types) (t : Nat) (h : Nat → Option Ob) (v : A) : A → Option Eff
  | .ptr o off => match h o, tt t with
    | some (.var cs), some ti => some ⟨v.storable = true ∧ v.cells.length = ti.size ∧ off + ti.size ≤ cs.length, .any, [(o, .var (splice cs off v.cells))], [o]⟩
    | _, _ => none
  | .vptr o n i off => match tt t with
    | some ti => match frzL h ti.cw v.cells with
      | some g => match upds h g.upd o with
        | some (.vec e wd rows fz) => some ⟨v.storable = true ∧ g.side ∧ v.cells.length = ti.size ∧ n = rows.length ∧ fz ≤ i ∧ i < rows.length ∧ off + ti.size ≤ wd, .any,
            g.upd ++ [(o, .vec e wd (rows.set i (splice (rows.getD i []) off g.xs)) fz)], o :: g.rd⟩
        | _ => none
      | none => none
    | none => none
  | .g o n (some i) => match h o, tt t with
    | some (.gv e cs), some ti => some ⟨v.isOne = true ∧ ti.size = 1 ∧ n = cs.length ∧ i < cs.length, .any, [(o, .gv e (cs.set i v))], [o]⟩
    | _, _ => none
  | _ => none
theorem splice_1 {α : Type} (l : List α) (i : Nat) (a : α) (h : i < l.length) : splice l i [a] = l.set i a := by
  unfold splice
  rw [List.set_eq_take_append_cons_drop, if_pos h]
  simp
theorem A.cells_one {a : A} (h : a.isOne = true) : a.cells = [a] := by cases a <;> simp_all [A.cells, A.isOne]
theorem splice_left {α : Type} (vs tl us : List α) (i : Nat) (h : i + us.length ≤ vs.length) : splice (vs ++ tl) i us = splice vs i us ++ tl := by
  unfold splice
  rw [List.take_append_of_le_length (by omega), List.drop_append_of_le_length h]
  simp only [List.append_assoc]
theorem one_oneCell {v : Value} : v.oneCell' = one v := by cases v <;> rfl
theorem splice_zero_add {α : Type} (l m : List α) (off : Nat) : l.take (off + 0) ++ m ++ l.drop (off + 0 + m.length) = splice l off m := by simp [splice]
theorem run_storeVar {tt : Types} (T : tt.ok P) {t : Nat} {ti : TI} (ht : tt t = some ti) {b off : Nat} {c : Array Value} {el : TypeId} (hb : w.heap[b]? = some (.cells c el (0, 0))) {v : Value}
    (h1 : v.cells.toList.length = ti.size) (h2 : off + ti.size ≤ c.size) (h3 : ∀ u ∈ v.cells.toList, one u = true) :
    (storeVar t ⟨b, off, none⟩ v).run P w = .ok () (w.setRow b (splice c.toList off v.cells.toList).toArray) := by
  have hst := run_storeCells_at P b off el v.cells.toList 0 c w hb (by omega) (fun u hu => by rw [one_oneCell]; exact h3 u hu)
  rw [splice_zero_add] at hst
  have hsz : ¬ (v.cells.size ≠ ti.size) := by simpa using h1
  simp only [storeVar, Sem.run_bind, Types.size T ht w, Result.andThen_ok, hsz, if_false, hst]
theorem rowsAt_splice {R : Rd} {wd : Nat} {c : List Value} {us : List Value} {ds : List D} {off : Nat} (hd : repDL R ds us) (hw : off + us.length ≤ wd) :
    ∀ (rows : List (List D)) (k i : Nat), i < rows.length → k + rows.length * wd ≤ c.length → rowsAt R (fun j v => c[j]? = some v) wd k rows →
      rowsAt R (fun j v => (splice c (k + i * wd + off) us)[j]? = some v) wd k (rows.set i (splice (rows.getD i []) off ds))
  | [], _, i, hi, _, _ => by simp at hi
  | r :: rs, k, 0, _, hc, h => by
    simp only [rowsAt] at h
    obtain ⟨h0, h1, h2⟩ := h
    have hm : (r :: rs).length * wd = wd + rs.length * wd := by simp [Nat.add_mul, Nat.add_comm]
    rw [hm] at hc
    have hl := repDL_length ds us hd
    simp only [List.set_cons_zero, List.getD_cons_zero, rowsAt, Nat.zero_mul, Nat.add_zero]
    have hsl : (splice r off ds).length = r.length := splice_length r ds off (by omega)
    refine ⟨by rw [hsl, h0], ?_, ?_⟩
    · show rowAt R _ k (r.take off ++ ds ++ r.drop (off + ds.length))
      have hr1 : rowAt R (fun j v => c[j]? = some v) k (r.take off) := by
        have := (List.take_append_drop off r) ▸ h1
        exact ((rowAt_append _ _ _).1 this).1
      have hr2 : rowAt R (fun j v => c[j]? = some v) (k + (r.take (off + ds.length)).length) (r.drop (off + ds.length)) := by
        have := (List.take_append_drop (off + ds.length) r) ▸ h1
        exact ((rowAt_append _ _ _).1 this).2
      rw [List.length_take, Nat.min_eq_left (by omega)] at hr2
      rw [rowAt_append, rowAt_append]
      have e1 : (r.take off).length = off := by simp; omega
      refine ⟨⟨rowAt_congr _ _ (fun j v g1 g2 g3 => ?_) hr1, ?_⟩, ?_⟩
      · rw [splice_get_out _ _ _ _ (by omega) (by rw [e1] at g2; omega)]; exact g3
      · rw [e1]
        exact repDL_rowAt ds us (k + off) hd fun j v hj => by
          have hjl : j < us.length := by
            rcases Nat.lt_or_ge j us.length with g | g
            · exact g
            · simp [List.getElem?_eq_none g] at hj
          rw [splice_get_in _ _ _ _ (by omega) hjl]; exact hj
      · rw [List.length_append, e1]
        refine rowAt_congr _ _ (fun j v g1 g2 g3 => ?_) hr2
        rw [splice_get_out _ _ _ _ (by omega) (by omega)]; exact g3
    · refine rowsAt_congr rs (k + wd) (fun j v g1 g2 g3 => ?_) h2
      rw [splice_get_out _ _ _ _ (by omega) (by omega)]; exact g3
  | r :: rs, k, i + 1, hi, hc, h => by
    simp only [rowsAt] at h
    obtain ⟨h0, h1, h2⟩ := h
    have hm : (r :: rs).length * wd = wd + rs.length * wd := by simp [Nat.add_mul, Nat.add_comm]
    rw [hm] at hc
    have hi' : i < rs.length := by simpa using hi
    have hle : (i + 1) * wd ≤ rs.length * wd := Nat.mul_le_mul_right _ (by omega)
    have hmm : (i + 1) * wd = i * wd + wd := by rw [Nat.add_mul]; omega
    simp only [List.set_cons_succ, List.getD_cons_succ, rowsAt]
    refine ⟨h0, ?_, ?_⟩
    · refine rowAt_congr _ _ (fun j v g1 g2 g3 => ?_) h1
      rw [splice_get_out _ _ _ _ (by omega) (by omega)]; exact g3
    · have := rowsAt_splice hd hw rs (k + wd) i hi' (by omega) h2
      rwa [show k + wd + i * wd + off = k + (i + 1) * wd + off from by omega] at this
theorem effStore_ok {tt : Types} (T : tt.ok P) {t : Nat} {a va : A} {e : Eff} {v p : Value} (rel : Rel cx β h w) (he : effStore tt t h va a = some e) (hs : e.side)
    (hp : a.rep (envOf cx.Xo β h w) p) (hv : va.rep (envOf cx.Xo β h w) v) :
    Sound P cx β h w (do Instr.storeAt t p v; pure .skip) e := by
  unfold effStore at he
  split at he
  · rename_i o off
    split at he
    · rename_i cs ti ho ht
      cases he
      obtain ⟨s1, s2, s3⟩ := hs
      obtain ⟨hc1, hc2⟩ := cells_rep hv (A.storable_or s1)
      simp only [A.rep] at hp
      obtain ⟨b, _, hb, _, rfl⟩ := hp
      obtain ⟨b', c, el, g1, g2, g3, g4⟩ := rel.obj o _ _ ho hb
      cases g1
      have hlen := repL_length _ _ g3
      have hvl := repL_length _ _ hc1
      have hst := run_storeVar (P := P) T ht g2 (off := off) (v := v) (by omega) (by simp at hlen; omega) hc2
      obtain ⟨r1, L1⟩ := rel.write (w' := w.setRow b (splice c.toList off v.cells.toList).toArray) o b (.var cs) (.var (splice cs off va.cells)) ho hb
        (Ev.setRow g2 (by simp [splice_length c.toList v.cells.toList off (by omega)]) (fun i hi => absurd ⟨rfl, trivial⟩ hi)) (by simp [Ob.grow]) (fun _ h => h)
        (fun k hk _ => setRow_other w b k _ hk) (fun L => by
          simp only [Ob.rep]
          refine ⟨b, _, el, rfl, setRow_heap w b c _ el (0, 0) g2, ?_, ?_⟩
          · exact repL_splice (repL_le L _ _ g3) (repL_le L _ _ hc1)
          · intro u hu
            simp only [splice, List.mem_append] at hu
            rcases hu with (hu | hu) | hu
            · exact g4 u (List.mem_of_mem_take hu)
            · exact hc2 u hu
            · exact g4 u (List.mem_of_mem_drop hu))
      exact .skip (β' := β) (by simp [Instr.storeAt, Instr.sureAddr, hst]) rfl r1 L1
    · cases he
  · rename_i o n i off
    split at he
    · rename_i ti ht
      split at he
      · rename_i g hg
        split at he
        · rename_i el wd rows fz ho
          cases he
          obtain ⟨s1, s2, s3, s4, s5, s6, s7⟩ := hs
          obtain ⟨hc1, hc2⟩ := cells_rep hv (A.storable_or s1)
          obtain ⟨r1, L1, x1⟩ := frzL_ok va.cells ti.cw rel hg s2 hc1
          have hp := A.rep_le L1 _ _ hp
          simp only [A.rep] at hp
          obtain ⟨el', wd', rows', fz', ho', _, _, hp⟩ := hp
          have ho2 : some (Ob.vec el wd rows fz) = some (Ob.vec el' wd' rows' fz') := ho.symm.trans ho'
          cases ho2
          obtain ⟨b, hb, rfl⟩ := hp s4
          obtain ⟨_, k2, k3⟩ := r1.obj o _ _ ho hb
          rcases k3 with ⟨k3, _⟩ | ⟨b', c, k3, k4, k5, k6⟩
          · cases k3
          · cases k3
            have hvl := repL_length _ _ hc1
            have hmul : (i + 1) * wd ≤ rows.length * wd := Nat.mul_le_mul_right _ (by omega)
            have hmm : (i + 1) * wd = i * wd + wd := by rw [Nat.add_mul]; omega
            have hst := run_storeVar (P := P) T ht k4 (off := i * wd + off) (v := v) (by omega) (by omega) hc2
            have hfit : i * wd + off + v.cells.toList.length ≤ c.toList.length := by simp only [Array.length_toList] at *; omega
            have hfz : fz * wd ≤ i * wd := Nat.mul_le_mul_right _ s5
            obtain ⟨r2, L2⟩ := r1.write (w' := w.setRow b (splice c.toList (i * wd + off) v.cells.toList).toArray) o b (.vec el wd rows fz) (.vec el wd (rows.set i (splice (rows.getD i []) off g.xs)) fz) ho hb
              (Ev.setRow k4 (by simp [splice_length _ _ _ hfit]) (fun j hj => by
                have hj' : j < i * wd + off := by
                  rcases Nat.lt_or_ge j (i * wd + off) with q | q
                  · exact q
                  · exact absurd ⟨rfl, by simp only [Ob.excl]; omega⟩ hj
                rw [List.getElem?_toArray, splice_get_out _ _ _ _ hfit (.inl hj')]; simp)) (by simp [Ob.grow]) (fun _ h => h)
              (fun k hk _ => setRow_other w b k _ hk) (fun L => by
                simp only [Ob.rep]
                have hbase := rowsAt_mono L.R (fun _ _ h => h) _ _ _ k5
                have hsp := rowsAt_splice (wd := wd) (c := c.toList) (us := v.cells.toList) (off := off) (repDL_mono L.R _ _ x1) (by omega) rows 0 i s6 (by simpa using k6) (by simpa using hbase)
                refine ⟨by simpa using r1.obj o _ _ ho hb |>.1, rowsAt_length _ _ hsp, .inr ⟨b, _, rfl, setRow_heap w b c _ el (0, 0) k4, ?_, ?_⟩⟩
                · simpa [Nat.zero_add] using hsp
                · simp [splice_length _ _ _ hfit]; exact k6)
            have hu : upds h (g.upd ++ [(o, Ob.vec el wd (rows.set i (splice (rows.getD i []) off g.xs)) fz)]) = put (upds h g.upd) o (some (Ob.vec el wd (rows.set i (splice (rows.getD i []) off g.xs)) fz)) := by
              rw [upds_append]; rfl
            refine .skip (β' := β) (w' := w.setRow b (splice c.toList (i * wd + off) v.cells.toList).toArray) (by simp [Instr.storeAt, Instr.sureAddr, hst]) rfl ?_ ?_
            · simp only [hu]; exact r2
            · simp only [hu]; exact L1.trans L2
        · cases he
      · cases he
    · cases he
  · rename_i o n i
    split at he
    · rename_i el cs ti ho ht
      cases he
      obtain ⟨s1, s2, s4, s3⟩ := hs
      obtain ⟨hc1, hc2⟩ := cells_rep hv (.inl s1)
      rw [A.cells_one s1] at hc1
      obtain ⟨b, hb, rfl⟩ := g_live ho s4 hp
      rcases rel.obj o _ _ ho hb with ⟨g3, _⟩ | ⟨b', c, vs, tl, g1, g2, g3, g4, g5⟩
      · cases g3
      cases g1
      have hlen := repL_length _ _ g4
      have hvl := repL_length _ _ hc1
      have hcl : c.size = vs.length + tl.length := by rw [← Array.length_toList, g3, List.length_append]
      have hv1 : v.cells.toList.length = 1 := by simpa using hvl
      have hfit : i + v.cells.toList.length ≤ c.toList.length := by rw [g3, List.length_append]; omega
      have hst := run_storeVar (P := P) T ht g2 (off := i) (v := v) (by omega) (by omega) hc2
      have hsp : splice c.toList i v.cells.toList = splice vs i v.cells.toList ++ tl := by rw [g3, splice_left _ _ _ _ (by omega)]
      obtain ⟨r1, L1⟩ := rel.write (w' := w.setRow b (splice c.toList i v.cells.toList).toArray) o b (.gv el cs) (.gv el (cs.set i va)) ho hb
        (Ev.setRow g2 (by simp [splice_length _ _ _ hfit]) (fun i hi => absurd ⟨rfl, trivial⟩ hi)) (by simp [Ob.grow]) (fun _ h => h)
        (fun k hk _ => setRow_other w b k _ hk) (fun L => by
          simp only [Ob.rep]
          refine .inr ⟨b, _, splice vs i v.cells.toList, tl, rfl, setRow_heap w b c _ el (0, 0) g2, by simpa using hsp, ?_, ?_⟩
          · have := repL_splice (off := i) (repL_le L _ _ g4) (repL_le L _ _ hc1)
            rwa [splice_1 cs i va s3] at this
          · intro u hu
            simp only [splice, List.mem_append] at hu
            rcases hu with (hu | hu) | hu
            · exact g5 u (List.mem_of_mem_take hu)
            · exact hc2 u hu
            · exact g5 u (List.mem_of_mem_drop hu))
      exact .skip (β' := β) (by simp [Instr.storeAt, Instr.sureAddr, hst]) rfl r1 L1
    · cases he
  · cases he
end
end Go.Am
namespace Go.Am
variable [T : Tab]
section
variable {P : Program} {cx : Cx} {β : Nat → Option (Option Nat)} {h : Nat → Option Ob} {w : World}
def effAlloc (tt : Types) (t : Nat) (dst : Option Nat) (h : Nat → Option Ob) : Option Eff :=
  match tt t, dst with
  | some ti, some d => match h d with
    | none => some ⟨True, .ptr d 0, [(d, .var (ti.zero.map ofConst1))], [d]⟩
    | some _ => none
  | _, _ => none
theorem new_var {o : Nat} {cs : List A} {c : Array Value} {el : TypeId} (rel : Rel cx β h w) (ho : h o = none) (hc : repL (envOf cx.Xo β h w) cs c.toList) (h1 : ∀ u ∈ c.toList, one u = true) :
    ∃ β', Rel cx β' (put h o (some (.var cs))) (w.alloc (.cells c el)) ∧ (envOf cx.Xo β h w).Le (envOf cx.Xo β' (put h o (some (.var cs))) (w.alloc (.cells c el))) ∧
      (A.ptr o 0).rep (envOf cx.Xo β' (put h o (some (.var cs))) (w.alloc (.cells c el))) (.pointer (some ⟨w.heap.size, 0, none⟩)) := by
  obtain ⟨r1, L1⟩ := rel.alloc o (.var cs) c el ho (fun L => by
    simp only [Ob.rep]
    exact ⟨_, c, el, rfl, heap_alloc_new w _, repL_le L _ _ hc, h1⟩)
  exact ⟨_, r1, L1, by simp [A.rep, envOf]⟩
theorem effAlloc_ok {tt : Types} (T : tt.ok P) {t : Nat} {dst : Option Nat} {e : Eff} (rel : Rel cx β h w) (he : effAlloc tt t dst h = some e) :
    Sound P cx β h w (do pure (.value (← Instr.alloc t true (.tuple #[])))) e := by
  unfold effAlloc at he
  split at he
  · rename_i ti d ht
    split at he
    · rename_i hd
      cases he
      obtain ⟨z, hz, hzc⟩ := Types.zero T ht w
      obtain ⟨β', r1, L1, x1⟩ := new_var (el := t) (c := z.cells) rel hd (by rw [hzc]; simpa using repL_ofConst1 _ ti.zero (T t ti ht).one) (by rw [hzc]; simpa using (T t ti ht).one)
      exact ⟨β', _, _, _, by simp [Instr.alloc, hz, newVar, newRow], .inl rfl, r1, L1, x1⟩
    · cases he
  · cases he
def effBox (v : A) (dst : Option Nat) (h : Nat → Option Ob) : Option Eff :=
  match dst with
  | some d => match h d with
    | none => some ⟨v.storable = true, .ptr d 0, [(d, .var v.cells)], [d]⟩
    | some _ => none
  | none => none
theorem effBox_ok {t : Nat} {dst : Option Nat} {e : Eff} {va : A} {v : Value} (rel : Rel cx β h w) (he : effBox va dst h = some e) (hs : e.side) (hv : va.rep (envOf cx.Xo β h w) v) :
    Sound P cx β h w (do pure (.value (← Instr.box t v))) e := by
  unfold effBox at he
  split at he
  · rename_i d
    split at he
    · rename_i hd
      cases he
      obtain ⟨hc1, hc2⟩ := cells_rep hv (A.storable_or hs)
      obtain ⟨β', r1, L1, x1⟩ := new_var (el := t) (c := v.cells) rel hd hc1 hc2
      exact ⟨β', _, _, _, by simp [Instr.box, newVar, newRow], .inl rfl, r1, L1, x1⟩
    · cases he
  · cases he
/-- Parts laid into the cells of a value. -/
def fillA (place : Nat → Option (Nat × Nat)) : List A → List (Nat × A) → Option (Prop × List A)
  | cs, [] => some (True, cs)
  | cs, (i, a) :: r => match place i with
    | some (off, size) => match fillA place (splice cs off a.cells) r with
      | some (p, cs') => some ((a.storable = true ∧ a.cells.length = size ∧ off + size ≤ cs.length) ∧ p, cs')
      | none => none
    | none => none
theorem foldl_set (off : Nat) : ∀ (l : List Value) (n : Nat) (c : List Value), off + n + l.length ≤ c.length →
    ((l.zipIdx n).foldl (fun (cs : Array Value) p => cs.setIfInBounds (off + p.2) p.1) c.toArray) = (splice c (off + n) l).toArray
  | [], n, c, _ => by simp [splice]
  | v :: l, n, c, hl => by
    simp only [List.zipIdx_cons, List.foldl_cons, List.setIfInBounds_toArray]
    simp only [List.length_cons] at hl
    rw [foldl_set off l (n + 1) (c.set (off + n) v) (by simp; omega)]
    congr 1
    apply List.ext_getElem?
    intro j
    have hl1 : off + n + (v :: l).length ≤ c.length := by simp; omega
    have hl2 : off + (n + 1) + l.length ≤ (c.set (off + n) v).length := by simp; omega
    rcases Nat.lt_trichotomy j (off + n) with hj | hj | hj
    · rw [splice_get_out _ _ _ _ hl2 (.inl (by omega)), splice_get_out _ _ _ _ hl1 (.inl hj), List.getElem?_set_ne (by omega)]
    · subst hj
      have := splice_get_in c (v :: l) (off + n) 0 hl1 (by simp)
      simp only [Nat.add_zero] at this
      rw [splice_get_out _ _ _ _ hl2 (.inl (by omega)), this, List.getElem?_set_self (by omega)]
      rfl
    · rcases Nat.lt_or_ge j (off + (n + 1) + l.length) with hk | hk
      · obtain ⟨m, rfl⟩ : ∃ m, j = off + (n + 1) + m := ⟨j - (off + (n + 1)), by omega⟩
        rw [splice_get_in _ _ _ _ hl2 (by omega)]
        have := splice_get_in c (v :: l) (off + n) (m + 1) hl1 (by simp; omega)
        rw [show off + (n + 1) + m = off + n + (m + 1) from by omega, this]
        simp
      · rw [splice_get_out _ _ _ _ hl2 (.inr hk), splice_get_out _ _ _ _ hl1 (.inr (by simp; omega)), List.getElem?_set_ne (by omega)]
theorem fold_cells (off : Nat) (v c : Array Value) (hl : off + v.size ≤ c.size) :
    v.zipIdx.foldl (fun cs (x, j) => cs.setIfInBounds (off + j) x) c = (splice c.toList off v.toList).toArray := by
  rw [← Array.foldl_toList, Array.toList_zipIdx]
  have := foldl_set off v.toList 0 c.toList (by simpa using hl)
  simpa using this
theorem fillA_ok {E : Env} {place : Nat → Option (Nat × Nat)} : ∀ (parts : List (Nat × A)) (vals : List (Nat × Value)) (cs : List A) (c : Array Value) (p : Prop) (cs' : List A),
    fillA place cs parts = some (p, cs') → p → repL E cs c.toList → (∀ u ∈ c.toList, one u = true) → vals.length = parts.length →
    (∀ (k i : Nat) (a : A), parts[k]? = some (i, a) → ∃ v, vals[k]? = some (i, v) ∧ a.rep E v) →
    ∃ c', Instr.fill place c vals = some c' ∧ repL E cs' c'.toList ∧ ∀ u ∈ c'.toList, one u = true
  | [], vals, cs, c, p, cs', hf, _, hr, h1, hl, _ => by
    have : vals = [] := List.eq_nil_of_length_eq_zero hl
    subst this
    simp only [fillA, Option.some.injEq, Prod.mk.injEq] at hf
    obtain ⟨_, rfl⟩ := hf
    exact ⟨c, rfl, hr, h1⟩
  | (i, a) :: r, vals, cs, c, p, cs', hf, hp, hr, h1, hl, hk => by
    obtain ⟨v, hv0, hv⟩ := hk 0 i a rfl
    cases vals with
    | nil => simp at hv0
    | cons x vals =>
      simp at hv0
      subst hv0
      simp only [fillA] at hf
      split at hf
      · rename_i off size hpl
        split at hf
        · rename_i p' cs'' hf'
          simp only [Option.some.injEq, Prod.mk.injEq] at hf
          obtain ⟨rfl, rfl⟩ := hf
          obtain ⟨⟨s1, s2, s3⟩, s4⟩ := hp
          obtain ⟨hc1, hc2⟩ := cells_rep hv (A.storable_or s1)
          have hvl := repL_length _ _ hc1
          have hcl := repL_length _ _ hr
          have e1 : v.cells.size = size := by simp at hvl; omega
          have e2 : off + v.cells.size ≤ c.size := by simp at hcl; omega
          have hfold := fold_cells off v.cells c e2
          obtain ⟨c', g1, g2, g3⟩ := fillA_ok r vals (splice cs off a.cells) (splice c.toList off v.cells.toList).toArray p' cs'' hf' s4 (by simpa using repL_splice hr hc1)
            (fun u hu => by
              simp only [splice, List.mem_append] at hu
              rcases hu with (hu | hu) | hu
              · exact h1 u (List.mem_of_mem_take hu)
              · exact hc2 u hu
              · exact h1 u (List.mem_of_mem_drop hu)) (by simpa using hl) (fun k j b hb => by simpa using hk (k + 1) j b (by simpa using hb))
          refine ⟨c', ?_, g2, g3⟩
          have n2 : ¬ (c.size < off + v.cells.size) := by omega
          simp only [Instr.fill, hpl]
          rw [hfold, g1]
          simp [e1, n2]
          omega
        · cases hf
      · cases hf
def placeS (tt : Types) (fs : List (Nat × Nat)) (i : Nat) : Option (Nat × Nat) :=
  match fs[i]? with
  | some (t, off) => match tt t with
    | some ti => some (off, ti.size)
    | none => none
  | none => none
def effBuild (tt : Types) (t : Nat) (parts : List (Nat × A)) : Option Eff :=
  match tt t with
  | some ti => match ti.k with
    | .struct fs => match fillA (placeS tt fs) (ti.zero.map ofConst1) parts with
      | some (p, cs) => some ⟨(fs.all fun f => (tt f.1).isSome) = true ∧ p, .agg cs, [], []⟩
      | none => none
    | .array _ e => match tt e with
      | some te => match fillA (fun i => some (i * te.size, te.size)) (ti.zero.map ofConst1) parts with
        | some (p, cs) => some ⟨p, .agg cs, [], []⟩
        | none => none
      | none => none
    | _ => none
  | none => none
theorem places_mapM {tt : Types} (T : tt.ok P) : ∀ (fields : List Field) (fs : List (Nat × Nat)), fields.map (fun f => (f.type, f.offset)) = fs → (fs.all fun f => (tt f.1).isSome) = true →
    ∃ places, fields.mapM (fun f => (P.info? f.type).map fun i => (f.offset, i.size)) = some places ∧ ∀ i, places[i]? = placeS tt fs i
  | [], fs, hf, _ => by
    subst hf
    exact ⟨[], by simp, by simp [placeS]⟩
  | f :: fields, fs, hf, ha => by
    subst hf
    simp only [List.map_cons, List.all_cons, Bool.and_eq_true] at ha
    obtain ⟨ha1, ha2⟩ := ha
    obtain ⟨ti, hti⟩ := Option.isSome_iff_exists.1 ha1
    obtain ⟨places, hp1, hp2⟩ := places_mapM T fields _ rfl ha2
    obtain ⟨i, hi1, hi2, _⟩ := (T f.type ti hti).info
    refine ⟨(f.offset, i.size) :: places, ?_, ?_⟩
    · simp [List.mapM_cons, hi1, hp1]
    · intro j
      cases j with
      | zero => simp [placeS, hti, hi2]
      | succ j => simpa [placeS] using hp2 j
theorem effBuild_ok {tt : Types} (T : tt.ok P) {t : Nat} {parts : List (Nat × A)} {vals : Array (Nat × Value)} {e : Eff} (rel : Rel cx β h w) (he : effBuild tt t parts = some e) (hs : e.side)
    (hl : vals.toList.length = parts.length) (hv : ∀ (k i : Nat) (a : A), parts[k]? = some (i, a) → ∃ v, vals.toList[k]? = some (i, v) ∧ a.rep (envOf cx.Xo β h w) v) :
    Sound P cx β h w (do pure (.value (← Instr.build t vals))) e := by
  unfold effBuild at he
  split at he
  · rename_i ti ht
    obtain ⟨it, hit, hisz, _, z, hz, hzc⟩ := (T t ti ht).info
    have hone := (T t ti ht).one
    have hdesc := (T t ti ht).desc
    have hz1 : repL (envOf cx.Xo β h w) (ti.zero.map ofConst1) z.cells.toList := by rw [hzc]; simpa using repL_ofConst1 _ ti.zero hone
    have hz2 : ∀ u ∈ z.cells.toList, one u = true := by rw [hzc]; simpa using hone
    split at he
    · rename_i fs hk
      split at he
      · rename_i p cs hf
        cases he
        rw [hk] at hdesc
        obtain ⟨fields, hd, hfs⟩ := hdesc
        obtain ⟨places, hp1, hp2⟩ := places_mapM T fields.toList fs hfs hs.1
        obtain ⟨c', g1, g2, g3⟩ := fillA_ok (E := envOf cx.Xo β h w) parts vals.toList _ z.cells p cs hf hs.2 hz1 hz2 hl hv
        have hpl : (fun i => places.toArray[i]?) = placeS tt fs := funext fun i => by simpa using hp2 i
        have hb : P.built t vals.toList = some c' := by
          unfold Program.built
          simp only [hit, hd, hz, hp1, hpl, g1]
        refine .pure rel (r := .agg c') (by simp [run_build w t vals c' hb]) rfl ?_
        simp only [A.rep]
        exact ⟨c'.toList, by simp, g2, g3⟩
      · cases he
    · rename_i n el hk
      split at he
      · rename_i te hte
        split at he
        · rename_i p cs hf
          cases he
          rw [hk] at hdesc
          simp only [TK.ok] at hdesc
          obtain ⟨ie, hie, hies, _⟩ := (T el te hte).info
          obtain ⟨c', g1, g2, g3⟩ := fillA_ok (E := envOf cx.Xo β h w) parts vals.toList _ z.cells p cs hf hs hz1 hz2 hl hv
          have hb : P.built t vals.toList = some c' := by
            unfold Program.built
            simp only [hit, hdesc, hz, hie, hies, g1]
          refine .pure rel (r := .agg c') (by simp [run_build w t vals c' hb]) rfl ?_
          simp only [A.rep]
          exact ⟨c'.toList, by simp, g2, g3⟩
        · cases he
      · cases he
    · cases he
  · cases he
/-- The row of a zero value. -/
def zcell (wd : Nat) : Value → D
  | .slice none 0 0 => .sl wd []
  | v => .lit v
def zrow : List Nat → List Value → List D
  | _, [] => []
  | ws, v :: vs => zcell (ws.headD 0) v :: zrow ws.tail vs
theorem zcell_rep {R : Rd} {wd : Nat} {v : Value} (h1 : one v = true) : (zcell wd v).rep R v := by
  unfold zcell
  split
  · exact nil_rep R wd
  · simp [D.rep, h1]
theorem zrow_rep {R : Rd} : ∀ (ws : List Nat) (vs : List Value), (∀ v ∈ vs, one v = true) → repDL R (zrow ws vs) vs
  | _, [], _ => by simp [zrow, repDL]
  | ws, v :: vs, h1 => by
    simp only [zrow, repDL]
    exact ⟨v, vs, rfl, zcell_rep (h1 v (by simp)), zrow_rep ws.tail vs fun u hu => h1 u (by simp [hu])⟩
theorem zrow_length : ∀ (ws : List Nat) (vs : List Value), (zrow ws vs).length = vs.length
  | _, [] => rfl
  | ws, v :: vs => by simp [zrow, zrow_length ws.tail vs]
/-- Rows that are alike. -/
theorem rowsAt_replicate {R : Rd} {C : Nat → Value → Prop} {row : List D} {vs : List Value} (hr : repDL R row vs) : ∀ (n k : Nat), (∀ i j v, i < n → vs[j]? = some v → C (k + i * row.length + j) v) → rowsAt R C row.length k (List.replicate n row)
  | 0, _, _ => by simp [rowsAt]
  | n + 1, k, hc => by
    simp only [List.replicate_succ, rowsAt]
    refine ⟨trivial, repDL_rowAt row vs k hr fun j v hj => by simpa using hc 0 j v (by omega) hj, rowsAt_replicate hr n (k + row.length) fun i j v hi hj => ?_⟩
    have := hc (i + 1) j v (by omega) hj
    rwa [show k + (i + 1) * row.length + j = k + row.length + i * row.length + j from by rw [Nat.add_mul]; omega] at this
theorem madeCells_get (z : Array Value) (n i : Nat) (hi : i < n) (hz : 0 < z.size) : (madeCells z n)[i]? = z[i % z.size]? := by
  have hlt : i % z.size < z.size := Nat.mod_lt _ hz
  simp [madeCells, hi, hlt]
/-- A new slice of the frame's own. -/
theorem new_vec {o el wd len cap : Nat} {rows : List (List D)} {c : Array Value} (rel : Rel cx β h w) (ho : h o = none) (hlen : len = rows.length) (hlc : len ≤ cap) (hcm : cap ≤ maxLen) (hcs : c.size = cap * wd)
    (hr : rowsAt (envOf cx.Xo β h w).R (fun i v => c[i]? = some v) wd 0 rows) :
    ∃ β', Rel cx β' (put h o (some (.vec el wd rows 0))) (w.alloc (.cells c el)) ∧ (envOf cx.Xo β h w).Le (envOf cx.Xo β' (put h o (some (.vec el wd rows 0))) (w.alloc (.cells c el))) ∧
      (A.vec o len).rep (envOf cx.Xo β' (put h o (some (.vec el wd rows 0))) (w.alloc (.cells c el))) (.slice (some ⟨w.heap.size, 0, none⟩) len cap) := by
  have hfit : rows.length * wd ≤ c.size := by rw [hcs, ← hlen]; exact Nat.mul_le_mul_right _ hlc
  obtain ⟨r1, L1⟩ := rel.alloc o (.vec el wd rows 0) c el ho (fun L => by
    simp only [Ob.rep]
    exact ⟨Nat.zero_le _, rowsAt_length _ _ hr, .inr ⟨_, c, rfl, heap_alloc_new w _, rowsAt_mono L.R (fun _ _ h => h) _ _ _ hr, hfit⟩⟩)
  refine ⟨_, r1, L1, ?_⟩
  simp only [A.rep, envOf]
  exact ⟨el, wd, rows, 0, by simp, by omega, rfl, fun _ => .inr ⟨w.heap.size, cap, by simp, rfl, hlc, hcm, c, el, heap_alloc_new w _, hcs⟩⟩
/-- A slice of nil maps: a variable of many cells. -/
def makeMaps (te : TI) (l c : Int) (d : Nat) : Eff :=
  ⟨0 ≤ l ∧ l = c ∧ te.size = 1 ∧ te.zero = [.map none] ∧ 0 < te.bytes ∧ (te.bytes : Int) * c ≤ 281474976710656, .vs d l.toNat, [(d, .var (List.replicate l.toNat (.d (.lit (.map none)))))], [d]⟩
def hasN : List Nat → Nat → Bool
  | [], _ => false
  | x :: l, d => if x = d then true else hasN l d
/-- A slice of nil slices, of a type that is marked and for a slot that is named there: a variable of many cells. -/
def makeVars (te : TI) (l c : Int) (d : Nat) : Eff :=
  ⟨0 ≤ l ∧ l = c ∧ te.size = 1 ∧ te.zero = [.slice none 0 0] ∧ 0 < te.bytes ∧ (te.bytes : Int) * c ≤ 281474976710656, .vs d l.toNat, [(d, .var (List.replicate l.toNat .snil))], [d]⟩
def effMake (tt : Types) (t : Nat) (dst : Option Nat) (h : Nat → Option Ob) : A → A → Option Eff
  | .d (.lit (.int _ l)), .d (.lit (.int _ c)) => match tt t, dst with
    | some ti, some d => match ti.k, h d with
      | .slice e, none => match tt e with
        | some te => match te.k with
          | .map _ _ => some (makeMaps te l c d)
          | _ => if hasN ti.cw.tail d then some (makeVars te l c d) else some ⟨0 ≤ l ∧ l ≤ c ∧ 0 < te.size ∧ 0 < te.bytes ∧ (te.bytes : Int) * c ≤ 281474976710656, .vec d l.toNat, [(d, .vec e te.size (List.replicate l.toNat (zrow te.cw te.zero)) 0)], [d]⟩
        | none => none
      | _, _ => none
    | _, _ => none
  | _, _ => none
theorem makeMaps_ok {tt : Types} (T : tt.ok P) {t el d : Nat} {ti te : TI} {lv cv : Value} {kl kc : IntKind} {l c : Int} (rel : Rel cx β h w) (ht : tt t = some ti) (hk : ti.k = .slice el) (hd : h d = none) (hte : tt el = some te)
    (hs : (makeMaps te l c d).side) (hl : (A.d (.lit (.int kl l))).rep (envOf cx.Xo β h w) lv) (hc : (A.d (.lit (.int kc c))).rep (envOf cx.Xo β h w) cv) :
    Sound P cx β h w (do pure (.value (← Instr.makeSlice t lv cv))) (makeMaps te l c d) := by
  obtain ⟨s1, s2, s3, s4, s5, s6⟩ := hs
  subst s2
  simp only [A.rep, D.rep] at hl hc
  rw [hl.1, hc.1]
  have hdesc := (T t ti ht).desc
  rw [hk] at hdesc
  simp only [TK.ok] at hdesc
  obtain ⟨ie, hie, hies, hieb, z, hz, hzc⟩ := (T el te hte).info
  have hzs : z.cells.size = 1 := by rw [hzc, s4]; rfl
  have hcb : (1 : Int) * l ≤ (te.bytes : Int) * l := Int.mul_le_mul_of_nonneg_right (by omega) (by omega)
  have hr := run_make (P := P) w t el ie z hdesc hie hz kl kc l l s1 (Int.le_refl _) (by rw [hieb]; exact s6) (by omega)
  rw [hies, s3, Nat.mul_one] at hr
  have hcells : (madeCells z.cells l.toNat).toList = List.replicate l.toNat (.map none) := by
    apply List.ext_getElem?
    intro j
    rw [Array.getElem?_toList]
    rcases Nat.lt_or_ge j l.toNat with q | q
    · rw [madeCells_get _ _ _ (by omega) (by omega), hzs, Nat.mod_one, hzc, s4]
      simp [List.getElem?_replicate, q]
    · rw [Array.getElem?_eq_none (by rw [size_madeCells]; exact q), List.getElem?_eq_none (by simpa using q)]
  have hrepl : ∀ (E : Env) (n : Nat), repL E (List.replicate n (.d (.lit (.map none)))) (List.replicate n (.map none)) := by
    intro E n
    induction n with
    | zero => simp [repL]
    | succ n ih =>
      simp only [List.replicate_succ, repL]
      exact ⟨_, _, rfl, by simp [A.rep, D.rep, one], ih⟩
  obtain ⟨r1, L1⟩ := rel.alloc d (.var (List.replicate l.toNat (.d (.lit (.map none))))) (madeCells z.cells l.toNat) el hd (fun L => by
    simp only [Ob.rep]
    refine ⟨_, _, _, rfl, heap_alloc_new w _, by rw [hcells]; exact hrepl _ _, fun u hu => ?_⟩
    rw [hcells] at hu
    rw [List.eq_of_mem_replicate hu]
    rfl)
  refine ⟨_, _, .value (.slice (some ⟨w.heap.size, 0, none⟩) l.toNat l.toNat), .slice (some ⟨w.heap.size, 0, none⟩) l.toNat l.toNat, by simp [hr], .inl rfl, r1, L1, ?_⟩
  simp only [makeMaps, A.rep, envOf]
  exact ⟨w.heap.size, List.replicate l.toNat (.d (.lit (.map none))), by simp, by simp [upds], rfl⟩
theorem makeVars_ok {tt : Types} (T : tt.ok P) {t el d : Nat} {ti te : TI} {lv cv : Value} {kl kc : IntKind} {l c : Int} (rel : Rel cx β h w) (ht : tt t = some ti) (hk : ti.k = .slice el) (hd : h d = none) (hte : tt el = some te)
    (hs : (makeVars te l c d).side) (hl : (A.d (.lit (.int kl l))).rep (envOf cx.Xo β h w) lv) (hc : (A.d (.lit (.int kc c))).rep (envOf cx.Xo β h w) cv) :
    Sound P cx β h w (do pure (.value (← Instr.makeSlice t lv cv))) (makeVars te l c d) := by
  obtain ⟨s1, s2, s3, s4, s5, s6⟩ := hs
  subst s2
  simp only [A.rep, D.rep] at hl hc
  rw [hl.1, hc.1]
  have hdesc := (T t ti ht).desc
  rw [hk] at hdesc
  simp only [TK.ok] at hdesc
  obtain ⟨ie, hie, hies, hieb, z, hz, hzc⟩ := (T el te hte).info
  have hzs : z.cells.size = 1 := by rw [hzc, s4]; rfl
  have hcb : (1 : Int) * l ≤ (te.bytes : Int) * l := Int.mul_le_mul_of_nonneg_right (by omega) (by omega)
  have hr := run_make (P := P) w t el ie z hdesc hie hz kl kc l l s1 (Int.le_refl _) (by rw [hieb]; exact s6) (by omega)
  rw [hies, s3, Nat.mul_one] at hr
  have hcells : (madeCells z.cells l.toNat).toList = List.replicate l.toNat (.slice none 0 0) := by
    apply List.ext_getElem?
    intro j
    rw [Array.getElem?_toList]
    rcases Nat.lt_or_ge j l.toNat with q | q
    · rw [madeCells_get _ _ _ (by omega) (by omega), hzs, Nat.mod_one, hzc, s4]
      simp [List.getElem?_replicate, q]
    · rw [Array.getElem?_eq_none (by rw [size_madeCells]; exact q), List.getElem?_eq_none (by simpa using q)]
  have hrepl : ∀ (E : Env) (n : Nat), repL E (List.replicate n .snil) (List.replicate n (.slice none 0 0)) := by
    intro E n
    induction n with
    | zero => simp [repL]
    | succ n ih =>
      simp only [List.replicate_succ, repL]
      exact ⟨_, _, rfl, by simp [A.rep, D.rep, one], ih⟩
  obtain ⟨r1, L1⟩ := rel.alloc d (.var (List.replicate l.toNat .snil)) (madeCells z.cells l.toNat) el hd (fun L => by
    simp only [Ob.rep]
    refine ⟨_, _, _, rfl, heap_alloc_new w _, by rw [hcells]; exact hrepl _ _, fun u hu => ?_⟩
    rw [hcells] at hu
    rw [List.eq_of_mem_replicate hu]
    rfl)
  refine ⟨_, _, .value (.slice (some ⟨w.heap.size, 0, none⟩) l.toNat l.toNat), .slice (some ⟨w.heap.size, 0, none⟩) l.toNat l.toNat, by simp [hr], .inl rfl, r1, L1, ?_⟩
  simp only [makeVars, A.rep, envOf]
  exact ⟨w.heap.size, List.replicate l.toNat .snil, by simp, by simp [upds], rfl⟩
theorem effMake_ok {tt : Types} (T : tt.ok P) {t : Nat} {dst : Option Nat} {e : Eff} {la ca : A} {lv cv : Value} (rel : Rel cx β h w) (he : effMake tt t dst h la ca = some e) (hs : e.side)
    (hl : la.rep (envOf cx.Xo β h w) lv) (hc : ca.rep (envOf cx.Xo β h w) cv) : Sound P cx β h w (do pure (.value (← Instr.makeSlice t lv cv))) e := by
  unfold effMake at he
  split at he
  · rename_i kl l kc c
    split at he
    · rename_i ti d ht
      split at he
      · rename_i el hk hd
        split at he
        · rename_i te hte
          split at he
          · cases he
            exact makeMaps_ok T rel ht hk hd hte hs hl hc
          split at he
          · cases he
            exact makeVars_ok T rel ht hk hd hte hs hl hc
          cases he
          obtain ⟨s1, s2, s3, s4, s5⟩ := hs
          simp only [A.rep, D.rep] at hl hc
          rw [hl.1, hc.1]
          have hdesc := (T t ti ht).desc
          rw [hk] at hdesc
          simp only [TK.ok] at hdesc
          obtain ⟨ie, hie, hies, hieb, z, hz, hzc⟩ := (T el te hte).info
          have hone := (T el te hte).one
          have hzl := (T el te hte).len
          have hzs : z.cells.size = te.size := by rw [hzc]; simpa using hzl
          have hcb : (1 : Int) * c ≤ (te.bytes : Int) * c := Int.mul_le_mul_of_nonneg_right (by omega) (by omega)
          have hr := run_make (P := P) w t el ie z hdesc hie hz kl kc l c s1 s2 (by rw [hieb]; exact s5) (by omega)
          rw [hies] at hr
          have hrow : rowsAt (envOf cx.Xo β h w).R (fun i v => (madeCells z.cells (c.toNat * te.size))[i]? = some v) te.size 0 (List.replicate l.toNat (zrow te.cw te.zero)) := by
            have hzr := zrow_rep (R := (envOf cx.Xo β h w).R) te.cw te.zero hone
            have hlen : (zrow te.cw te.zero).length = te.size := by rw [zrow_length, hzl]
            have := rowsAt_replicate (C := fun i v => (madeCells z.cells (c.toNat * te.size))[i]? = some v) hzr l.toNat 0 (fun i j v hi hj => by
              have hjl : j < te.size := by
                rcases Nat.lt_or_ge j te.zero.length with q | q
                · omega
                · simp [List.getElem?_eq_none q] at hj
              have hmul : (i + 1) * te.size ≤ c.toNat * te.size := Nat.mul_le_mul_right _ (by omega)
              have hmm : (i + 1) * te.size = i * te.size + te.size := by rw [Nat.add_mul]; omega
              rw [hlen, Nat.zero_add, madeCells_get _ _ _ (by omega) (by omega), hzs]
              have : (i * te.size + j) % te.size = j := by rw [Nat.add_comm, Nat.add_mul_mod_self_right, Nat.mod_eq_of_lt hjl]
              rw [this, hzc]
              simpa using hj)
            rwa [hlen] at this
          obtain ⟨β', r1, L1, x1⟩ := new_vec (el := el) (len := l.toNat) (cap := c.toNat) rel hd (by simp) (by omega) (by simp only [maxLen]; omega) (by rw [size_madeCells]) hrow
          exact ⟨β', _, _, _, by simp [hr], .inl rfl, r1, L1, x1⟩
        · cases he
      · cases he
    · cases he
  · cases he
end
end Go.Am
namespace Go.Am
variable [T : Tab]
section
variable {P : Program} {cx : Cx} {β : Nat → Option (Option Nat)} {h : Nat → Option Ob} {w : World}
structure FrzR where
  rows : List (List D)
  upd : List (Nat × Ob)
  rd : List Nat
  side : Prop
def fillR (cw : List Nat) (size : Nat) : (Nat → Option Ob) → List (List D) → List (Nat × A) → Option FrzR
  | _, rows, [] => some ⟨rows, [], [], True⟩
  | h, rows, (i, a) :: r => match frzL h cw a.cells with
    | some g => match fillR cw size (upds h g.upd) (rows.set i g.xs) r with
      | some f => some ⟨f.rows, g.upd ++ f.upd, g.rd ++ f.rd, (a.storable = true ∧ a.cells.length = size ∧ i < rows.length ∧ g.side) ∧ f.side⟩
      | none => none
    | none => none
theorem fillR_ok {cw : List Nat} {size : Nat} : ∀ (parts : List (Nat × A)) (vals : List (Nat × Value)) {h : Nat → Option Ob} (rows : List (List D)) (c : Array Value) {f : FrzR},
    Rel cx β h w → fillR cw size h rows parts = some f → f.side → c.size = rows.length * size → rowsAt (envOf cx.Xo β h w).R (fun j v => c[j]? = some v) size 0 rows → vals.length = parts.length →
    (∀ (k i : Nat) (a : A), parts[k]? = some (i, a) → ∃ v, vals[k]? = some (i, v) ∧ a.rep (envOf cx.Xo β h w) v) →
    ∃ c', Instr.fill (fun i => some (i * size, size)) c vals = some c' ∧ c'.size = c.size ∧ Rel cx β (upds h f.upd) w ∧ (envOf cx.Xo β h w).Le (envOf cx.Xo β (upds h f.upd) w) ∧
      rowsAt (envOf cx.Xo β (upds h f.upd) w).R (fun j v => c'[j]? = some v) size 0 f.rows ∧ f.rows.length = rows.length
  | [], vals, h, rows, c, f, rel, hf, _, _, hr, hl, _ => by
    have : vals = [] := List.eq_nil_of_length_eq_zero hl
    subst this
    simp only [fillR, Option.some.injEq] at hf
    subst hf
    exact ⟨c, rfl, rfl, rel, Env.Le.refl _, hr, rfl⟩
  | (i, a) :: r, vals, h, rows, c, f, rel, hf, hs, hcs, hr, hl, hk => by
    obtain ⟨v, hv0, hv⟩ := hk 0 i a rfl
    cases vals with
    | nil => simp at hv0
    | cons x vals =>
      simp at hv0
      subst hv0
      simp only [fillR] at hf
      split at hf
      · rename_i g hg
        split at hf
        · rename_i f' hf'
          cases hf
          obtain ⟨⟨s1, s2, s3, s4⟩, s5⟩ := hs
          obtain ⟨hc1, hc2⟩ := cells_rep hv (A.storable_or s1)
          obtain ⟨r1, L1, x1⟩ := frzL_ok a.cells cw rel hg s4 hc1
          have hvl := repL_length _ _ hc1
          have hgl := repDL_length _ _ x1
          have e1 : v.cells.size = size := by simp at hvl; omega
          have hmul : (i + 1) * size ≤ rows.length * size := Nat.mul_le_mul_right _ (by omega)
          have hmm : (i + 1) * size = i * size + size := by rw [Nat.add_mul]; omega
          have e2 : i * size + v.cells.size ≤ c.size := by omega
          have hfold := fold_cells (i * size) v.cells c e2
          have hrow := (rowsAt_get rows 0 i s3 hr).1
          have hsp := rowsAt_splice (R := (envOf cx.Xo β (upds h g.upd) w).R) (wd := size) (c := c.toList) (us := v.cells.toList) (off := 0) x1 (by simp; omega) rows 0 i s3 (by simp; omega)
            (by simpa using rowsAt_mono L1.R (fun _ _ h => h) _ _ _ hr)
          have hset : splice (rows.getD i []) 0 g.xs = g.xs := by
            unfold splice
            rw [List.take_zero, List.nil_append, List.drop_eq_nil_of_le (by simp at hgl; omega), List.append_nil]
          rw [hset] at hsp
          simp only [Nat.zero_add, Nat.add_zero] at hsp
          obtain ⟨c', g1, g2, g3, g4, g5, g6⟩ := fillR_ok r vals (rows.set i g.xs) (splice c.toList (i * size) v.cells.toList).toArray r1 hf' s5 (by simp [splice_length _ _ _ (show i * size + v.cells.toList.length ≤ c.toList.length by simpa using e2), hcs])
            (by simpa using hsp) (by simpa using hl) (fun k j b hb => by
              obtain ⟨u, hu1, hu2⟩ := hk (k + 1) j b (by simpa using hb)
              exact ⟨u, by simpa using hu1, A.rep_le L1 _ _ hu2⟩)
          refine ⟨c', ?_, ?_, by rw [upds_append]; exact g3, by rw [upds_append]; exact L1.trans g4, by rw [upds_append]; exact g5, by simpa using g6⟩
          · have n2 : ¬ (c.size < i * size + v.cells.size) := by omega
            simp only [Instr.fill]
            rw [hfold, g1]
            simp [e1]
            omega
          · rw [g2]
            simp [splice_length _ _ _ (show i * size + v.cells.toList.length ≤ c.toList.length by simpa using e2)]
        · cases hf
      · cases hf
/-- A slice of one element, as a variable. -/
def effSliceG (te : TI) (len d : Nat) (h : Nat → Option Ob) : List (Nat × A) → Option Eff
  | [(0, a)] => match h d with
    | none => some ⟨len = 1 ∧ te.size = 1 ∧ a.isOne = true, .vs d 1, [(d, .var [a])], [d]⟩
    | some _ => none
  | _ => none
def effSlice0 (tt : Types) (t len : Nat) (parts : List (Nat × A)) (dst : Option Nat) (h : Nat → Option Ob) : Option Eff :=
  match tt t, dst with
  | some ti, some d => match ti.k with
    | .slice e => match tt e with
      | some te => if hasN ti.cw.tail d then effSliceG te len d h parts else match fillR te.cw te.size h (List.replicate len (zrow te.cw te.zero)) parts with
        | some f => match upds h f.upd d with
          | none => some ⟨f.side ∧ 0 < te.size ∧ len * te.size ≤ 16777216, .vec d len, f.upd ++ [(d, .vec e te.size f.rows 0)], d :: f.rd⟩
          | some _ => none
        | none => none
      | none => none
    | _ => none
  | _, _ => none
theorem effSliceG_ok {tt : Types} (T : tt.ok P) {t el len d : Nat} {ti te : TI} {parts : List (Nat × A)} {vals : Array (Nat × Value)} {e : Eff} (rel : Rel cx β h w) (ht : tt t = some ti) (hk : ti.k = .slice el) (hte : tt el = some te)
    (he : effSliceG te len d h parts = some e) (hs : e.side)
    (hl : vals.toList.length = parts.length) (hv : ∀ (k i : Nat) (a : A), parts[k]? = some (i, a) → ∃ v, vals.toList[k]? = some (i, v) ∧ a.rep (envOf cx.Xo β h w) v) :
    Sound P cx β h w (do pure (.value (← Instr.buildSlice t len vals))) e := by
  unfold effSliceG at he
  split at he
  · rename_i a
    split at he
    · rename_i hd
      cases he
      obtain ⟨rfl, s2, s3⟩ := hs
      have hdesc := (T t ti ht).desc
      rw [hk] at hdesc
      simp only [TK.ok] at hdesc
      obtain ⟨z, hz, hzc⟩ := Types.zero T hte w
      have hzl := (T el te hte).len
      have hzs : z.cells.size = te.size := by rw [hzc]; simpa using hzl
      have hsz := Types.size T hte w
      obtain ⟨v, hv0, hv1⟩ := hv 0 0 a rfl
      have hvals : vals.toList = [(0, v)] := by
        cases hvl : vals.toList with
        | nil => simp [hvl] at hv0
        | cons x l =>
          simp [hvl] at hv0 hl
          subst hv0 hl
          rfl
      obtain ⟨hc1, hc2⟩ := cells_rep hv1 (.inl s3)
      have ha : a.cells = [a] := by cases a <;> simp_all [A.cells, A.isOne]
      rw [ha] at hc1
      have hv1l := repL_length _ _ hc1
      have hcs : v.cells.size = 1 := by simpa using hv1l
      have hfold := fold_cells 0 v.cells (madeCells z.cells 1) (by rw [size_madeCells]; omega)
      have hfill : Instr.fill (fun i => some (i * te.size, te.size)) (madeCells z.cells 1) vals.toList = some (splice (madeCells z.cells 1).toList 0 v.cells.toList).toArray := by
        rw [hvals]
        have n2 : ¬ ((madeCells z.cells 1).size < 0 + v.cells.size) := by rw [size_madeCells]; omega
        simp only [Instr.fill, Nat.zero_mul]
        rw [hfold]
        simp [hcs, s2, size_madeCells]
      have hsp : splice (madeCells z.cells 1).toList 0 v.cells.toList = v.cells.toList := by
        unfold splice
        rw [List.take_zero, List.nil_append, List.drop_eq_nil_of_le (by simp [size_madeCells, hcs]), List.append_nil]
      rw [hsp] at hfill
      obtain ⟨r1, L1⟩ := rel.alloc d (.var [a]) v.cells el hd (fun L => by
        simp only [Ob.rep]
        exact ⟨_, _, _, rfl, heap_alloc_new w _, repL_le L _ _ hc1, hc2⟩)
      refine ⟨_, _, .value (.slice (some ⟨w.heap.size, 0, none⟩) 1 1), .slice (some ⟨w.heap.size, 0, none⟩) 1 1, ?_, .inl rfl, r1, L1, ?_⟩
      · have n1 : ¬ (16777216 < 1 * te.size) := by omega
        have h0 : ¬ (1 * te.size = 0) := by omega
        have hmade : (Array.map (fun x => z.cells[x % z.cells.size]!) (Array.range (1 * te.size))) = madeCells z.cells 1 := by rw [s2]; rfl
        simp [Instr.buildSlice, run_underlying hdesc, hsz, n1, h0, hz, hmade, hfill, newRow, s2] at *
        simp [Instr.buildSlice, run_underlying hdesc, hsz, n1, h0, hz, hmade, hfill, newRow, s2]
      · simp only [A.rep, envOf]
        exact ⟨w.heap.size, [a], by simp, by simp [upds], rfl⟩
    · cases he
  · cases he
theorem effSlice0_ok {tt : Types} (T : tt.ok P) {t len : Nat} {parts : List (Nat × A)} {vals : Array (Nat × Value)} {dst : Option Nat} {e : Eff} (rel : Rel cx β h w) (he : effSlice0 tt t len parts dst h = some e) (hs : e.side)
    (hl : vals.toList.length = parts.length) (hv : ∀ (k i : Nat) (a : A), parts[k]? = some (i, a) → ∃ v, vals.toList[k]? = some (i, v) ∧ a.rep (envOf cx.Xo β h w) v) :
    Sound P cx β h w (do pure (.value (← Instr.buildSlice t len vals))) e := by
  unfold effSlice0 at he
  split at he
  · rename_i ti d ht
    split at he
    · rename_i el hk
      split at he
      · rename_i te hte
        split at he
        · exact effSliceG_ok T rel ht hk hte he hs hl hv
        split at he
        · rename_i f hf
          split at he
          · rename_i hd
            cases he
            obtain ⟨s1, s2, s3⟩ := hs
            have hdesc := (T t ti ht).desc
            rw [hk] at hdesc
            simp only [TK.ok] at hdesc
            obtain ⟨z, hz, hzc⟩ := Types.zero T hte w
            have hone := (T el te hte).one
            have hzl := (T el te hte).len
            have hzs : z.cells.size = te.size := by rw [hzc]; simpa using hzl
            have hsz := Types.size T hte w
            have hzr := zrow_rep (R := (envOf cx.Xo β h w).R) te.cw te.zero hone
            have hlen : (zrow te.cw te.zero).length = te.size := by rw [zrow_length, hzl]
            have hrow : rowsAt (envOf cx.Xo β h w).R (fun i v => (madeCells z.cells (len * te.size))[i]? = some v) te.size 0 (List.replicate len (zrow te.cw te.zero)) := by
              have := rowsAt_replicate (C := fun i v => (madeCells z.cells (len * te.size))[i]? = some v) hzr len 0 (fun i j v hi hj => by
                have hjl : j < te.size := by
                  rcases Nat.lt_or_ge j te.zero.length with q | q
                  · omega
                  · simp [List.getElem?_eq_none q] at hj
                have hmul : (i + 1) * te.size ≤ len * te.size := Nat.mul_le_mul_right _ (by omega)
                have hmm : (i + 1) * te.size = i * te.size + te.size := by rw [Nat.add_mul]; omega
                rw [hlen, Nat.zero_add, madeCells_get _ _ _ (by omega) (by omega), hzs]
                have : (i * te.size + j) % te.size = j := by rw [Nat.add_comm, Nat.add_mul_mod_self_right, Nat.mod_eq_of_lt hjl]
                rw [this, hzc]
                simpa using hj)
              rwa [hlen] at this
            obtain ⟨c', g1, g2, g3, g4, g5, g6⟩ := fillR_ok parts vals.toList (List.replicate len (zrow te.cw te.zero)) (madeCells z.cells (len * te.size)) rel hf s1 (by rw [size_madeCells]; simp) hrow hl hv
            rw [size_madeCells] at g2
            simp at g6
            have hlm : len * 1 ≤ len * te.size := Nat.mul_le_mul_left _ (by omega)
            obtain ⟨β', r1, L1, x1⟩ := new_vec (el := el) (len := len) (cap := len) g3 hd g6.symm (Nat.le_refl _) (by simp only [maxLen]; omega) g2 g5
            refine ⟨β', _, _, _, ?_, .inl rfl, by simpa only [upds_append, upds] using r1, by simpa only [upds_append, upds] using g4.trans L1, by simpa only [upds_append, upds] using x1⟩
            have n1 : ¬ (16777216 < len * te.size) := by omega
            by_cases h0 : len * te.size = 0
            · have hl0 : len = 0 := by rcases Nat.mul_eq_zero.1 h0 with q | q <;> omega
              subst hl0
              have : madeCells z.cells (0 * te.size) = #[] := by simp [madeCells, Array.range_zero']
              rw [this] at g1
              simp [Instr.buildSlice, run_underlying hdesc, hsz, g1, newRow, Array.range_zero']
            · have hmade : (Array.map (fun x => z.cells[x % z.cells.size]!) (Array.range (len * te.size))) = madeCells z.cells (len * te.size) := rfl
              simp [Instr.buildSlice, run_underlying hdesc, hsz, n1, h0, hz, hmade, g1, newRow]
          · cases he
        · cases he
      · cases he
    · cases he
  · cases he
structure Src where
  rows : List (List D)
  rd : List Nat
  side : Prop
/-- What is appended. -/
def srcA (h : Nat → Option Ob) (size : Nat) : A → Option Src
  | .d (.sl wd rows) => some ⟨rows, [], wd = size⟩
  | .snil => some ⟨[], [], True⟩
  | .csl wd rows => some ⟨rows, [], wd = size⟩
  | .vec o n => match h o with
    | some (.vec _ wd rows _) => some ⟨rows, [o], n = rows.length ∧ wd = size⟩
    | _ => none
  | _ => none
theorem srcA_ok {size : Nat} {x : A} {s : Src} {v : Value} (rel : Rel cx β h w) (hx : srcA h size x = some s) (hs : s.side) (hv : x.rep (envOf cx.Xo β h w) v) :
    (v = .slice none 0 0 ∧ s.rows = []) ∨ ∃ (a : Addr) (c : Nat) (news : List Value), v = .slice (some a) s.rows.length c ∧ news.length = s.rows.length * size ∧ (∀ j u, news[j]? = some u → w.cell? (a.add j) = some u) ∧ (∀ u ∈ news, one u = true) ∧
      ∀ (m : Nat) (C' : Nat → Value → Prop), (∀ j u, news[j]? = some u → C' (m + j) u) → rowsAt (envOf cx.Xo β h w).R C' size m s.rows := by
  have key : ∀ (a : Option Addr) (cap wd : Nat) (rows : List (List D)), (a = none → rows = [] ∧ cap = 0) → (∀ a', a = some a' → (rows ≠ [] → a'.spot = none) ∧ rowsAt (envOf cx.Xo β h w).R ((envOf cx.Xo β h w).R a'.block) wd a'.off rows) → wd = size →
      (Value.slice a rows.length cap = .slice none 0 0 ∧ rows = []) ∨ ∃ (a' : Addr) (c : Nat) (news : List Value), Value.slice a rows.length cap = .slice (some a') rows.length c ∧ news.length = rows.length * size ∧ (∀ j u, news[j]? = some u → w.cell? (a'.add j) = some u) ∧ (∀ u ∈ news, one u = true) ∧
        ∀ (m : Nat) (C' : Nat → Value → Prop), (∀ j u, news[j]? = some u → C' (m + j) u) → rowsAt (envOf cx.Xo β h w).R C' size m rows := by
    intro a cap wd rows h1 h2 hw
    subst hw
    cases a with
    | none => obtain ⟨rfl, rfl⟩ := h1 rfl; exact .inl ⟨rfl, rfl⟩
    | some a' =>
      obtain ⟨h3, h4⟩ := h2 a' rfl
      obtain ⟨news, g1, g2, g3, g4⟩ := rowsAt_vals rows a'.off h4
      refine .inr ⟨a', cap, news, rfl, g1, fun j u hj => ?_, g3, g4⟩
      have := (g2 j u hj).2.2
      have hne : rows ≠ [] := by
        rintro rfl
        have : j < news.length := (List.getElem?_eq_some_iff.1 hj).1
        simp at g1
        simp [g1] at this
      have h3 := h3 hne
      obtain ⟨b, k, sp⟩ := a'
      simp only at h3
      subst h3
      rw [add_plain]
      exact this
  unfold srcA at hx
  split at hx
  · cases hx
    simp only [A.rep, D.rep] at hv
    obtain ⟨a, cap, rfl, _, h1, h2⟩ := hv
    exact key a cap _ _ h1 h2 hs
  · cases hx
    simp only [A.rep] at hv
    exact .inl ⟨hv, rfl⟩
  · cases hx
    simp only [A.rep] at hv
    obtain ⟨a, rfl, h1, h2⟩ := hv
    exact key a _ _ _ (fun ha => ⟨h1 ha, by simp [h1 ha]⟩) h2 hs
  · rename_i o n
    split at hx
    · rename_i el wd rows fz ho
      cases hx
      obtain ⟨hn, rfl⟩ := hs
      simp only [A.rep] at hv
      obtain ⟨el', wd', rows', fz', ho', _, _, hv⟩ := hv
      have ho2 : some (Ob.vec el wd rows fz) = some (Ob.vec el' wd' rows' fz') := ho.symm.trans ho'
      cases ho2
      rcases hv hn with ⟨hb, rfl⟩ | ⟨b, cap, hb, rfl, hcap, _, _⟩
      · have hd := rel.obj o _ _ ho hb
        simp only [Ob.rep] at hd
        obtain ⟨_, _, hd | ⟨_, _, hd, _⟩⟩ := hd
        · exact .inl ⟨rfl, hd.2⟩
        · cases hd
      · obtain ⟨_, h2, h3⟩ := rel.obj o _ _ ho hb
        rcases h3 with ⟨h3, _⟩ | ⟨b', c, h3, h4, h5, h6⟩
        · cases h3
        · cases h3
          obtain ⟨news, g1, g2, g3, g4⟩ := rowsAt_vals rows 0 h5
          refine .inr ⟨_, cap, news, by rw [hn], g1, fun j u hj => ?_, g3, g4⟩
          have := g2 j u hj
          rw [add_plain]
          simp only [World.cell?, h4, Nat.zero_add] at *
          simpa using this
    · cases hx
  · cases hx
end
end Go.Am
namespace Go.Am
variable [T : Tab]
section
variable {P : Program} {cx : Cx} {β : Nat → Option (Option Nat)} {h : Nat → Option Ob} {w : World}
/-- What the model's append does with m elements, whose cells are news, behind any slice. -/
structure ApRun (P : Program) (w : World) (tS tX ty e : Nat) (i : TypeInfo) (z : Value) (x : Value) (m : Nat) (news : List Value) : Prop where
  room : ∀ (g sLen sCap : Nat) (cur : Array Value), w.heap[g]? = some (.cells cur e (0, 0)) → sLen + m ≤ sCap → sLen * i.size + news.length ≤ cur.size →
    (Builtin.append_ #[tS, tX] ty #[.slice (some ⟨g, 0, none⟩) sLen sCap, x]).run P w = .ok (.slice (some ⟨g, 0, none⟩) (sLen + m) sCap) (w.setRow g (splice cur.toList (sLen * i.size) news).toArray)
  grow : ∀ (b : Addr) (sLen sCap : Nat) (olds : List Value), olds.length = sLen * i.size → (∀ j v, olds[j]? = some v → w.cell? (b.add j) = some v) → sLen ≤ sCap → sCap < sLen + m → sLen + m ≤ 9223372036854775807 →
    (sLen + m) * i.bytes ≤ 140737488355328 →
    (Builtin.append_ #[tS, tX] ty #[.slice (some b) sLen sCap, x]).run P w = .ok (.slice (some ⟨w.heap.size, 0, none⟩) (sLen + m) (grownCap w (sLen + m) sCap e))
      (w.drew.alloc (.cells (olds.toArray ++ news.toArray ++ Builtin.zeroCells z.cells (grownCap w (sLen + m) sCap e - (sLen + m))) e))
  nil : 0 < m → m ≤ 9223372036854775807 → m * i.bytes ≤ 140737488355328 →
    (Builtin.append_ #[tS, tX] ty #[.slice none 0 0, x]).run P w = .ok (.slice (some ⟨w.heap.size, 0, none⟩) m (grownCap w m 0 e)) (w.drew.alloc (.cells (news.toArray ++ Builtin.zeroCells z.cells (grownCap w m 0 e - m)) e))
  nil0 : m = 0 → (Builtin.append_ #[tS, tX] ty #[.slice none 0 0, x]).run P w = .ok (.slice none 0 0) w
theorem splice_nil {α : Type} (l : List α) (k : Nat) : splice l k [] = l := by simp [splice]
theorem apRun_none {tS ty e : Nat} {i : TypeInfo} {z : Value} (ht : P.underlying tS = some (.slice e)) (hi : P.info? e = some i) : ApRun P w tS tS ty e i z (.slice none 0 0) 0 [] where
  room := fun g sLen sCap cur hg hr _ => by
    have h0 : sLen ≤ sCap := by omega
    rw [splice_nil, show cur.toList.toArray = cur from by simp, setRow_self w g cur e (0, 0) hg]
    simp [Builtin.append_, run_underlying ht, sizeOf, typeInfo, hi, Builtin.lenOf, Builtin.firstCells, storeCells, h0]
  grow := fun _ _ _ _ _ _ h1 h2 => by omega
  nil := fun h0 => by omega
  nil0 := fun _ => by simp [Builtin.append_, run_underlying ht, sizeOf, typeInfo, hi, Builtin.lenOf, Builtin.firstCells]
theorem apRun_some {tS ty e : Nat} {i : TypeInfo} {z : Value} (ht : P.underlying tS = some (.slice e)) (hi : P.info? e = some i) (hz : i.zero = some z) {a : Addr} {m c : Nat} {news : List Value}
    (hl : news.length = m * i.size) (hnews : ∀ j u, news[j]? = some u → w.cell? (a.add j) = some u) (h1 : ∀ u ∈ news, one u = true) : ApRun P w tS tS ty e i z (.slice (some a) m c) m news where
  room := fun g sLen sCap cur hg hr hf => run_append_room (P := P) w tS ty e i ht hi g sLen sCap cur hg a m c news hl hnews (fun u hu => by rw [one_oneCell]; exact h1 u hu) hr hf
  grow := fun b sLen sCap olds ho hc _ hg h63 hb => run_append_grow (P := P) w tS ty e i z ht hi hz b sLen sCap olds ho hc a m c news hl hnews hg (by omega) (growslice_fits hg hb)
  nil := fun h0 h63 hb => run_append_nil (P := P) w tS ty e i z ht hi hz a m c news hl hnews h0 (by omega) (by omega)
  nil0 := fun h0 => by
    subst h0
    have hn : news = [] := List.eq_nil_of_length_eq_zero (by simpa using hl)
    simp [Builtin.append_, run_underlying ht, sizeOf, typeInfo, hi, Builtin.lenOf, Builtin.firstCells, loadCells, loadCellsFrom]
theorem zeroCells_list (z : Array Value) (n : Nat) : (Builtin.zeroCells z n).toList = (madeCells z (n * z.size)).toList := rfl
/-- 'append(s, make([]T, l)...)'. -/
theorem apRun_zeros {tS tX ty e : Nat} {i : TypeInfo} {z : Value} {kx k : IntKind} (ht : P.underlying tS = some (.slice e)) (hu : P.underlying tX = some (.int kx)) (hi : P.info? e = some i) (hz : i.zero = some z)
    (hzs : z.cells.size = i.size) (h0 : 0 < i.size) (hb1 : 0 < i.bytes) {m : Nat} (hm : m * i.bytes ≤ 140737488355328) (hone : ∀ u ∈ z.cells.toList, one u = true) :
    ApRun P w tS tX ty e i z (.int k (m : Int)) m (Builtin.zeroCells z.cells m).toList := by
  have hmb : m * 1 ≤ m * i.bytes := Nat.mul_le_mul_left _ hb1
  have wl : IntKind.i64.wrap (m : Int) = (m : Int) := by rw [IntKind.wrap_i64]; omega
  have n3 : ¬ ((m : Int) < 0) := by omega
  have n4 : ¬ ((281474976710656 : Int) < (m : Int) * (i.bytes : Int)) := by
    have : ((m * i.bytes : Nat) : Int) ≤ 140737488355328 := by omega
    rw [Int.natCast_mul] at this
    omega
  have hsz : (Builtin.zeroCells z.cells m).size = m * i.size := by rw [size_zeroCells, hzs]
  have hone' : ∀ u ∈ (Builtin.zeroCells z.cells m).toList, u.oneCell' = true := by
    intro u hu
    rw [one_oneCell]
    simp only [Builtin.zeroCells, Array.toList_map, List.mem_map] at hu
    obtain ⟨j, _, rfl⟩ := hu
    have hlt : j % z.cells.size < z.cells.size := Nat.mod_lt _ (by omega)
    rw [getElem!_pos z.cells _ hlt]
    exact hone _ (by simp)
  refine ⟨fun g sLen sCap cur hg hr hf => ?_, fun b sLen sCap olds ho hc _ hg h63 hb => ?_, fun hp h63 hb => ?_, fun hm0 => ?_⟩
  · have hst := run_storeCells_at P g (sLen * i.size) e (Builtin.zeroCells z.cells m).toList 0 cur w hg (by simpa using hf) hone'
    rw [splice_zero_add] at hst
    by_cases hn : m = 0
    · subst hn
      have hnil : (Builtin.zeroCells z.cells 0).toList = [] := by apply List.eq_nil_of_length_eq_zero; simp [hsz]
      rw [hnil, splice_nil, show cur.toList.toArray = cur from by simp, setRow_self w g cur e (0, 0) hg]
      have h0' : sLen ≤ sCap := by omega
      simp [Builtin.append_, run_underlying ht, run_underlying hu, sizeOf, typeInfo, hi, asInt, asIntOf, IntKind.wrap_i64, h0', storeCells]
    · have hn0 : m * i.size ≠ 0 := Nat.mul_ne_zero (by omega) (by omega)
      simp [Builtin.append_, run_underlying ht, run_underlying hu, sizeOf, typeInfo, hi, hz, zeroValue, asInt, asIntOf, wl, n3, n4, hr, Addr.add_lit, hst]
      intro hh; exact absurd hh hn0
  · have hn : ¬ (sLen + m ≤ sCap) := by omega
    have h63' : ¬ (9223372036854775807 < ((sLen : Int) + (m : Int))) := by omega
    have h48' : ¬ (281474976710656 < Builtin.nextslicecap (sLen + m) sCap * i.bytes) := by have := growslice_fits hg hb; omega
    have hfo := run_firstCells_some (P := P) w.drew i.size sLen b sLen sCap olds ho (by simpa using hc)
    have hn0 : m * i.size ≠ 0 := Nat.mul_ne_zero (by omega) (by omega)
    have hmax : IntKind.i64.max = 9223372036854775807 := by decide
    simp [Builtin.append_, run_underlying ht, run_underlying hu, sizeOf, typeInfo, zeroValue, hi, hz, asInt, asIntOf, wl, n3, n4, hn, h63', h48', hmax, Question.forced, hfo, newRow, grownCap]
    intro hh; exact absurd hh hn0
  · have hn : ¬ (m = 0) := by omega
    have h63' : ¬ (9223372036854775807 < (m : Int)) := by omega
    have h48' : ¬ (281474976710656 < Builtin.nextslicecap m 0 * i.bytes) := by rw [nextslicecap_zero hp]; omega
    have hn0 : m * i.size ≠ 0 := Nat.mul_ne_zero (by omega) (by omega)
    have hmax : IntKind.i64.max = 9223372036854775807 := by decide
    simp [Builtin.append_, run_underlying ht, run_underlying hu, sizeOf, typeInfo, zeroValue, hi, hz, asInt, asIntOf, wl, n3, n4, hn, h63', h48', hmax, Question.forced, run_firstCells_none, newRow, grownCap]
    intro hh; exact absurd hh hn0
  · subst hm0
    simp [Builtin.append_, run_underlying ht, run_underlying hu, sizeOf, typeInfo, hi, asInt, asIntOf, IntKind.wrap_i64]
end
end Go.Am
namespace Go.Am
variable [T : Tab]
section
variable {P : Program} {cx : Cx} {β : Nat → Option (Option Nat)} {h : Nat → Option Ob} {w : World}
/-- A slice of the frame's own, appended to. -/
theorem ap_vec {o n el wd : Nat} {rows rows2 : List (List D)} {fz : Nat} {v x : Value} {tS tX ty : Nat} {i : TypeInfo} {z : Value} {m : Nat} {news : List Value}
    (rel : Rel cx β h w) (ho : h o = some (.vec el wd rows fz)) (hn : n = rows.length) (hv : (A.vec o n).rep (envOf cx.Xo β h w) v)
    (ap : ApRun P w tS tX ty el i z x m news) (hm : m = rows2.length) (hw : i.size = wd) (hw0 : 0 < wd) (hzs : z.cells.size = wd) (hb1 : 0 < i.bytes) (hl : news.length = rows2.length * wd) (h1 : ∀ u ∈ news, one u = true)
    (hrow : ∀ (m : Nat) (C' : Nat → Value → Prop), (∀ j u, news[j]? = some u → C' (m + j) u) → rowsAt (envOf cx.Xo β h w).R C' wd m rows2) (hbytes : (rows.length + rows2.length) * i.bytes ≤ 140737488355328) :
    ∃ β' w' r, (Builtin.append_ #[tS, tX] ty #[v, x]).run P w = .ok r w' ∧ Rel cx β' (put h o (some (.vec el wd (rows ++ rows2) fz))) w' ∧
      (envOf cx.Xo β h w).Le (envOf cx.Xo β' (put h o (some (.vec el wd (rows ++ rows2) fz))) w') ∧
      (A.vec o (rows.length + rows2.length)).rep (envOf cx.Xo β' (put h o (some (.vec el wd (rows ++ rows2) fz))) w') r := by
  subst hm
  have hsm : (rows.length + rows2.length) * 1 ≤ (rows.length + rows2.length) * i.bytes := Nat.mul_le_mul_left _ hb1
  have hv0 := hv
  simp only [A.rep] at hv
  obtain ⟨el', wd', rows', fz', ho', _, _, hv⟩ := hv
  have ho2 : some (Ob.vec el wd rows fz) = some (Ob.vec el' wd' rows' fz') := ho.symm.trans ho'
  cases ho2
  have hfz : fz ≤ rows.length := by
    rcases hv hn with ⟨hb, _⟩ | ⟨b, _, hb, _⟩ <;> exact (rel.obj o _ _ ho hb).1
  have hgrow : ∀ b' : Option (Option Nat), (rows2 ≠ [] ∨ b' = β o) → Ob.grow (β o) b' (.vec el wd rows fz) (.vec el wd (rows ++ rows2) fz) := by
    intro b' hb'
    simp only [Ob.grow, List.length_append]
    refine ⟨trivial, trivial, by omega, fun hll => ?_⟩
    rcases hb' with hb' | hb'
    · exact absurd (List.eq_nil_of_length_eq_zero (by omega)) hb'
    · exact hb'
  -- the new block, if there is one
  have moved : ∀ (c : Array Value) (cap : Nat), rows2 ≠ [] → rows.length + rows2.length ≤ cap → cap ≤ maxLen → c.size = cap * wd → rowsAt (envOf cx.Xo β h w).R (fun j v => c[j]? = some v) wd 0 (rows ++ rows2) →
      ∃ β', Rel cx β' (put h o (some (.vec el wd (rows ++ rows2) fz))) (w.drew.alloc (.cells c el)) ∧
        (envOf cx.Xo β h w).Le (envOf cx.Xo β' (put h o (some (.vec el wd (rows ++ rows2) fz))) (w.drew.alloc (.cells c el))) ∧
        (A.vec o (rows.length + rows2.length)).rep (envOf cx.Xo β' (put h o (some (.vec el wd (rows ++ rows2) fz))) (w.drew.alloc (.cells c el))) (.slice (some ⟨w.heap.size, 0, none⟩) (rows.length + rows2.length) cap) := by
    intro c cap hne hc1 hc2 hc3 hc4
    obtain ⟨r0, L0⟩ := rel.drew
    have hfit : (rows ++ rows2).length * wd ≤ c.size := by rw [hc3, List.length_append]; exact Nat.mul_le_mul_right _ hc1
    obtain ⟨r1, L1⟩ := r0.move o _ (.vec el wd (rows ++ rows2) fz) c el ho (hgrow _ (.inl hne)) (fun L => by
      simp only [Ob.rep]
      refine ⟨by simp; omega, rowsAt_length _ _ hc4, .inr ⟨_, c, rfl, heap_alloc_new w.drew _, ?_, hfit⟩⟩
      exact rowsAt_mono (L0.trans L).R (fun _ _ h => h) _ _ _ hc4)
    refine ⟨_, r1, L0.trans L1, ?_⟩
    simp only [A.rep, envOf]
    exact ⟨el, wd, rows ++ rows2, fz, by simp, by simp, rfl, fun _ => .inr ⟨w.heap.size, cap, by simp, rfl, hc1, hc2, c, el, heap_alloc_new w.drew _, hc3⟩⟩
  rcases hv hn with ⟨hb, rfl⟩ | ⟨b, cap, hb, rfl, hcap, hcm, hsz⟩
  · have hd := rel.obj o _ _ ho hb
    simp only [Ob.rep] at hd
    have hr0 : rows = [] := by
      obtain ⟨_, _, hd | ⟨_, _, hd, _⟩⟩ := hd
      · exact hd.2
      · cases hd
    subst hr0
    by_cases h2 : rows2 = []
    · subst h2
      refine ⟨β, w, _, ap.nil0 rfl, ?_⟩
      have hput : put h o (some (.vec el wd ([] ++ []) fz)) = h := by
        funext k
        by_cases hk : k = o
        · subst hk; simp [ho]
        · rw [put_ne _ _ hk]
      rw [hput]
      simp only [List.length_nil, Nat.add_zero]
      simp only [List.length_nil] at hn
      subst hn
      exact ⟨rel, Env.Le.refl _, hv0⟩
    · have hp : 0 < rows2.length := List.length_pos_iff.2 h2
      have hge := grownCap_ge w rows2.length 0 el
      have hcm : grownCap w rows2.length 0 el ≤ maxLen := grownCap_le_maxLen w rows2.length 0 el (by simp only [maxLen]; simp at hsm hbytes; omega)
      have hrun := ap.nil hp (by simp at hsm hbytes; omega) (by simpa using hbytes)
      obtain ⟨β', g1, g2, g3⟩ := moved (news.toArray ++ Builtin.zeroCells z.cells (grownCap w rows2.length 0 el - rows2.length)) (grownCap w rows2.length 0 el) h2 (by simpa using hge) hcm
        (by simp only [Array.size_append, List.size_toArray, size_zeroCells, hzs, hl, ← Nat.add_mul]; congr 1; omega)
        (by
          simp only [List.nil_append]
          refine hrow 0 _ fun j u hj => ?_
          have hjl : j < news.length := by
            rcases Nat.lt_or_ge j news.length with q | q
            · exact q
            · simp [List.getElem?_eq_none q] at hj
          rw [Nat.zero_add, Array.getElem?_append_left (by simpa using hjl)]
          simpa using hj)
      refine ⟨β', _, _, hrun, g1, g2, ?_⟩
      simpa using g3
  · have hd := rel.obj o _ _ ho hb
    simp only [Ob.rep] at hd
    obtain ⟨_, hlens, hd⟩ := hd
    rcases hd with ⟨hd, _⟩ | ⟨b', c, hd, hc, hrows, hfit⟩
    · cases hd
    · cases hd
      obtain ⟨c', el', hc', hcs⟩ := hsz
      rw [hc] at hc'
      simp only [Option.some.injEq, Obj.cells.injEq, and_true] at hc'
      obtain ⟨rfl, rfl⟩ := hc'
      subst hn
      by_cases hroom : rows.length + rows2.length ≤ cap
      · have hmul : (rows.length + rows2.length) * wd ≤ cap * wd := Nat.mul_le_mul_right _ hroom
        rw [Nat.add_mul] at hmul
        have hf : rows.length * wd + news.length ≤ c.toList.length := by simp only [Array.length_toList]; omega
        have hrun := ap.room b rows.length cap c hc hroom (by rw [hw]; simpa using hf)
        rw [hw] at hrun
        have hfzm : fz * wd ≤ rows.length * wd := Nat.mul_le_mul_right _ hfz
        obtain ⟨r1, L1⟩ := rel.write (w' := w.setRow b (splice c.toList (rows.length * wd) news).toArray) o b _ (.vec el wd (rows ++ rows2) fz) ho hb
          (Ev.setRow hc (by simp [splice_length _ _ _ hf]) (fun j hj => by
            have hj' : j < rows.length * wd := by
              rcases Nat.lt_or_ge j (rows.length * wd) with q | q
              · exact q
              · exact absurd ⟨rfl, by simp only [Ob.excl]; omega⟩ hj
            rw [List.getElem?_toArray, splice_get_out _ _ _ _ hf (.inl hj')]; simp)) (hgrow _ (.inr rfl)) (fun _ h => h)
          (fun k hk _ => setRow_other w b k _ hk) (fun L => by
            simp only [Ob.rep]
            have hall : rowsAt (envOf cx.Xo β (put h o (some (.vec el wd (rows ++ rows2) fz))) (w.setRow b (splice c.toList (rows.length * wd) news).toArray)).R
                (fun j v => (splice c.toList (rows.length * wd) news).toArray[j]? = some v) wd 0 (rows ++ rows2) := by
              rw [rowsAt_append]
              refine ⟨rowsAt_congr _ _ (fun j v _ g2 g3 => ?_) (rowsAt_mono L.R (fun _ _ h => h) _ _ _ hrows), rowsAt_mono L.R (fun _ _ h => h) _ _ _ (hrow _ _ fun j u hj => ?_)⟩
              · rw [List.getElem?_toArray, splice_get_out _ _ _ _ hf (.inl (by omega))]; simpa using g3
              · have hjl : j < news.length := by
                  rcases Nat.lt_or_ge j news.length with q | q
                  · exact q
                  · simp [List.getElem?_eq_none q] at hj
                rw [Nat.zero_add, List.getElem?_toArray, splice_get_in _ _ _ _ hf hjl]; exact hj
            refine ⟨by simp; omega, rowsAt_length _ _ hall, .inr ⟨b, _, rfl, setRow_heap w b c _ el (0, 0) hc, hall, ?_⟩⟩
            simp only [List.length_append, Nat.add_mul, List.size_toArray, splice_length _ _ _ hf]
            simp only [Array.length_toList]
            omega)
        refine ⟨β, _, _, hrun, r1, L1, ?_⟩
        simp only [A.rep, envOf]
        exact ⟨el, wd, rows ++ rows2, fz, by simp, by simp, rfl, fun _ => .inr ⟨b, cap, hb, rfl, hroom, hcm, _, el, setRow_heap w b c _ el (0, 0) hc, by simp [splice_length _ _ _ hf, hcs]⟩⟩
      · have hne : rows2 ≠ [] := fun e => by simp [e] at hroom; omega
        obtain ⟨vs, q1, q2, q3, q4⟩ := rowsAt_vals rows 0 hrows
        have hge := grownCap_ge w (rows.length + rows2.length) cap el
        have hcm' : grownCap w (rows.length + rows2.length) cap el ≤ maxLen := grownCap_le_maxLen w _ _ el (by simp only [maxLen]; omega)
        have hrun := ap.grow ⟨b, 0, none⟩ rows.length cap vs (by rw [hw]; exact q1) (fun j u hj => by
          rw [add_plain]
          have := q2 j u hj
          simp only [World.cell?, hc, Nat.zero_add] at *
          simpa using this) hcap (by omega) (by omega) hbytes
        obtain ⟨β', g1, g2, g3⟩ := moved (vs.toArray ++ news.toArray ++ Builtin.zeroCells z.cells (grownCap w (rows.length + rows2.length) cap el - (rows.length + rows2.length))) (grownCap w (rows.length + rows2.length) cap el) hne hge hcm'
          (by simp only [Array.size_append, List.size_toArray, size_zeroCells, hzs, q1, hl, ← Nat.add_mul]; congr 1; omega)
          (by
            rw [rowsAt_append]
            refine ⟨q4 0 _ fun j u hj => ?_, hrow _ _ fun j u hj => ?_⟩
            · have hjl : j < vs.length := by
                rcases Nat.lt_or_ge j vs.length with q | q
                · exact q
                · simp [List.getElem?_eq_none q] at hj
              rw [Nat.zero_add, Array.append_assoc, Array.getElem?_append_left (by simpa using hjl)]
              simpa using hj
            · have hjl : j < news.length := by
                rcases Nat.lt_or_ge j news.length with q | q
                · exact q
                · simp [List.getElem?_eq_none q] at hj
              rw [Array.getElem?_append_left (by simp; omega), Array.getElem?_append_right (by simp; omega)]
              simp only [List.size_toArray, q1]
              rw [show 0 + rows.length * wd + j - rows.length * wd = j from by omega]
              simpa using hj)
        exact ⟨β', _, _, hrun, g1, g2, g3⟩
/-- A slice of values of the frame's own, appended to. -/
theorem ap_gv {o n el : Nat} {cs xs : List A} {v x : Value} {tS tX ty : Nat} {i : TypeInfo} {z : Value} {news : List Value}
    (rel : Rel cx β h w) (ho : h o = some (.gv el cs)) (hn : n = cs.length) (hv : (A.g o n none).rep (envOf cx.Xo β h w) v)
    (ap : ApRun P w tS tX ty el i z x xs.length news) (hw : i.size = 1) (hzs : z.cells.size = 1) (hb1 : 0 < i.bytes) (hp : 0 < xs.length) (h1 : ∀ u ∈ news, one u = true)
    (hrow : repL (envOf cx.Xo β h w) xs news) (hbytes : (cs.length + xs.length) * i.bytes ≤ 140737488355328) :
    ∃ β' w' r, (Builtin.append_ #[tS, tX] ty #[v, x]).run P w = .ok r w' ∧ Rel cx β' (put h o (some (.gv el (cs ++ xs)))) w' ∧
      (envOf cx.Xo β h w).Le (envOf cx.Xo β' (put h o (some (.gv el (cs ++ xs)))) w') ∧
      (A.g o (cs.length + xs.length) none).rep (envOf cx.Xo β' (put h o (some (.gv el (cs ++ xs)))) w') r := by
  have hsm : (cs.length + xs.length) * 1 ≤ (cs.length + xs.length) * i.bytes := Nat.mul_le_mul_left _ hb1
  have hl := repL_length _ _ hrow
  have hgrow : ∀ b' : Option (Option Nat), Ob.grow (β o) b' (.gv el cs) (.gv el (cs ++ xs)) := by
    intro b'
    simp only [Ob.grow, List.length_append]
    exact ⟨trivial, by omega, fun hll => by omega⟩
  -- the new block, if there is one
  have moved : ∀ (c : Array Value) (cap : Nat) (vs tl : List Value), cs.length + xs.length ≤ cap → cap ≤ maxLen → c.size = cap → c.toList = vs ++ tl → repL (envOf cx.Xo β h w) (cs ++ xs) vs → (∀ u ∈ vs, one u = true) →
      ∃ β', Rel cx β' (put h o (some (.gv el (cs ++ xs)))) (w.drew.alloc (.cells c el)) ∧
        (envOf cx.Xo β h w).Le (envOf cx.Xo β' (put h o (some (.gv el (cs ++ xs)))) (w.drew.alloc (.cells c el))) ∧
        (A.g o (cs.length + xs.length) none).rep (envOf cx.Xo β' (put h o (some (.gv el (cs ++ xs)))) (w.drew.alloc (.cells c el))) (.slice (some ⟨w.heap.size, 0, none⟩) (cs.length + xs.length) cap) := by
    intro c cap vs tl hc1 hc2 hc3 hc4 hc5 hc6
    obtain ⟨r0, L0⟩ := rel.drew
    obtain ⟨r1, L1⟩ := r0.move o _ (.gv el (cs ++ xs)) c el ho (hgrow _) (fun L => by
      simp only [Ob.rep]
      exact .inr ⟨_, c, vs, tl, rfl, heap_alloc_new w.drew _, hc4, repL_le (L0.trans L) _ _ hc5, hc6⟩)
    refine ⟨_, r1, L0.trans L1, ?_⟩
    simp only [A.rep, envOf]
    exact ⟨el, cs ++ xs, by simp, by simp, rfl, fun _ => .inr ⟨w.heap.size, cap, by simp, rfl, hc1, hc2, c, el, heap_alloc_new w.drew _, hc3⟩⟩
  rcases g_live ho hn hv with ⟨hb, rfl⟩ | ⟨b, cap, hb, rfl, hcap, hcm, hsz⟩
  · have hr0 : cs = [] := by
      rcases rel.obj o _ _ ho hb with hd | ⟨_, _, _, _, hd, _⟩
      · exact hd.2
      · cases hd
    subst hr0
    have hge := grownCap_ge w xs.length 0 el
    have hcm : grownCap w xs.length 0 el ≤ maxLen := grownCap_le_maxLen w xs.length 0 el (by simp only [maxLen]; simp at hsm hbytes; omega)
    have hrun := ap.nil hp (by simp at hsm hbytes; omega) (by simpa using hbytes)
    obtain ⟨β', g1, g2, g3⟩ := moved (news.toArray ++ Builtin.zeroCells z.cells (grownCap w xs.length 0 el - xs.length)) (grownCap w xs.length 0 el) news _ (by simpa using hge) hcm
      (by simp only [Array.size_append, List.size_toArray, size_zeroCells, hzs, hl]; omega) (by simp only [Array.toList_append]; rfl) hrow h1
    refine ⟨β', _, _, hrun, g1, g2, ?_⟩
    simpa using g3
  · rcases rel.obj o _ _ ho hb with hd | ⟨b', c, vs, tl, hd, hc, hcl, hvs, hone⟩
    · cases hd.1
    · cases hd
      obtain ⟨c', el', hc', hcs⟩ := hsz
      rw [hc] at hc'
      simp only [Option.some.injEq, Obj.cells.injEq, and_true] at hc'
      obtain ⟨rfl, rfl⟩ := hc'
      subst hn
      have hvl := repL_length _ _ hvs
      have hsize : c.size = vs.length + tl.length := by rw [← Array.length_toList, hcl, List.length_append]
      by_cases hroom : cs.length + xs.length ≤ cap
      · have hf : cs.length + news.length ≤ c.toList.length := by simp only [Array.length_toList]; omega
        have hrun := ap.room b cs.length cap c hc hroom (by rw [hw, Nat.mul_one]; simpa using hf)
        rw [hw, Nat.mul_one] at hrun
        have hsp : splice c.toList cs.length news = (vs ++ news) ++ tl.drop news.length := by
          unfold splice
          rw [hcl, List.take_append_of_le_length (by omega), List.take_of_length_le (by omega), List.drop_append, List.drop_eq_nil_of_le (by omega), List.nil_append]
          congr 2
          omega
        obtain ⟨r1, L1⟩ := rel.write (w' := w.setRow b (splice c.toList cs.length news).toArray) o b _ (.gv el (cs ++ xs)) ho hb
          (Ev.setRow hc (by simp [splice_length _ _ _ hf]) (fun j hj => absurd ⟨rfl, trivial⟩ hj)) (hgrow _) (fun _ h => h)
          (fun k hk _ => setRow_other w b k _ hk) (fun L => by
            simp only [Ob.rep]
            refine .inr ⟨b, _, vs ++ news, tl.drop news.length, rfl, setRow_heap w b c _ el (0, 0) hc, by simpa using hsp, repL_append _ _ _ _ (repL_le L _ _ hvs) (repL_le L _ _ hrow), fun u hu => ?_⟩
            rcases List.mem_append.1 hu with hu | hu
            · exact hone u hu
            · exact h1 u hu)
        refine ⟨β, _, _, hrun, r1, L1, ?_⟩
        simp only [A.rep, envOf]
        exact ⟨el, cs ++ xs, by simp, by simp, rfl, fun _ => .inr ⟨b, cap, hb, rfl, hroom, hcm, _, el, setRow_heap w b c _ el (0, 0) hc, by simp [splice_length _ _ _ hf, hcs]⟩⟩
      · have hge := grownCap_ge w (cs.length + xs.length) cap el
        have hcm' : grownCap w (cs.length + xs.length) cap el ≤ maxLen := grownCap_le_maxLen w _ _ el (by simp only [maxLen]; omega)
        have hrun := ap.grow ⟨b, 0, none⟩ cs.length cap vs (by rw [hw]; omega) (fun j u hj => by
          rw [add_plain]
          have hj' : c.toList[j]? = some u := by rw [hcl, List.getElem?_append_left (List.getElem?_eq_some_iff.1 hj).1]; exact hj
          simp only [World.cell?, hc, Nat.zero_add]
          simpa using hj') hcap (by omega) (by omega) hbytes
        obtain ⟨β', g1, g2, g3⟩ := moved (vs.toArray ++ news.toArray ++ Builtin.zeroCells z.cells (grownCap w (cs.length + xs.length) cap el - (cs.length + xs.length))) (grownCap w (cs.length + xs.length) cap el) (vs ++ news) _ hge hcm'
          (by simp only [Array.size_append, List.size_toArray, size_zeroCells, hzs, hl, hvl]; omega) (by simp only [Array.toList_append]; rfl) (repL_append _ _ _ _ hvs hrow) (fun u hu => by
            rcases List.mem_append.1 hu with hu | hu
            · exact hone u hu
            · exact h1 u hu)
        exact ⟨β', _, _, hrun, g1, g2, g3⟩
/-- A slice without room behind it, or a nil one, appended to: a new slice of the frame's own. -/
theorem ap_new {d el wd : Nat} {rows rows2 : List (List D)} {v x : Value} {tS tX ty : Nat} {i : TypeInfo} {z : Value} {m : Nat} {news olds : List Value}
    (rel : Rel cx β h w) (ho : h d = none) (ap : ApRun P w tS tX ty el i z x m news)
    (hbase : (v = .slice none 0 0 ∧ rows = [] ∧ olds = []) ∨ (rows2 ≠ [] ∧ ∃ b, v = .slice (some b) rows.length rows.length ∧ (∀ j u, olds[j]? = some u → w.cell? (b.add j) = some u)))
    (holds : olds.length = rows.length * wd) (hrow1 : ∀ (m : Nat) (C' : Nat → Value → Prop), (∀ j u, olds[j]? = some u → C' (m + j) u) → rowsAt (envOf cx.Xo β h w).R C' wd m rows)
    (hm : m = rows2.length) (hw : i.size = wd) (hzs : z.cells.size = wd) (hb1 : 0 < i.bytes) (hl : news.length = rows2.length * wd)
    (hrow : ∀ (m : Nat) (C' : Nat → Value → Prop), (∀ j u, news[j]? = some u → C' (m + j) u) → rowsAt (envOf cx.Xo β h w).R C' wd m rows2) (hbytes : (rows.length + rows2.length) * i.bytes ≤ 140737488355328) :
    ∃ β' w' r, (Builtin.append_ #[tS, tX] ty #[v, x]).run P w = .ok r w' ∧ Rel cx β' (put h d (some (.vec el wd (rows ++ rows2) 0))) w' ∧
      (envOf cx.Xo β h w).Le (envOf cx.Xo β' (put h d (some (.vec el wd (rows ++ rows2) 0))) w') ∧
      (A.vec d (rows.length + rows2.length)).rep (envOf cx.Xo β' (put h d (some (.vec el wd (rows ++ rows2) 0))) w') r := by
  subst hm
  have hsm : (rows.length + rows2.length) * 1 ≤ (rows.length + rows2.length) * i.bytes := Nat.mul_le_mul_left _ hb1
  have made : ∀ (c : Array Value) (cap : Nat), rows.length + rows2.length ≤ cap → cap ≤ maxLen → c.size = cap * wd → rowsAt (envOf cx.Xo β h w).R (fun j v => c[j]? = some v) wd 0 (rows ++ rows2) →
      ∃ β', Rel cx β' (put h d (some (.vec el wd (rows ++ rows2) 0))) (w.drew.alloc (.cells c el)) ∧
        (envOf cx.Xo β h w).Le (envOf cx.Xo β' (put h d (some (.vec el wd (rows ++ rows2) 0))) (w.drew.alloc (.cells c el))) ∧
        (A.vec d (rows.length + rows2.length)).rep (envOf cx.Xo β' (put h d (some (.vec el wd (rows ++ rows2) 0))) (w.drew.alloc (.cells c el))) (.slice (some ⟨w.heap.size, 0, none⟩) (rows.length + rows2.length) cap) := by
    intro c cap hc1 hc2 hc3 hc4
    obtain ⟨r0, L0⟩ := rel.drew
    obtain ⟨β', r1, L1, x1⟩ := new_vec (el := el) (len := rows.length + rows2.length) (cap := cap) r0 ho (by simp) hc1 hc2 hc3 (rowsAt_mono L0.R (fun _ _ h => h) _ _ _ hc4)
    exact ⟨β', r1, L0.trans L1, x1⟩
  have hcat : ∀ (k : Nat), rowsAt (envOf cx.Xo β h w).R (fun j v => (olds.toArray ++ news.toArray ++ Builtin.zeroCells z.cells k)[j]? = some v) wd 0 (rows ++ rows2) := by
    intro k
    rw [rowsAt_append]
    refine ⟨hrow1 0 _ fun j u hj => ?_, hrow _ _ fun j u hj => ?_⟩
    · have hjl : j < olds.length := by
        rcases Nat.lt_or_ge j olds.length with q | q
        · exact q
        · simp [List.getElem?_eq_none q] at hj
      rw [Nat.zero_add, Array.append_assoc, Array.getElem?_append_left (by simpa using hjl)]
      simpa using hj
    · have hjl : j < news.length := by
        rcases Nat.lt_or_ge j news.length with q | q
        · exact q
        · simp [List.getElem?_eq_none q] at hj
      rw [Array.getElem?_append_left (by simp; omega), Array.getElem?_append_right (by simp; omega)]
      simp only [List.size_toArray, holds]
      rw [show 0 + rows.length * wd + j - rows.length * wd = j from by omega]
      simpa using hj
  rcases hbase with ⟨rfl, rfl, rfl⟩ | ⟨hne, b, rfl, hcells⟩
  · by_cases h2 : rows2 = []
    · subst h2
      obtain ⟨r1, L1⟩ := rel.nil d el wd ho
      refine ⟨_, w, _, ap.nil0 rfl, by simpa using r1, by simpa using L1, ?_⟩
      simp only [A.rep, envOf]
      exact ⟨el, wd, [], 0, by simp, by simp, rfl, fun _ => .inl ⟨by simp, trivial⟩⟩
    · have hp : 0 < rows2.length := List.length_pos_iff.2 h2
      have hge := grownCap_ge w rows2.length 0 el
      have hcm : grownCap w rows2.length 0 el ≤ maxLen := grownCap_le_maxLen w rows2.length 0 el (by simp only [maxLen]; simp at hsm hbytes; omega)
      have hrun := ap.nil hp (by simp at hsm hbytes; omega) (by simpa using hbytes)
      have hc := hcat (grownCap w rows2.length 0 el - rows2.length)
      rw [show ([] : List Value).toArray ++ news.toArray = news.toArray from by simp] at hc
      obtain ⟨β', g1, g2, g3⟩ := made _ (grownCap w rows2.length 0 el) (by simpa using hge) hcm
        (by simp only [Array.size_append, List.size_toArray, size_zeroCells, hzs, hl, ← Nat.add_mul]; congr 1; omega) hc
      refine ⟨β', _, _, hrun, g1, g2, ?_⟩
      simpa using g3
  · have hp : 0 < rows2.length := List.length_pos_iff.2 hne
    have hge := grownCap_ge w (rows.length + rows2.length) rows.length el
    have hcm' : grownCap w (rows.length + rows2.length) rows.length el ≤ maxLen := grownCap_le_maxLen w _ _ el (by simp only [maxLen]; omega)
    have hrun := ap.grow b rows.length rows.length olds (by rw [hw]; exact holds) hcells (Nat.le_refl _) (by omega) (by omega) hbytes
    obtain ⟨β', g1, g2, g3⟩ := made _ (grownCap w (rows.length + rows2.length) rows.length el) hge hcm'
      (by simp only [Array.size_append, List.size_toArray, size_zeroCells, hzs, holds, hl, ← Nat.add_mul]; congr 1; omega) (hcat (grownCap w (rows.length + rows2.length) rows.length el - (rows.length + rows2.length)))
    exact ⟨β', _, _, hrun, g1, g2, g3⟩
end
/-- Rows put in place of others. -/
def putRows {α : Type} (rows : List α) (k : Nat) (ms : List α) : List α := rows.take k ++ ms ++ rows.drop (k + ms.length)
theorem putRows_length {α : Type} (rows ms : List α) (k : Nat) (h : k + ms.length ≤ rows.length) : (putRows rows k ms).length = rows.length := by
  simp [putRows]; omega
theorem rowsAt_put {R : Rd} {wd : Nat} {c us : List Value} {rows ms : List (List D)} {k : Nat} (hr : rowsAt R (fun j v => c[j]? = some v) wd 0 rows) (hm : rowsAt R (fun j v => us[j]? = some v) wd 0 ms)
    (hl : us.length = ms.length * wd) (hk : k + ms.length ≤ rows.length) (hc : rows.length * wd ≤ c.length) : rowsAt R (fun j v => (splice c (k * wd) us)[j]? = some v) wd 0 (putRows rows k ms) := by
  have e1 : (k + ms.length) * wd ≤ rows.length * wd := Nat.mul_le_mul_right _ hk
  have e2 : (k + ms.length) * wd = k * wd + ms.length * wd := Nat.add_mul _ _ _
  have hfit : k * wd + us.length ≤ c.length := by omega
  unfold putRows
  rw [rowsAt_append, rowsAt_append]
  have hlt : (rows.take k).length = k := by simp; omega
  refine ⟨⟨rowsAt_congr _ _ (fun j v g1 g2 g3 => ?_) (rowsAt_take rows 0 k hr), ?_⟩, ?_⟩
  · rw [hlt] at g2
    rw [splice_get_out _ _ _ _ hfit (by omega)]; exact g3
  · rw [hlt]
    obtain ⟨vs, v1, v2, _, v3⟩ := rowsAt_vals ms 0 hm
    refine v3 _ _ fun j u hj => ?_
    have hjl : j < us.length := by
      rcases Nat.lt_or_ge j vs.length with q | q
      · omega
      · simp [List.getElem?_eq_none q] at hj
    have := v2 j u hj
    rw [Nat.zero_add] at this ⊢
    rw [splice_get_in _ _ _ _ hfit hjl]; exact this
  · rw [List.length_append, hlt]
    have := rowsAt_drop rows 0 (k + ms.length) hk hr
    refine rowsAt_congr _ _ (fun j v g1 g2 g3 => ?_) this
    rw [splice_get_out _ _ _ _ hfit (by omega)]; exact g3
section
variable {P : Program} {cx : Cx} {β : Nat → Option (Option Nat)} {h : Nat → Option Ob} {w : World}
/-- Cells of a slice's own are written: rows turn. -/
theorem Rel.putRows {tt : Types} (rel : Rel cx β h w) {o b k el wd fz : Nat} {rows ms : List (List D)} {us : List Value} (ho : h o = some (.vec el wd rows fz)) (hb : β o = some (some b)) (hm : rowsAt (envOf cx.Xo β h w).R (fun j v => us[j]? = some v) wd 0 ms)
    (hl : us.length = ms.length * wd) (h1 : ∀ u ∈ us, one u = true) (hk : k + ms.length ≤ rows.length) (hfz : fz ≤ k) :
    ∃ w', (storeCells ⟨b, k * wd, none⟩ us).run P w = .ok () w' ∧ Rel cx β (put h o (some (.vec el wd (Go.Am.putRows rows k ms) fz))) w' ∧ (envOf cx.Xo β h w).Le (envOf cx.Xo β (put h o (some (.vec el wd (Go.Am.putRows rows k ms) fz))) w') := by
  obtain ⟨k1, k2, k3⟩ := rel.obj o _ _ ho hb
  rcases k3 with ⟨k3, _⟩ | ⟨b', c, k3, k4, k5, k6⟩
  · cases k3
  · cases k3
    have e1 : (k + ms.length) * wd ≤ rows.length * wd := Nat.mul_le_mul_right _ hk
    have e2 : (k + ms.length) * wd = k * wd + ms.length * wd := Nat.add_mul _ _ _
    have hfit : k * wd + us.length ≤ c.toList.length := by simp only [Array.length_toList]; omega
    have hst := run_storeCells_at P b (k * wd) el us 0 c w k4 (by simpa using hfit) (fun u hu => by rw [one_oneCell]; exact h1 u hu)
    rw [splice_zero_add] at hst
    have hfz2 : fz * wd ≤ k * wd := Nat.mul_le_mul_right _ hfz
    obtain ⟨r2, L2⟩ := rel.write (w' := w.setRow b (splice c.toList (k * wd) us).toArray) o b (.vec el wd rows fz) (.vec el wd (Go.Am.putRows rows k ms) fz) ho hb
      (Ev.setRow k4 (by simp [splice_length _ _ _ hfit]) (fun j hj => by
        have hj' : j < k * wd := by
          rcases Nat.lt_or_ge j (k * wd) with q | q
          · exact q
          · exact absurd ⟨rfl, by simp only [Ob.excl]; omega⟩ hj
        rw [List.getElem?_toArray, splice_get_out _ _ _ _ hfit (.inl hj')]; simp)) (by simp [Ob.grow, putRows_length _ _ _ hk]) (fun _ h => h)
      (fun q hq _ => setRow_other w b q _ hq) (fun L => by
        simp only [Ob.rep]
        have hbase := rowsAt_mono L.R (fun _ _ h => h) _ _ _ k5
        have hms := rowsAt_mono L.R (fun _ _ h => h) _ _ _ hm
        have hsp := rowsAt_put (wd := wd) (c := c.toList) (us := us) (k := k) (by simpa using hbase) hms hl hk (by simpa using k6)
        refine ⟨by rw [putRows_length _ _ _ hk]; exact k1, rowsAt_length _ _ hsp, .inr ⟨b, _, rfl, setRow_heap w b c _ el (0, 0) k4, ?_, ?_⟩⟩
        · simpa using hsp
        · rw [putRows_length _ _ _ hk]; simp [splice_length _ _ _ hfit]; exact k6)
    exact ⟨_, hst, r2, L2⟩
/-- A slice over the first rows of an object, appended to where the object's rows end. -/
theorem ap_sub {tt : Types} {o m k n el wd : Nat} {rows rows2 : List (List D)} {fz : Nat} {v x : Value} {tS tX ty : Nat} {i : TypeInfo} {z : Value} {l : Nat} {news : List Value}
    (rel : Rel cx β h w) (ho : h o = some (.vec el wd rows fz)) (hm : m = rows.length) (hk : k = 0) (hv : (A.sub o m k n).rep (envOf cx.Xo β h w) v)
    (ap : ApRun P w tS tX ty el i z x l news) (hl2 : l = rows2.length) (hw : i.size = wd) (hw0 : 0 < wd) (hfz : fz ≤ n) (hnm : n + rows2.length = m) (hne : n < m) (hl : news.length = rows2.length * wd) (h1 : ∀ u ∈ news, one u = true)
    (hrow : ∀ (m : Nat) (C' : Nat → Value → Prop), (∀ j u, news[j]? = some u → C' (m + j) u) → rowsAt (envOf cx.Xo β h w).R C' wd m rows2) :
    ∃ β' w' r, (Builtin.append_ #[tS, tX] ty #[v, x]).run P w = .ok r w' ∧ Rel cx β' (put h o (some (.vec el wd (rows.take n ++ rows2) fz))) w' ∧
      (envOf cx.Xo β h w).Le (envOf cx.Xo β' (put h o (some (.vec el wd (rows.take n ++ rows2) fz))) w') ∧
      (A.vec o (n + rows2.length)).rep (envOf cx.Xo β' (put h o (some (.vec el wd (rows.take n ++ rows2) fz))) w') r := by
  subst hl2 hm hk
  simp only [A.rep] at hv
  obtain ⟨e', wd', rows', fz', ho', _, _, hv⟩ := hv
  have ho2 : some (Ob.vec el wd rows fz) = some (Ob.vec e' wd' rows' fz') := ho.symm.trans ho'
  cases ho2
  rcases hv rfl with ⟨hb, rfl, rfl⟩ | ⟨b, cap, hb, rfl, hcap, hkn, hcm, hsz⟩
  · have hd := rel.obj o _ _ ho hb
    simp only [Ob.rep] at hd
    obtain ⟨_, _, hd | ⟨_, _, hd, _⟩⟩ := hd
    · rw [hd.2] at hne; simp at hne
    · cases hd
  · have hd := rel.obj o _ _ ho hb
    simp only [Ob.rep] at hd
    obtain ⟨_, hlens, hd⟩ := hd
    rcases hd with ⟨hd, _⟩ | ⟨b', c, hd, hc, hrows, hfit⟩
    · cases hd
    · cases hd
      obtain ⟨c', el', hc', hcs⟩ := hsz
      rw [hc] at hc'
      simp only [Option.some.injEq, Obj.cells.injEq, and_true] at hc'
      obtain ⟨rfl, rfl⟩ := hc'
      rw [Nat.zero_add] at hcs hcm
      have hrc : rows.length ≤ cap := by
        rcases Nat.lt_or_ge cap rows.length with q | q
        · have : (cap + 1) * wd ≤ rows.length * wd := Nat.mul_le_mul_right _ q
          rw [Nat.add_mul] at this
          omega
        · exact q
      have hmul : (n + rows2.length) * wd ≤ rows.length * wd := Nat.mul_le_mul_right _ (by omega)
      rw [Nat.add_mul] at hmul
      have hrun := ap.room b n cap c hc (by omega) (by rw [hw]; omega)
      rw [hw] at hrun
      rw [Nat.zero_mul]
      have hms : rowsAt (envOf cx.Xo β h w).R (fun j v => news[j]? = some v) wd 0 rows2 := hrow 0 _ fun j u hj => by simpa using hj
      obtain ⟨w', g1, g2, g3⟩ := Rel.putRows (P := P) (tt := tt) rel ho hb hms hl h1 (k := n) (by omega) hfz
      have hst := run_storeCells_at P b (n * wd) el news 0 c w hc (by omega) (fun u hu => by rw [one_oneCell]; exact h1 u hu)
      rw [splice_zero_add] at hst
      rw [hst] at g1
      simp only [Result.ok.injEq, true_and] at g1
      subst g1
      have hpr : Go.Am.putRows rows n rows2 = rows.take n ++ rows2 := by
        unfold Go.Am.putRows
        rw [List.drop_of_length_le (by omega), List.append_nil]
      rw [hpr] at g2 g3
      refine ⟨β, _, _, hrun, g2, g3, ?_⟩
      simp only [A.rep, envOf]
      have hf : n * wd + news.length ≤ c.toList.length := by simp only [Array.length_toList]; omega
      exact ⟨el, wd, rows.take n ++ rows2, fz, by simp, by simp; omega, rfl, fun _ => .inr ⟨b, cap, hb, rfl, by omega, hcm, _, el, setRow_heap w b c _ el (0, 0) hc, by simp [splice_length _ _ _ hf, hcs]⟩⟩
end
end Go.Am
namespace Go.Am
variable [T : Tab]
section
variable {P : Program} {cx : Cx} {β : Nat → Option (Option Nat)} {h : Nat → Option Ob} {w : World}
def ok1 (a : A) : Option Eff := some ⟨True, a, [], []⟩
def apRoom : Nat := 140737488355328
def apSrc (tt : Types) (te : TI) (tS tX : Nat) (h : Nat → Option Ob) : A → Option Src
  | .d (.lit (.int _ l)) => match tt tX with
    | some tx => match tx.k with
      | .int _ => some ⟨List.replicate l.toNat (zrow te.cw te.zero), [], 0 ≤ l ∧ l.toNat * te.bytes ≤ apRoom⟩
      | _ => none
    | none => none
  | x => if tX = tS then srcA h te.size x else none
/-- To a slice of values of the frame's own. -/
def effAppG (te : TI) (e tS tX : Nat) (h : Nat → Option Ob) : A → A → Option Eff
  | .g o n none, .vs p m => match h o, h p with
    | some (.gv e' cs), some (.var xs) => some ⟨tX = tS ∧ n = cs.length ∧ m = xs.length ∧ e' = e ∧ te.size = 1 ∧ 0 < te.bytes ∧ 0 < xs.length ∧ (cs.length + xs.length) * te.bytes ≤ apRoom,
        .g o (cs.length + xs.length) none, [(o, .gv e (cs ++ xs))], [o, p]⟩
    | _, _ => none
  | _, _ => none
def effAppend (tt : Types) (tS tX : Nat) (dst : Option Nat) (h : Nat → Option Ob) (s x : A) : Option Eff :=
  match tt tS with
  | some ts => match ts.k with
    | .slice e => match tt e with
      | some te => match apSrc tt te tS tX h x with
        | some src => match s with
          | .vec o n => match h o with
            | some (.vec e' w' rows fz) => some ⟨src.side ∧ n = rows.length ∧ e' = e ∧ w' = te.size ∧ 0 < te.size ∧ 0 < te.bytes ∧ (rows.length + src.rows.length) * te.bytes ≤ apRoom,
                .vec o (rows.length + src.rows.length), [(o, .vec e te.size (rows ++ src.rows) fz)], o :: src.rd⟩
            | _ => none
          | .snil => match dst with
            | some d => match h d with
              | none => some ⟨src.side ∧ 0 < te.size ∧ 0 < te.bytes ∧ src.rows.length * te.bytes ≤ apRoom, .vec d src.rows.length, [(d, .vec e te.size src.rows 0)], d :: src.rd⟩
              | some _ => none
            | none => none
          | .csl w' rows => match dst with
            | some d => match h d with
              | none => some ⟨src.side ∧ src.rows ≠ [] ∧ w' = te.size ∧ 0 < te.size ∧ 0 < te.bytes ∧ (rows.length + src.rows.length) * te.bytes ≤ apRoom,
                  .vec d (rows.length + src.rows.length), [(d, .vec e te.size (rows ++ src.rows) 0)], d :: src.rd⟩
              | some _ => none
            | none => none
          | .sub o m k n => match h o with
            | some (.vec e' w' rows fz) => some ⟨src.side ∧ (k = 0 ∧ m = rows.length ∧ fz ≤ n) ∧ (n + src.rows.length = m ∧ n < m ∨ n = m) ∧ e' = e ∧ w' = te.size ∧ 0 < te.size ∧ 0 < te.bytes ∧ (rows.length + src.rows.length) * te.bytes ≤ apRoom,
                .vec o (n + src.rows.length), [(o, .vec e te.size (rows.take n ++ src.rows) fz)], o :: src.rd⟩
            | _ => none
          | _ => none
        | none => effAppG te e tS tX h s x
      | none => none
    | _ => none
  | none => none
theorem apSrc_ok {tt : Types} (T : tt.ok P) {te : TI} {tS tX ty e : Nat} {x : A} {src : Src} {v : Value} {i : TypeInfo} {z : Value} (hte : tt e = some te) (hi : P.info? e = some i) (hies : i.size = te.size) (hieb : i.bytes = te.bytes) (hz : i.zero = some z)
    (hzc : z.cells = te.zero.toArray) (h0 : 0 < te.size) (hb1 : 0 < te.bytes) (hd : P.underlying tS = some (.slice e)) (rel : Rel cx β h w) (hx : apSrc tt te tS tX h x = some src) (hs : src.side) (hv : x.rep (envOf cx.Xo β h w) v) :
    ∃ news, ApRun P w tS tX ty e i z v src.rows.length news ∧ news.length = src.rows.length * te.size ∧ (∀ u ∈ news, one u = true) ∧
      ∀ (m : Nat) (C' : Nat → Value → Prop), (∀ j u, news[j]? = some u → C' (m + j) u) → rowsAt (envOf cx.Xo β h w).R C' te.size m src.rows := by
  have hone := (T e te hte).one
  have hzl := (T e te hte).len
  have hzs : z.cells.size = te.size := by rw [hzc]; simpa using hzl
  unfold apSrc at hx
  split at hx
  · rename_i k l
    split at hx
    · rename_i tx htx
      split at hx
      · rename_i kx hk
        cases hx
        obtain ⟨s1, s2⟩ := hs
        have hdesc := (T tX tx htx).desc
        rw [hk] at hdesc
        simp only [TK.ok] at hdesc
        simp only [A.rep, D.rep] at hv
        rw [hv.1]
        obtain ⟨m, rfl⟩ := Int.eq_ofNat_of_zero_le s1
        simp only [Int.toNat_natCast, apRoom] at s2
        simp only [Int.toNat_natCast, List.length_replicate]
        have hap := apRun_zeros (w := w) (ty := ty) (k := k) hd hdesc hi hz (by rw [hzs, hies]) (by omega) (by omega) (m := m) (by rw [hieb]; exact s2) (by rw [hzc]; simpa using hone)
        refine ⟨_, hap, by simp [size_zeroCells, hzs], ?_, ?_⟩
        · intro u hu
          simp only [Builtin.zeroCells, Array.toList_map, List.mem_map] at hu
          obtain ⟨j, _, rfl⟩ := hu
          have hlt : j % z.cells.size < z.cells.size := Nat.mod_lt _ (by omega)
          rw [getElem!_pos z.cells _ hlt]
          exact hone _ (by simp [hzc])
        · intro q C' hC
          have hzr := zrow_rep (R := (envOf cx.Xo β h w).R) te.cw te.zero hone
          have hlen : (zrow te.cw te.zero).length = te.size := by rw [zrow_length, hzl]
          have := rowsAt_replicate (C := C') hzr m q (fun i j v hi hj => by
            have hjl : j < te.size := by
              rcases Nat.lt_or_ge j te.zero.length with q | q
              · omega
              · simp [List.getElem?_eq_none q] at hj
            have hmul : (i + 1) * te.size ≤ m * te.size := Nat.mul_le_mul_right _ (by omega)
            have hmm : (i + 1) * te.size = i * te.size + te.size := by rw [Nat.add_mul]; omega
            rw [hlen, show q + i * te.size + j = q + (i * te.size + j) from by omega]
            refine hC _ v ?_
            rw [zeroCells_list, Array.getElem?_toList, madeCells_get _ _ _ (by rw [hzs]; omega) (by omega), hzs]
            have : (i * te.size + j) % te.size = j := by rw [Nat.add_comm, Nat.add_mul_mod_self_right, Nat.mod_eq_of_lt hjl]
            rw [this, hzc]
            simpa using hj)
          rwa [hlen] at this
      · cases hx
    · cases hx
  · split at hx
    · rename_i hxS
      subst hxS
      rcases srcA_ok rel hx hs hv with ⟨rfl, hr⟩ | ⟨a, c, news, rfl, g1, g2, g3, g4⟩
      · rw [hr]
        exact ⟨[], apRun_none hd hi, by simp, by simp, by simp [rowsAt]⟩
      · exact ⟨news, apRun_some hd hi hz (by rw [hies]; exact g1) g2 g3, g1, g3, g4⟩
    · cases hx
theorem effAppend_ok {tt : Types} (T : tt.ok P) {tS tX ty : Nat} {dst : Option Nat} {e : Eff} {sa xa : A} {sv xv : Value} (rel : Rel cx β h w) (he : effAppend tt tS tX dst h sa xa = some e) (hs : e.side)
    (hsv : sa.rep (envOf cx.Xo β h w) sv) (hxv : xa.rep (envOf cx.Xo β h w) xv) : Sound P cx β h w (do pure (.value (← Builtin.append_ #[tS, tX] ty #[sv, xv]))) e := by
  unfold effAppend at he
  split at he
  · rename_i ts hts
    split at he
    · rename_i el hk
      split at he
      · rename_i te hte
        have hdesc := (T tS ts hts).desc
        rw [hk] at hdesc
        simp only [TK.ok] at hdesc
        obtain ⟨ie, hie, hies, hieb, z, hz, hzc⟩ := (T el te hte).info
        have hzl := (T el te hte).len
        have hzs : z.cells.size = te.size := by rw [hzc]; simpa using hzl
        split at he
        · rename_i src hsrc
          split at he
          · rename_i o n
            split at he
            · rename_i e' w' rows fz ho
              cases he
              obtain ⟨s1, s2, rfl, rfl, s5, s6, s7⟩ := hs
              obtain ⟨news, ap, g1, g2, g3⟩ := apSrc_ok (ty := ty) T hte hie hies hieb hz hzc s5 s6 hdesc rel hsrc s1 hxv
              obtain ⟨β', w', r, q1, q2, q3, q4⟩ := ap_vec rel ho s2 hsv ap rfl hies s5 hzs (by omega) g1 g2 g3 (by rw [hieb]; simpa [apRoom] using s7)
              exact ⟨β', w', _, r, by simp [q1], .inl rfl, q2, q3, q4⟩
            · cases he
          · split at he
            · rename_i d
              split at he
              · rename_i hd
                cases he
                obtain ⟨s1, s5, s6, s7⟩ := hs
                obtain ⟨news, ap, g1, g2, g3⟩ := apSrc_ok (ty := ty) T hte hie hies hieb hz hzc s5 s6 hdesc rel hsrc s1 hxv
                simp only [A.rep] at hsv
                obtain ⟨β', w', r, q1, q2, q3, q4⟩ := ap_new (rows := []) (olds := []) (wd := te.size) rel hd ap (.inl ⟨hsv, rfl, rfl⟩) (by simp) (by simp [rowsAt]) rfl hies hzs (by omega) g1 g3
                  (by rw [hieb]; simpa [apRoom] using s7)
                simp only [List.nil_append, List.length_nil, Nat.zero_add] at q2 q3 q4
                exact ⟨β', w', _, r, by simp [q1], .inl rfl, q2, q3, q4⟩
              · cases he
            · cases he
          · rename_i w' rows
            split at he
            · rename_i d
              split at he
              · rename_i hd
                cases he
                obtain ⟨s1, s2, rfl, s5, s6, s7⟩ := hs
                obtain ⟨news, ap, g1, g2, g3⟩ := apSrc_ok (ty := ty) T hte hie hies hieb hz hzc s5 s6 hdesc rel hsrc s1 hxv
                simp only [A.rep] at hsv
                obtain ⟨a, rfl, k1, k2⟩ := hsv
                cases a with
                | none =>
                  have hr := k1 rfl
                  subst hr
                  obtain ⟨β', w', r, q1, q2, q3, q4⟩ := ap_new (rows := []) (olds := []) (wd := te.size) rel hd ap (.inl ⟨rfl, rfl, rfl⟩) (by simp) (by simp [rowsAt]) rfl hies hzs (by omega) g1 g3
                    (by rw [hieb]; simpa [apRoom] using s7)
                  exact ⟨β', w', _, r, by simp [List.length_nil] at q1 ⊢; simp [q1], .inl rfl, q2, q3, q4⟩
                | some a =>
                  obtain ⟨k3, k4⟩ := k2 a rfl
                  obtain ⟨olds, p1, p2, _, p4⟩ := rowsAt_vals rows a.off k4
                  obtain ⟨β', w', r, q1, q2, q3, q4⟩ := ap_new (rows := rows) (olds := olds) (wd := te.size) rel hd ap (.inr ⟨s2, a, rfl, fun j u hj => by
                      have := (p2 j u hj).2.2
                      have hne : rows ≠ [] := by
                        rintro rfl
                        have : j < olds.length := (List.getElem?_eq_some_iff.1 hj).1
                        simp at p1
                        simp [p1] at this
                      have k3 := k3 hne
                      obtain ⟨b, k, sp⟩ := a
                      simp only at k3
                      subst k3
                      rw [add_plain]
                      exact this⟩) p1 p4 rfl hies hzs (by omega) g1 g3 (by rw [hieb]; simpa [apRoom] using s7)
                  exact ⟨β', w', _, r, by simp [q1], .inl rfl, q2, q3, q4⟩
              · cases he
            · cases he
          · rename_i o m k n
            split at he
            · rename_i e' w' rows fz ho
              cases he
              obtain ⟨s1, ⟨s2, s3, s4⟩, s8, rfl, rfl, s5, s6, s7⟩ := hs
              obtain ⟨news, ap, g1, g2, g3⟩ := apSrc_ok (ty := ty) T hte hie hies hieb hz hzc s5 s6 hdesc rel hsrc s1 hxv
              by_cases hnm : n = m
              · have hvec : (A.vec o n).rep (envOf cx.Xo β h w) sv := by
                  subst hnm s2
                  simp only [A.rep] at hsv ⊢
                  obtain ⟨e1, wd1, rows1, fz1, k1, k2, k3, k4⟩ := hsv
                  refine ⟨e1, wd1, rows1, fz1, k1, k2, k3, fun hn => ?_⟩
                  rcases k4 hn with ⟨q1, _, q2⟩ | ⟨b, cap, q1, q2, q3, q4, q5, q6⟩
                  · exact .inl ⟨q1, q2⟩
                  · rw [Nat.zero_add] at q5 q6
                    rw [Nat.zero_mul] at q2
                    exact .inr ⟨b, cap, q1, q2, q3, q5, q6⟩
                obtain ⟨β', w', r, q1, q2, q3, q4⟩ := ap_vec rel ho (hnm.trans s3) hvec ap rfl hies s5 hzs (by omega) g1 g2 g3 (by rw [hieb]; simpa [apRoom] using s7)
                have ht : rows.take n = rows := List.take_of_length_le (by omega)
                have hl : rows.length = n := by omega
                rw [hl] at q4
                exact ⟨β', w', _, r, by simp [q1], .inl rfl, by rw [ht]; exact q2, by rw [ht]; exact q3, by rw [ht]; exact q4⟩
              · have s9 := s8.resolve_right hnm
                obtain ⟨β', w', r, q1, q2, q3, q4⟩ := ap_sub (tt := tt) rel ho s3 s2 hsv ap rfl hies s5 s4 s9.1 s9.2 g1 g2 g3
                exact ⟨β', w', _, r, by simp [q1], .inl rfl, q2, q3, q4⟩
            · cases he
          · cases he
        · unfold effAppG at he
          split at he
          · rename_i o n p m _
            split at he
            · rename_i e' cs xs ho hp
              cases he
              obtain ⟨rfl, s2, s3, rfl, s5, s6, s8, s7⟩ := hs
              simp only [A.rep] at hxv
              obtain ⟨b, cs', k1, k2, rfl⟩ := hxv
              obtain ⟨b', c, el', k3, k4, k5, k6⟩ := rel.obj p _ _ hp k1
              cases k3
              have hlen := repL_length _ _ k5
              have ap := apRun_some (w := w) (ty := ty) (a := ⟨b, 0, none⟩) (m := xs.length) (c := m) (news := c.toList) hdesc hie hz (by rw [hies, s5]; omega) (fun j u hj => by
                rw [add_plain]
                simp only [World.cell?, k4, Nat.zero_add]
                simpa using hj) k6
              subst s3
              obtain ⟨β', w', r, q1, q2, q3, q4⟩ := ap_gv rel ho s2 hsv ap (by omega) (by omega) (by omega) s8 k6 k5 (by rw [hieb]; simpa [apRoom] using s7)
              exact ⟨β', w', _, r, by simp [q1], .inl rfl, q2, q3, q4⟩
            · cases he
          · cases he
      · cases he
    · cases he
  · cases he
def effNil (h : Nat → Option Ob) : A → Option Eff
  | .ptr o off => ok1 (.ptr o off)
  | .d (.ptr r off) => ok1 (.d (.ptr r off))
  | .clo f caps => ok1 (.clo f caps)
  | .vptr o n i off => match h o with
    | some (.vec _ _ rows _) => some ⟨n = rows.length, .vptr o n i off, [], [o]⟩
    | _ => none
  | _ => none
theorem vptr_live {o n i off e wd : Nat} {rows : List (List D)} {fz : Nat} {v : Value} (ho : h o = some (.vec e wd rows fz)) (hn : n = rows.length) (hv : (A.vptr o n i off).rep (envOf cx.Xo β h w) v) :
    ∃ b, β o = some (some b) ∧ v = .pointer (some ⟨b, i * wd + off, none⟩) := by
  simp only [A.rep] at hv
  obtain ⟨e', wd', rows', fz', ho', _, _, hv⟩ := hv
  have ho2 : some (Ob.vec e wd rows fz) = some (Ob.vec e' wd' rows' fz') := ho.symm.trans ho'
  cases ho2
  exact hv hn
theorem vec_live {o n e wd : Nat} {rows : List (List D)} {fz : Nat} {v : Value} (ho : h o = some (.vec e wd rows fz)) (hn : n = rows.length) (hv : (A.vec o n).rep (envOf cx.Xo β h w) v) :
    (β o = some none ∧ v = .slice none 0 0) ∨ ∃ b cap, β o = some (some b) ∧ v = .slice (some ⟨b, 0, none⟩) n cap ∧ n ≤ cap ∧ cap ≤ maxLen ∧ (envOf cx.Xo β h w).sz b (cap * wd) := by
  simp only [A.rep] at hv
  obtain ⟨e', wd', rows', fz', ho', _, _, hv⟩ := hv
  have ho2 : some (Ob.vec e wd rows fz) = some (Ob.vec e' wd' rows' fz') := ho.symm.trans ho'
  cases ho2
  exact hv hn
theorem sub_live {o m k n e wd : Nat} {rows : List (List D)} {fz : Nat} {v : Value} (ho : h o = some (.vec e wd rows fz)) (hn : m = rows.length) (hv : (A.sub o m k n).rep (envOf cx.Xo β h w) v) :
    (β o = some none ∧ n = 0 ∧ v = .slice none 0 0) ∨ ∃ b cap, β o = some (some b) ∧ v = .slice (some ⟨b, k * wd, none⟩) n cap ∧ n ≤ cap ∧ k + n ≤ m := by
  simp only [A.rep] at hv
  obtain ⟨e', wd', rows', fz', ho', _, _, hv⟩ := hv
  have ho2 : some (Ob.vec e wd rows fz) = some (Ob.vec e' wd' rows' fz') := ho.symm.trans ho'
  cases ho2
  exact (hv hn).imp_right fun ⟨b, cap, h1, h2, h3, h4, _⟩ => ⟨b, cap, h1, h2, h3, h4⟩
theorem sub_room {o m k n e wd : Nat} {rows : List (List D)} {fz : Nat} {v : Value} (ho : h o = some (.vec e wd rows fz)) (hn : m = rows.length) (hv : (A.sub o m k n).rep (envOf cx.Xo β h w) v) :
    (β o = some none ∧ n = 0 ∧ v = .slice none 0 0) ∨ ∃ b cap, β o = some (some b) ∧ v = .slice (some ⟨b, k * wd, none⟩) n cap ∧ n ≤ cap ∧ k + n ≤ m ∧ k + cap ≤ maxLen ∧ (envOf cx.Xo β h w).sz b ((k + cap) * wd) := by
  simp only [A.rep] at hv
  obtain ⟨e', wd', rows', fz', ho', _, _, hv⟩ := hv
  have ho2 : some (Ob.vec e wd rows fz) = some (Ob.vec e' wd' rows' fz') := ho.symm.trans ho'
  cases ho2
  exact hv hn
theorem effNil_ok {a : A} {e : Eff} {v : Value} {x : Operand} {dst : Option Tmp} {ty : Nat} {pos : String} {af : Array Edge} {g : Option (Nat × Bool)} {ρ : Operand → Value} (hx : ρ x = v) (rel : Rel cx β h w) (he : effNil h a = some e) (hs : e.side) (hv : a.rep (envOf cx.Xo β h w) v) :
    Sound P cx β h w (execOp ρ ⟨dst, .nilCheck x, ty, pos, af, g⟩) e := by
  unfold effNil at he
  split at he
  · cases he
    have hv' := hv
    simp only [A.rep] at hv
    obtain ⟨b, cs, _, _, rfl⟩ := hv
    exact .pure rel (by simp [execOp, hx]) rfl hv'
  · cases he
    have hv' := hv
    simp only [A.rep, D.rep] at hv
    obtain ⟨b, k, rfl, _⟩ := hv
    exact .pure rel (by simp [execOp, hx]) rfl hv'
  · cases he
    have hv' := hv
    simp only [A.rep] at hv
    obtain ⟨vs, rfl, _⟩ := hv
    exact .pure rel (by simp [execOp, hx]) rfl hv'
  · split at he
    · rename_i ho
      cases he
      have hv' := hv
      obtain ⟨b, _, rfl⟩ := vptr_live ho hs hv
      exact .pure rel (by simp [execOp, hx]) rfl hv'
    · cases he
  · cases he
def fieldOf (tt : Types) (s f : Nat) : Option (Nat × Nat) :=
  match tt s with
  | some ts => match ts.k with
    | .struct fs => match fs[f]? with
      | some (t, off) => match tt t with
        | some ti => if ti.size = 0 then none else some (t, off)
        | none => none
      | none => none
    | _ => none
  | none => none
def effFieldAddr (tt : Types) (s f : Nat) (h : Nat → Option Ob) (a : A) : Option Eff :=
  match fieldOf tt s f with
  | some (_, fo) => match a with
    | .ptr o off => ok1 (.ptr o (off + fo))
    | .d (.ptr r off) => ok1 (.d (.ptr r (off + fo)))
    | .vptr o n i off => match h o with
      | some (.vec _ _ rows _) => some ⟨n = rows.length, .vptr o n i (off + fo), [], [o]⟩
      | _ => none
    | _ => none
  | none => none
theorem fieldOf_ok {tt : Types} (T : tt.ok P) {s f t fo : Nat} (hf : fieldOf tt s f = some (t, fo)) : ∃ (fields : Array Field) (x : Field) (ti : TI), P.underlying s = some (.struct fields) ∧ fields[f]? = some x ∧ x.type = t ∧ x.offset = fo ∧ tt t = some ti ∧ ti.size ≠ 0 := by
  unfold fieldOf at hf
  split at hf
  · rename_i ts hts
    split at hf
    · rename_i fs hk
      split at hf
      · rename_i t' off hfs
        split at hf
        · rename_i ti hti
          split at hf
          · cases hf
          · rename_i hne
            cases hf
            have hdesc := (T s ts hts).desc
            rw [hk] at hdesc
            obtain ⟨fields, hd, he⟩ := hdesc
            have : (fields.toList.map fun f => (f.type, f.offset))[f]? = some (t, fo) := by rw [he]; exact hfs
            rw [List.getElem?_map] at this
            cases hx : fields.toList[f]? with
            | none => simp [hx] at this
            | some x =>
              simp [hx] at this
              exact ⟨fields, x, ti, hd, by simpa using hx, this.1, this.2, hti, hne⟩
        · cases hf
      · cases hf
    · cases hf
  · cases hf
theorem run_fieldAt {tt : Types} (T : tt.ok P) {s f t fo : Nat} (hf : fieldOf tt s f = some (t, fo)) (b k : Nat) : (Instr.fieldAt s (.pointer (some ⟨b, k, none⟩)) f).run P w = .ok (.pointer (some ⟨b, k + fo, none⟩)) w := by
  obtain ⟨fields, x, ti, h1, h2, rfl, rfl, h5, h6⟩ := fieldOf_ok T hf
  have hs := Types.size T h5 w
  simp [Instr.fieldAt, run_underlying h1, h2, Instr.sureAddr, fieldPlace, hs, h6, add_plain]
theorem effFieldAddr_ok {tt : Types} (T : tt.ok P) {s f : Nat} {a : A} {e : Eff} {v : Value} (rel : Rel cx β h w) (he : effFieldAddr tt s f h a = some e) (hs : e.side) (hv : a.rep (envOf cx.Xo β h w) v) :
    Sound P cx β h w (do pure (.value (← Instr.fieldAt s v f))) e := by
  unfold effFieldAddr at he
  split at he
  · rename_i t fo hf
    split at he
    · cases he
      simp only [A.rep] at hv
      obtain ⟨b, cs, h1, h2, rfl⟩ := hv
      exact .pure rel (by simp [run_fieldAt T hf]; rfl) rfl (by simp only [A.rep]; exact ⟨b, cs, h1, h2, rfl⟩)
    · cases he
      simp only [A.rep, D.rep] at hv
      obtain ⟨b, k, rfl, h1⟩ := hv
      exact .pure rel (by simp [run_fieldAt T hf]; rfl) rfl (by simp only [A.rep, D.rep]; exact ⟨b, k, by rw [Nat.add_assoc], h1⟩)
    · rename_i o n i off
      split at he
      · rename_i el wd rows fz ho
        cases he
        obtain ⟨b, hb, rfl⟩ := vptr_live ho hs hv
        simp only [] at hs
        exact .pure rel (by simp [run_fieldAt T hf]; rfl) rfl (by
          simp only [A.rep]
          exact ⟨el, wd, rows, fz, ho, by omega, rfl, fun _ => ⟨b, hb, by rw [Nat.add_assoc]⟩⟩)
      · cases he
    · cases he
  · cases he
def effField (tt : Types) (s f : Nat) : A → Option Eff
  | .agg cs => match fieldOf tt s f with
    | some (t, fo) => match loadA tt t cs fo with
      | some (p, a) => some ⟨p, a, [], []⟩
      | none => none
    | none => none
  | _ => none
theorem part_run {tt : Types} (T : tt.ok P) {t : Nat} {cs : List A} {off : Nat} {p : Prop} {a : A} (hl : loadA tt t cs off = some (p, a)) (hp : p) {E : Env} (vs : List Value) (hr : repL E cs vs) (h1 : ∀ v ∈ vs, one v = true) :
    ∃ r, (part t vs.toArray off).run P w = .ok r w ∧ a.rep E r := by
  unfold loadA at hl
  cases ht : tt t with
  | none => simp [ht] at hl
  | some ti =>
    simp only [ht] at hl
    have hag := Types.isAgg T ht w
    by_cases hi : ti.isAgg = true
    · simp only [hi, if_true, Option.some.injEq, Prod.mk.injEq] at hl
      obtain ⟨rfl, rfl⟩ := hl
      have hlen := repL_length cs vs hr
      have hsz := Types.size T ht w
      refine ⟨.agg ((vs.drop off).take ti.size).toArray, ?_, ?_⟩
      · simp only [part, Sem.run_bind, hag, hi, Result.andThen_ok, if_true, hsz, Sem.run_pure]
        congr 2
        apply Array.ext'
        simp [Array.toList_extract, List.extract_eq_take_drop]
      · simp only [A.rep]
        exact ⟨_, rfl, repL_take _ _ _ (repL_drop _ _ _ hr), fun u hu => h1 u (List.mem_of_mem_drop (List.mem_of_mem_take hu))⟩
    · simp only [hi] at hl
      cases hg : cs[off]? with
      | none => simp [hg] at hl
      | some x =>
        simp [hg] at hl
        obtain ⟨_, rfl⟩ := hl
        obtain ⟨v, hv, hx⟩ := repL_get cs vs off x hr hg
        refine ⟨v, ?_, hx⟩
        have hi' : ti.isAgg = false := by simpa using hi
        simp [part, hag, hi', hv]
theorem effField_ok {tt : Types} (T : tt.ok P) {s f : Nat} {a : A} {e : Eff} {v : Value} (rel : Rel cx β h w) (he : effField tt s f a = some e) (hs : e.side) (hv : a.rep (envOf cx.Xo β h w) v) :
    Sound P cx β h w (do pure (.value (← Instr.field s v f))) e := by
  unfold effField at he
  split at he
  · rename_i cs
    split at he
    · rename_i t fo hf
      split at he
      · rename_i p x hl
        cases he
        simp only [A.rep] at hv
        obtain ⟨vs, rfl, h1, h2⟩ := hv
        obtain ⟨r, g1, g2⟩ := part_run (w := w) T hl hs vs h1 h2
        obtain ⟨fields, x, ti, k1, k2, rfl, rfl, k5, k6⟩ := fieldOf_ok T hf
        exact .pure rel (by simp [Instr.field, run_underlying k1, k2, asAgg, g1]) rfl g2
      · cases he
    · cases he
  · cases he
/-- The address of a cell of a variable that is looked at as a slice. -/
def effIdxVs (te : TI) (h : Nat → Option Ob) (i : Int) : A → Option Eff
  | .vs o n => some ⟨(0 ≤ i ∧ i < n) ∧ te.size = 1, .ptr o i.toNat, [], []⟩
  | .sub o m k n => match h o with
    | some (.vec _ wd rows _) => some ⟨(0 ≤ i ∧ i < n) ∧ m = rows.length ∧ wd = te.size, .vptr o m (k + i.toNat) 0, [], [o]⟩
    | _ => none
  | .g o n none => match h o with
    | some (.gv _ cs) => some ⟨(0 ≤ i ∧ i < n) ∧ n = cs.length ∧ te.size = 1, .g o n (some i.toNat), [], [o]⟩
    | _ => none
  | _ => none
def effIndexAddr (tt : Types) (t : Nat) (h : Nat → Option Ob) (x : A) (i : Int) : Option Eff :=
  match tt t with
  | some ti => match ti.k with
    | .slice e => match tt e with
      | some te => match x with
        | .d (.sl wd rows) => some ⟨(0 ≤ i ∧ i < rows.length) ∧ wd = te.size, .d (.ptr (rows.getD i.toNat []) 0), [], []⟩
        | .csl wd rows => some ⟨(0 ≤ i ∧ i < rows.length) ∧ wd = te.size, .d (.ptr (rows.getD i.toNat []) 0), [], []⟩
        | .vec o n => match h o with
          | some (.vec _ wd rows _) => some ⟨(0 ≤ i ∧ i < n) ∧ n = rows.length ∧ wd = te.size, .vptr o n i.toNat 0, [], [o]⟩
          | _ => none
        | x => effIdxVs te h i x
      | none => none
    | .array n e => match tt e with
      | some te => match x with
        | .ptr o off => some ⟨0 ≤ i ∧ i < n, .ptr o (off + i.toNat * te.size), [], []⟩
        | .d (.ptr r off) => some ⟨0 ≤ i ∧ i < n, .d (.ptr r (off + i.toNat * te.size)), [], []⟩
        | .vptr o m j off => match h o with
          | some (.vec _ _ rows _) => some ⟨(0 ≤ i ∧ i < n) ∧ m = rows.length, .vptr o m j (off + i.toNat * te.size), [], [o]⟩
          | _ => none
        | _ => none
      | none => none
    | _ => none
  | none => none
theorem add_block (a : Addr) (n : Nat) : (a.add n).block = a.block := by unfold Addr.add; split <;> rfl
theorem add_off (a : Addr) (n : Nat) : (a.add n).off = a.off + n := by unfold Addr.add; split <;> simp_all
theorem add_mk {a : Addr} (ha : a.spot = none) (n : Nat) : a.add n = ⟨a.block, a.off + n, none⟩ := by
  obtain ⟨b, k, sp⟩ := a
  simp only at ha
  subst ha
  exact add_plain b k n
theorem run_indexAt_slice' {t e : Nat} (hd : P.underlying t = some (.slice e)) {sz : Nat} (hs : (sizeOf e).run P w = .ok sz w) {a : Addr} {len cap : Nat} {k : IntKind} {i : Int} (h1 : 0 ≤ i) (h2 : i < len) :
    (Instr.indexAt t (.slice (some a) len cap) (.int k i)).run P w = .ok (.pointer (some (a.add (i.toNat * sz)))) w := by
  simp [Instr.indexAt, asIntOf, run_underlying hd, h1, h2, hs]
theorem effIndexAddr_ok {tt : Types} (T : tt.ok P) {t : Nat} {x : A} {k : IntKind} {i : Int} {e : Eff} {v : Value} (rel : Rel cx β h w) (he : effIndexAddr tt t h x i = some e) (hs : e.side) (hv : x.rep (envOf cx.Xo β h w) v) :
    Sound P cx β h w (do pure (.value (← Instr.indexAt t v (.int k i)))) e := by
  unfold effIndexAddr at he
  split at he
  · rename_i ti ht
    have hdesc := (T t ti ht).desc
    have hslice : ∀ {wd : Nat} {rows : List (List D)} {a : Option Addr} {cap el : Nat} {te : TI}, ti.k = .slice el → tt el = some te → ((0 ≤ i ∧ i < rows.length) ∧ wd = te.size) → (a = none → rows = []) →
        (∀ a', a = some a' → (rows ≠ [] → a'.spot = none) ∧ rowsAt (envOf cx.Xo β h w).R ((envOf cx.Xo β h w).R a'.block) wd a'.off rows) →
        Sound P cx β h w (do pure (.value (← Instr.indexAt t (.slice a rows.length cap) (.int k i)))) ⟨(0 ≤ i ∧ i < rows.length) ∧ wd = te.size, .d (.ptr (rows.getD i.toNat []) 0), [], []⟩ := by
      intro wd rows a cap el te hk hte hs h1 h2
      obtain ⟨⟨s1, s2⟩, rfl⟩ := hs
      rw [hk] at hdesc
      simp only [TK.ok] at hdesc
      cases a with
      | none => have := h1 rfl; subst this; simp at s2; omega
      | some a =>
        obtain ⟨h3, h4⟩ := h2 a rfl
        refine .pure rel (r := .pointer (some (a.add (i.toNat * te.size)))) (by simp [run_indexAt_slice' hdesc (Types.size T hte w) s1 s2]) rfl ?_
        simp only [A.rep, D.rep]
        exact ⟨a.block, a.off + i.toNat * te.size, by rw [add_mk (h3 (by rintro rfl; simp at s2; omega))]; rfl, (rowsAt_get rows a.off i.toNat (by omega) h4).2⟩
    split at he
    · rename_i el hk
      split at he
      · rename_i te hte
        split at he
        · cases he
          simp only [A.rep, D.rep] at hv
          obtain ⟨a, cap, rfl, _, h1, h2⟩ := hv
          exact hslice hk hte hs (fun ha => (h1 ha).1) h2
        · cases he
          simp only [A.rep] at hv
          obtain ⟨a, rfl, h1, h2⟩ := hv
          exact hslice hk hte hs h1 h2
        · rename_i o n
          split at he
          · rename_i e' wd rows fz ho
            cases he
            obtain ⟨⟨s1, s2⟩, s3, rfl⟩ := hs
            rw [hk] at hdesc
            simp only [TK.ok] at hdesc
            rcases vec_live ho s3 hv with ⟨hb, rfl⟩ | ⟨b, cap, hb, rfl, _, _, _⟩
            · have hd := rel.obj o _ _ ho hb
              simp only [Ob.rep] at hd
              obtain ⟨_, _, hd | ⟨_, _, hd, _⟩⟩ := hd
              · rw [hd.2] at s3; simp at s3; omega
              · cases hd
            · refine .pure rel (r := .pointer (some ⟨b, i.toNat * te.size, none⟩)) (by simp [run_indexAt_slice' hdesc (Types.size T hte w) s1 s2, add_plain]) rfl ?_
              simp only [A.rep]
              exact ⟨e', te.size, rows, fz, ho, by omega, rfl, fun _ => ⟨b, hb, rfl⟩⟩
          · cases he
        · unfold effIdxVs at he
          split at he
          · rename_i o n _ _ _
            cases he
            obtain ⟨⟨s1, s2⟩, s3⟩ := hs
            rw [hk] at hdesc
            simp only [TK.ok] at hdesc
            simp only [A.rep] at hv
            obtain ⟨b, cs, h1, h2, rfl⟩ := hv
            refine .pure rel (r := .pointer (some ⟨b, i.toNat * te.size, none⟩)) (by simp [run_indexAt_slice' hdesc (Types.size T hte w) s1 s2, add_plain]) rfl ?_
            simp only [A.rep]
            exact ⟨b, cs, h1, h2, by rw [s3, Nat.mul_one]⟩
          · rename_i o m k' n _ _ _
            split at he
            · rename_i e' wd rows fz ho
              cases he
              obtain ⟨⟨s1, s2⟩, s3, rfl⟩ := hs
              rw [hk] at hdesc
              simp only [TK.ok] at hdesc
              rcases sub_live ho s3 hv with ⟨_, rfl, _⟩ | ⟨b, cap, hb, rfl, _, _⟩
              · omega
              · refine .pure rel (r := .pointer (some ⟨b, k' * te.size + i.toNat * te.size, none⟩)) (by simp [run_indexAt_slice' hdesc (Types.size T hte w) s1 s2, add_plain]) rfl ?_
                simp only [A.rep]
                exact ⟨e', te.size, rows, fz, ho, by omega, rfl, fun _ => ⟨b, hb, by rw [Nat.add_mul]; rfl⟩⟩
            · cases he
          · rename_i o n _ _ _
            split at he
            · rename_i e' cs ho
              cases he
              obtain ⟨⟨s1, s2⟩, s3, s4⟩ := hs
              rw [hk] at hdesc
              simp only [TK.ok] at hdesc
              rcases g_live ho s3 hv with ⟨hb, rfl⟩ | ⟨b, cap, hb, rfl, _, _⟩
              · have hr0 : cs = [] := by
                  rcases rel.obj o _ _ ho hb with hd | ⟨_, _, _, _, hd, _⟩
                  · exact hd.2
                  · cases hd
                subst hr0
                simp at s3
                omega
              · refine .pure rel (r := .pointer (some ⟨b, i.toNat * te.size, none⟩)) (by simp [run_indexAt_slice' hdesc (Types.size T hte w) s1 s2, add_plain]) rfl ?_
                simp only [A.rep]
                exact ⟨e', cs, ho, by omega, rfl, fun _ => ⟨b, hb, by rw [s4, Nat.mul_one]⟩⟩
            · cases he
          · cases he
      · cases he
    · rename_i n el hk
      rw [hk] at hdesc
      simp only [TK.ok] at hdesc
      split at he
      · rename_i te hte
        have hsz := Types.size T hte w
        split at he
        · cases he
          obtain ⟨s1, s2⟩ := hs
          simp only [A.rep] at hv
          obtain ⟨b, cs, h1, h2, rfl⟩ := hv
          refine .pure rel (r := .pointer (some ⟨b, _, none⟩)) (by simp [Instr.indexAt, asIntOf, run_underlying hdesc, Instr.sureAddr, s1, s2, hsz, add_plain]; rfl) rfl ?_
          simp only [A.rep]
          exact ⟨b, cs, h1, h2, rfl⟩
        · cases he
          obtain ⟨s1, s2⟩ := hs
          simp only [A.rep, D.rep] at hv
          obtain ⟨b, k', rfl, h1⟩ := hv
          refine .pure rel (r := .pointer (some ⟨b, _, none⟩)) (by simp [Instr.indexAt, asIntOf, run_underlying hdesc, Instr.sureAddr, s1, s2, hsz, add_plain]; rfl) rfl ?_
          simp only [A.rep, D.rep]
          exact ⟨b, k', by rw [Nat.add_assoc], h1⟩
        · split at he
          · rename_i el' wd rows fz ho
            cases he
            obtain ⟨⟨s1, s2⟩, s3⟩ := hs
            obtain ⟨b, hb, rfl⟩ := vptr_live ho s3 hv
            refine .pure rel (r := .pointer (some ⟨b, _, none⟩)) (by simp [Instr.indexAt, asIntOf, run_underlying hdesc, Instr.sureAddr, s1, s2, hsz, add_plain]; rfl) rfl ?_
            simp only [A.rep]
            exact ⟨el', wd, rows, fz, ho, by omega, rfl, fun _ => ⟨b, hb, by rw [Nat.add_assoc]⟩⟩
          · cases he
        · cases he
      · cases he
    · cases he
  · cases he
end
end Go.Am
namespace Go.Am
variable [T : Tab]
section
variable {P : Program} {cx : Cx} {β : Nat → Option (Option Nat)} {h : Nat → Option Ob} {w : World}
/-- A bound of a slice expression: a number, or none. -/
def bnd (dflt : Int) : Option A → Option Int
  | none => some dflt
  | some (.d (.lit (.int _ i))) => some i
  | _ => none
/-- Slicing a slice over an object. -/
def sliceSub (te : TI) (h : Nat → Option Ob) (o m k n : Nat) (l u : Option Int) (mx : Option A) : Option Eff := match h o with
  | some (.vec _ wd rows _) => match l, u, mx with
    | some l, some u, none => some ⟨m = rows.length ∧ (0 ≤ l ∧ l ≤ u ∧ u ≤ n) ∧ (l = 0 ∨ l < n) ∧ wd = te.size, .sub o m (k + l.toNat) (u.toNat - l.toNat), [], [o]⟩
    | _, _, _ => none
  | _ => none
def effSlice (tt : Types) (t : Nat) (h : Nat → Option Ob) (x : A) (lo hi mx : Option A) : Option Eff :=
  match tt t with
  | some ti => match ti.k with
    | .slice e => match tt e with
      | some te => match x with
        | .d (.sl wd rows) => match bnd 0 lo, bnd rows.length hi, mx with
          | some l, some u, none => some ⟨(0 ≤ l ∧ l ≤ u ∧ u ≤ rows.length) ∧ wd = te.size, .d (.sl wd ((rows.take u.toNat).drop l.toNat)), [], []⟩
          | some l, some u, some (.d (.lit (.int _ m))) => some ⟨(0 ≤ l ∧ l ≤ u ∧ u ≤ rows.length) ∧ wd = te.size ∧ m = u, .csl wd ((rows.take u.toNat).drop l.toNat), [], []⟩
          | _, _, _ => none
        | .csl wd rows => match bnd 0 lo, bnd rows.length hi, mx with
          | some l, some u, none => some ⟨(0 ≤ l ∧ l ≤ u ∧ u ≤ rows.length) ∧ wd = te.size, .d (.sl wd ((rows.take u.toNat).drop l.toNat)), [], []⟩
          | some l, some u, some (.d (.lit (.int _ m))) => some ⟨(0 ≤ l ∧ l ≤ u ∧ u ≤ rows.length) ∧ wd = te.size ∧ m = u, .csl wd ((rows.take u.toNat).drop l.toNat), [], []⟩
          | _, _, _ => none
        | .snil => match bnd 0 lo, bnd 0 hi, mx with
          | some l, some u, none => some ⟨l = 0 ∧ u = 0, .snil, [], []⟩
          | some l, some u, some (.d (.lit (.int _ m))) => some ⟨l = 0 ∧ u = 0 ∧ m = 0, .snil, [], []⟩
          | _, _, _ => none
        | .vec o n => match h o with
          | some (.vec e' wd rows _) => match bnd 0 lo, bnd n hi, mx with
            | some l, some u, none => some ⟨n = rows.length ∧ (0 ≤ l ∧ l ≤ u ∧ u ≤ n) ∧ wd = te.size, .d (.sl wd ((rows.take u.toNat).drop l.toNat)), [(o, .vec e' wd rows rows.length)], [o]⟩
            | some l, some u, some (.d (.lit (.int _ m))) => some ⟨n = rows.length ∧ (0 ≤ l ∧ l ≤ u ∧ u ≤ n) ∧ wd = te.size ∧ m = u, .csl wd ((rows.take u.toNat).drop l.toNat), [(o, .vec e' wd rows rows.length)], [o]⟩
            | _, _, _ => none
          | _ => none
        | .sub o m k n => sliceSub te h o m k n (bnd 0 lo) (bnd n hi) mx
        | _ => none
      | none => none
    | .string => match x, mx with
      | .d (.lit (.string s)), none => match bnd 0 lo, bnd s.size hi with
        | some l, some u => some ⟨0 ≤ l ∧ l ≤ u ∧ u ≤ s.size, .d (.lit (.string (s.extract l.toNat u.toNat))), [], []⟩
        | _, _ => none
      | _, _ => none
    | .array n e => match tt e, x, lo, hi, mx with
      | some _, .ptr o 0, none, none, none => some ⟨True, .vs o n, [], []⟩
      | _, _, _, _, _ => none
    | _ => none
  | none => none
theorem bnd_ok {E : Env} {d u : Int} {x : Option A} {y : Option Value} (hb : bnd d x = some u) (hx : ∀ a, x = some a → ∃ v, y = some v ∧ a.rep E v) (hn : x = none → y = none) : (y = none ∧ u = d) ∨ ∃ k, y = some (.int k u) := by
  cases x with
  | none => simp [bnd] at hb; exact .inl ⟨hn rfl, hb.symm⟩
  | some a =>
    obtain ⟨v, rfl, hv⟩ := hx a rfl
    unfold bnd at hb
    split at hb
    · rename_i q; cases q
    · rename_i k i q
      cases q
      cases hb
      simp only [A.rep, D.rep] at hv
      rw [hv.1]
      exact .inr ⟨k, rfl⟩
    · cases hb
theorem run_sliceBound {k : IntKind} {i : Int} {y : Nat} {c : BoundsCode} (h1 : 0 ≤ i) (h2 : i ≤ y) : (Instr.sliceBound (.int k i) y c).run P w = .ok i.toNat w := by
  simp [Instr.sliceBound, asIntOf, h1, h2]
/-- The bounds of 's[l:u]' and 's[l:u:u]'. -/
theorem run_bounds {len cap : Nat} {l u : Int} {lo hi mx : Option Value} (hlo : (lo = none ∧ l = 0) ∨ ∃ k, lo = some (.int k l)) (hhi : (hi = none ∧ u = len) ∨ ∃ k, hi = some (.int k u)) (h1 : 0 ≤ l) (h2 : l ≤ u) (h3 : u ≤ len) (h4 : len ≤ cap)
    (hmx : mx = none ∨ ((∃ k, hi = some (.int k u)) ∧ ∃ k, mx = some (.int k u))) : (Instr.sliceBounds true len cap lo hi mx).run P w = .ok (l.toNat, u.toNat, if mx = none then cap else u.toNat) w := by
  have hu : u ≤ (u.toNat : Int) := by omega
  have hc : u ≤ (cap : Int) := by omega
  have hu0 : 0 ≤ u := by omega
  have hl2 : l ≤ (u.toNat : Int) := by omega
  have hlen : ((len : Int)).toNat = len := by omega
  rcases hmx with rfl | ⟨⟨k2, rfl⟩, k3, rfl⟩
  · rcases hlo with ⟨rfl, rfl⟩ | ⟨k, rfl⟩ <;> rcases hhi with ⟨rfl, rfl⟩ | ⟨k2, rfl⟩ <;>
      simp [Instr.sliceBounds, run_sliceBound, h1, h2, hc, hu0, hl2]
    all_goals (try (rw [run_sliceBound h1 (by omega)]; simp))
  · have b1 := run_sliceBound (P := P) (w := w) (k := k2) (c := .slice3B) hu0 hu
    have b0 := run_sliceBound (P := P) (w := w) (k := k3) (c := .slice3Acap) hu0 hc
    rcases hlo with ⟨rfl, rfl⟩ | ⟨k, rfl⟩
    · simp [Instr.sliceBounds, b0, b1]
    · have b2 := run_sliceBound (P := P) (w := w) (k := k) (c := .slice3C) h1 hl2
      simp [Instr.sliceBounds, b0, b1, b2]
/-- Slicing what is a slice in memory. -/
theorem cut_rows {R : Rd} {a : Option Addr} {wd cap : Nat} {rows : List (List D)} {l u m : Nat} (h1 : l ≤ u) (h2 : u ≤ rows.length) (hm : u ≤ m) (hcm : m ≤ cap)
    (ha : a = none → rows = [] ∧ cap = 0) (hr : ∀ a', a = some a' → (rows ≠ [] → a'.spot = none) ∧ rowsAt R (R a'.block) wd a'.off rows) :
    ∃ a2 : Option Addr, (if m = l then a else a.map (·.add (l * wd))) = a2 ∧ (a2 = none → (rows.take u).drop l = [] ∧ m - l = 0) ∧ ((rows.take u).drop l).length = u - l ∧
      ∀ a', a2 = some a' → ((rows.take u).drop l ≠ [] → a'.spot = none) ∧ rowsAt R (R a'.block) wd a'.off ((rows.take u).drop l) := by
  refine ⟨_, rfl, fun hn => ?_, by simp; omega, fun a' ha' => ?_⟩
  · have hno : a = none := by
      split at hn
      · exact hn
      · cases a with
        | none => rfl
        | some x => cases hn
    obtain ⟨rfl, rfl⟩ := ha hno
    exact ⟨by simp, by omega⟩
  · cases a with
    | none => split at ha' <;> cases ha'
    | some x =>
      obtain ⟨h3, h4⟩ := hr x rfl
      split at ha'
      · rename_i hml
        cases ha'
        have : (rows.take u).drop l = [] := List.drop_eq_nil_of_le (by simp; omega)
        rw [this]
        simp [rowsAt]
      · cases ha'
        show ((rows.take u).drop l ≠ [] → (x.add (l * wd)).spot = none) ∧ rowsAt R (R (x.add (l * wd)).block) wd (x.add (l * wd)).off _
        rw [add_block, add_off]
        refine ⟨fun hne => ?_, ?_⟩
        · rw [add_mk (h3 (by rintro rfl; simp at hne))]
        exact rowsAt_drop _ _ _ (by simp; omega) (rowsAt_take _ _ _ h4)
theorem run_slice {t e : Nat} {te : TI} {tt : Types} (T : tt.ok P) (hd : P.underlying t = some (.slice e)) (hte : tt e = some te) {a : Option Addr} {len cap l u m : Nat} {lo hi mx : Option Value}
    (hb : (Instr.sliceBounds true len cap lo hi mx).run P w = .ok (l, u, m) w) :
    (Instr.sliceAt t (.slice a len cap) lo hi mx).run P w = .ok (.slice (if m = l then a else a.map (·.add (l * te.size))) (u - l) (m - l)) w := by
  simp [Instr.sliceAt, Instr.slice, run_underlying hd, hb, Types.size T hte w]
/-- What a slice expression yields of data in memory. -/
theorem slice_data {t e : Nat} {te : TI} {tt : Types} (T : tt.ok P) (hd : P.underlying t = some (.slice e)) (hte : tt e = some te) (rel : Rel cx β h w) {a : Option Addr} {cap wd : Nat} {rows : List (List D)} {l u : Int} {lo hi mx : Option Value}
    (hcap : rows.length ≤ cap) (hs : (0 ≤ l ∧ l ≤ u ∧ u ≤ rows.length) ∧ wd = te.size) (ha : a = none → rows = [] ∧ cap = 0) (hr : ∀ a', a = some a' → (rows ≠ [] → a'.spot = none) ∧ rowsAt (envOf cx.Xo β h w).R ((envOf cx.Xo β h w).R a'.block) wd a'.off rows)
    (hlo : (lo = none ∧ l = 0) ∨ ∃ k, lo = some (.int k l)) (hhi : (hi = none ∧ u = rows.length) ∨ ∃ k, hi = some (.int k u)) (hmx : mx = none ∨ ((∃ k, hi = some (.int k u)) ∧ ∃ k, mx = some (.int k u))) :
    ∃ r, (Instr.sliceAt t (.slice a rows.length cap) lo hi mx).run P w = .ok r w ∧ (mx = none → (A.d (.sl wd ((rows.take u.toNat).drop l.toNat))).rep (envOf cx.Xo β h w) r) ∧
      (mx ≠ none → (A.csl wd ((rows.take u.toNat).drop l.toNat)).rep (envOf cx.Xo β h w) r) := by
  obtain ⟨⟨s1, s2, s3⟩, rfl⟩ := hs
  have hb := run_bounds (P := P) (w := w) hlo hhi s1 s2 s3 hcap hmx
  have hrun := run_slice T hd hte (a := a) hb
  refine ⟨_, hrun, fun hm => ?_, fun hm => ?_⟩
  · subst hm
    simp only [if_true]
    obtain ⟨a2, g1, g2, g3, g4⟩ := cut_rows (l := l.toNat) (u := u.toNat) (m := cap) (by omega) (by omega) (by omega) (Nat.le_refl _) ha hr
    rw [g1]
    simp only [A.rep, D.rep]
    exact ⟨a2, cap - l.toNat, by rw [g3], by rw [g3]; omega, g2, g4⟩
  · simp only [hm, if_false]
    obtain ⟨a2, g1, g2, g3, g4⟩ := cut_rows (l := l.toNat) (u := u.toNat) (m := u.toNat) (by omega) (by omega) (Nat.le_refl _) (by omega) ha hr
    rw [g1]
    simp only [A.rep]
    exact ⟨a2, by rw [g3], fun hn => (g2 hn).1, g4⟩
theorem optRep_lo {E : Env} {lo : Option A} {lov : Option Value} (hx : ∀ a, lo = some a → ∃ v, lov = some v ∧ a.rep E v) {k : IntKind} {m : Int} (h : lo = some (.d (.lit (.int k m)))) : lov = some (.int k m) := by
  obtain ⟨v, rfl, hv⟩ := hx _ h
  simp only [A.rep, D.rep] at hv
  rw [hv.1]
theorem effSlice_ok {tt : Types} (T : tt.ok P) {t : Nat} {x : A} {lo hi mx : Option A} {lov hiv mxv : Option Value} {e : Eff} {v : Value} (rel : Rel cx β h w) (he : effSlice tt t h x lo hi mx = some e) (hs : e.side) (hv : x.rep (envOf cx.Xo β h w) v)
    (hlo : ∀ a, lo = some a → ∃ v, lov = some v ∧ a.rep (envOf cx.Xo β h w) v) (hlon : lo = none → lov = none) (hhi : ∀ a, hi = some a → ∃ v, hiv = some v ∧ a.rep (envOf cx.Xo β h w) v) (hhin : hi = none → hiv = none)
    (hmx : ∀ a, mx = some a → ∃ v, mxv = some v ∧ a.rep (envOf cx.Xo β h w) v) (hmxn : mx = none → mxv = none) (hmh : mx ≠ none → hi ≠ none) :
    Sound P cx β h w (do pure (.value (← Instr.sliceAt t v lov hiv mxv))) e := by
  unfold effSlice at he
  split at he
  · rename_i ti ht
    have hdesc := (T t ti ht).desc
    split at he
    · rename_i el hk
      rw [hk] at hdesc
      simp only [TK.ok] at hdesc
      split at he
      · rename_i te hte
        have hsome : ∀ {d u : Int} , bnd d hi = some u → mx ≠ none → ∃ k, hiv = some (.int k u) := by
          intro d u hb hm
          rcases bnd_ok hb hhi hhin with ⟨q2, _⟩ | h
          · cases hh : hi with
            | none => exact absurd hh (hmh hm)
            | some a =>
              obtain ⟨v', q, _⟩ := hhi a hh
              rw [q] at q2
              cases q2
          · exact h
        split at he
        · rename_i wd rows
          simp only [A.rep, D.rep] at hv
          obtain ⟨a, cap, rfl, hcap, h1, h2⟩ := hv
          split at he
          · rename_i l u bl bu
            cases he
            obtain ⟨r, g1, g2, _⟩ := slice_data (w := w) T hdesc hte rel hcap hs h1 h2 (bnd_ok bl hlo hlon) (bnd_ok bu hhi hhin) (.inl (hmxn rfl))
            exact .pure rel (by simp [g1]) rfl (g2 (hmxn rfl))
          · rename_i l u k m bl bu
            cases he
            obtain ⟨s1, s2, rfl⟩ := hs
            have hm := optRep_lo hmx rfl
            obtain ⟨r, g1, _, g3⟩ := slice_data (w := w) T hdesc hte rel hcap ⟨s1, s2⟩ h1 h2 (bnd_ok bl hlo hlon) (bnd_ok bu hhi hhin) (.inr ⟨hsome bu (by simp), _, hm⟩)
            exact .pure rel (by simp [g1]) rfl (g3 (by rw [hm]; simp))
          · cases he
        · rename_i wd rows
          simp only [A.rep] at hv
          obtain ⟨a, rfl, h1, h2⟩ := hv
          have h1' : a = none → rows = [] ∧ rows.length = 0 := fun ha => ⟨h1 ha, by simp [h1 ha]⟩
          split at he
          · rename_i l u bl bu
            cases he
            obtain ⟨r, g1, g2, _⟩ := slice_data (w := w) T hdesc hte rel (Nat.le_refl _) hs h1' h2 (bnd_ok bl hlo hlon) (bnd_ok bu hhi hhin) (.inl (hmxn rfl))
            exact .pure rel (by simp [g1]) rfl (g2 (hmxn rfl))
          · rename_i l u k m bl bu
            cases he
            obtain ⟨s1, s2, rfl⟩ := hs
            have hm := optRep_lo hmx rfl
            obtain ⟨r, g1, _, g3⟩ := slice_data (w := w) T hdesc hte rel (Nat.le_refl _) ⟨s1, s2⟩ h1' h2 (bnd_ok bl hlo hlon) (bnd_ok bu hhi hhin) (.inr ⟨hsome bu (by simp), _, hm⟩)
            exact .pure rel (by simp [g1]) rfl (g3 (by rw [hm]; simp))
          · cases he
        · simp only [A.rep] at hv
          subst hv
          split at he
          · rename_i l u bl bu
            cases he
            obtain ⟨rfl, rfl⟩ := hs
            have hb := run_bounds (P := P) (w := w) (len := 0) (cap := 0) (bnd_ok bl hlo hlon) (bnd_ok bu hhi hhin) (by omega) (by omega) (by omega) (by omega) (.inl (hmxn rfl))
            have hrun := run_slice T hdesc hte (a := none) hb
            have hmv := hmxn rfl
            subst hmv
            exact .pure rel (r := .slice none 0 0) (by simp [hrun]) rfl (by simp [A.rep])
          · rename_i l u k m bl bu
            cases he
            obtain ⟨rfl, rfl, rfl⟩ := hs
            have hm := optRep_lo hmx rfl
            have hb := run_bounds (P := P) (w := w) (len := 0) (cap := 0) (bnd_ok bl hlo hlon) (bnd_ok bu hhi hhin) (by omega) (by omega) (by omega) (by omega) (.inr ⟨hsome bu (by simp), _, hm⟩)
            have hrun := run_slice T hdesc hte (a := none) hb
            exact .pure rel (r := .slice none 0 0) (by simp [hrun]) rfl (by simp [A.rep])
          · cases he
        · rename_i o n
          split at he
          · rename_i e' wd rows fz ho
            obtain ⟨r1, L1⟩ := rel.shut ho
            have hcut : ∀ {l u : Int}, bnd 0 lo = some l → bnd n hi = some u → n = rows.length → ((0 ≤ l ∧ l ≤ u ∧ u ≤ n) ∧ wd = te.size) → (mxv = none ∨ ((∃ k, hiv = some (.int k u)) ∧ ∃ k, mxv = some (.int k u))) →
                ∃ r, (Instr.sliceAt t v lov hiv mxv).run P w = .ok r w ∧ (mxv = none → (A.d (.sl wd ((rows.take u.toNat).drop l.toNat))).rep (envOf cx.Xo β (put h o (some (.vec e' wd rows rows.length))) w) r) ∧
                  (mxv ≠ none → (A.csl wd ((rows.take u.toNat).drop l.toNat)).rep (envOf cx.Xo β (put h o (some (.vec e' wd rows rows.length))) w) r) := by
              intro l u bl bu hn hs hmm
              subst hn
              rcases vec_live ho rfl hv with ⟨hb, rfl⟩ | ⟨b, cap, hb, rfl, hcap, _, _⟩
              · have hd := rel.obj o _ _ ho hb
                simp only [Ob.rep] at hd
                obtain ⟨_, _, hd | ⟨_, _, hd, _⟩⟩ := hd
                · have hr0 := hd.2
                  subst hr0
                  exact slice_data (rows := []) (cap := 0) (a := none) (w := w) T hdesc hte r1 (Nat.le_refl _) hs (fun _ => ⟨rfl, rfl⟩) (fun a' q => by cases q) (bnd_ok bl hlo hlon) (bnd_ok bu hhi hhin) hmm
                · cases hd
              · have hrep := vec_rep r1 (put_same _ _ _) rfl hb hcap
                simp only [D.rep] at hrep
                obtain ⟨a, cap', q1, q2, q3, q4⟩ := hrep
                simp only [Value.slice.injEq, true_and] at q1
                obtain ⟨rfl, rfl⟩ := q1
                exact slice_data (w := w) T hdesc hte r1 hcap hs q3 q4 (bnd_ok bl hlo hlon) (bnd_ok bu hhi hhin) hmm
            split at he
            · rename_i l u bl bu
              cases he
              obtain ⟨s1, s2, s3⟩ := hs
              obtain ⟨r, g1, g2, _⟩ := hcut bl bu s1 ⟨s2, s3⟩ (.inl (hmxn rfl))
              exact ⟨β, w, _, r, by simp [g1], .inl rfl, r1, L1, g2 (hmxn rfl)⟩
            · rename_i l u k m bl bu
              cases he
              obtain ⟨s1, s2, s3, rfl⟩ := hs
              have hm := optRep_lo hmx rfl
              obtain ⟨r, g1, _, g3⟩ := hcut bl bu s1 ⟨s2, s3⟩ (.inr ⟨hsome bu (by simp), _, hm⟩)
              exact ⟨β, w, _, r, by simp [g1], .inl rfl, r1, L1, g3 (by rw [hm]; simp)⟩
            · cases he
          · cases he
        · rename_i o m k n
          unfold sliceSub at he
          split at he
          · rename_i e' wd rows fz ho
            split at he
            · rename_i l u bl bu
              cases he
              obtain ⟨s1, ⟨s2, s3, s4⟩, s5, rfl⟩ := hs
              have hmv := hmxn rfl
              rcases sub_room ho s1 hv with ⟨hb, rfl, rfl⟩ | ⟨b, cap, hb, rfl, hcap, hkn, hcm, hsz⟩
              · have hb' := run_bounds (P := P) (w := w) (len := 0) (cap := 0) (bnd_ok bl hlo hlon) (bnd_ok bu hhi hhin) s2 s3 (by simpa using s4) (by omega) (.inl hmv)
                have hrun := run_slice T hdesc hte (a := none) hb'
                have hu0 : u.toNat = 0 := by omega
                have hl0 : l.toNat = 0 := by omega
                subst hmv
                refine .pure rel (r := .slice none 0 0) (by simp [hrun, hu0, hl0]) rfl ?_
                simp only [A.rep]
                exact ⟨_, _, _, _, ho, by omega, by first | rfl | trivial, fun _ => .inl ⟨hb, by omega, by first | rfl | trivial⟩⟩
              · have hb' := run_bounds (P := P) (w := w) (len := n) (cap := cap) (bnd_ok bl hlo hlon) (bnd_ok bu hhi hhin) s2 s3 s4 hcap (.inl hmv)
                have hrun := run_slice T hdesc hte (a := some ⟨b, k * te.size, none⟩) hb'
                subst hmv
                have ha : (if (cap : Nat) = l.toNat then some (⟨b, k * te.size, none⟩ : Addr) else (some (⟨b, k * te.size, none⟩ : Addr)).map (·.add (l.toNat * te.size))) = some ⟨b, (k + l.toNat) * te.size, none⟩ := by
                  split
                  · have : l.toNat = 0 := by omega
                    rw [this]; rfl
                  · rw [Option.map_some, add_plain, Nat.add_mul]
                refine .pure rel (r := .slice (some ⟨b, (k + l.toNat) * te.size, none⟩) (u.toNat - l.toNat) (cap - l.toNat)) (by simp only [if_true] at hrun; rw [ha] at hrun; simp [hrun]) rfl ?_
                simp only [A.rep]
                exact ⟨_, _, _, _, ho, by omega, by first | rfl | trivial, fun _ => .inr ⟨b, _, hb, rfl, by omega, by omega, by omega, by rwa [show k + l.toNat + (cap - l.toNat) = k + cap by omega]⟩⟩
            · cases he
          · cases he
        · cases he
      · cases he
    · rename_i hk
      rw [hk] at hdesc
      simp only [TK.ok] at hdesc
      split at he
      · rename_i s
        split at he
        · rename_i l u bl bu
          cases he
          obtain ⟨s1, s2, s3⟩ := hs
          simp only [A.rep, D.rep] at hv
          rw [hv.1, hmxn rfl]
          have hu0 : 0 ≤ u := by omega
          have hl2 : l ≤ (u.toNat : Int) := by omega
          refine .pure rel (r := .string (s.extract l.toNat u.toNat)) ?_ rfl (by simp [A.rep, D.rep, one])
          rcases bnd_ok bl hlo hlon with ⟨q1, rfl⟩ | ⟨k1, q1⟩ <;> rcases bnd_ok bu hhi hhin with ⟨q2, q3⟩ | ⟨k2, q2⟩
          · subst q3
            simp [q1, q2, Instr.sliceAt, Instr.slice, run_underlying hdesc, Instr.sliceBounds]
          · have b1 := run_sliceBound (P := P) (w := w) (k := k2) (c := .sliceAlen) hu0 s3
            simp [q1, q2, Instr.sliceAt, Instr.slice, run_underlying hdesc, Instr.sliceBounds, b1]
          · subst q3
            have b1 := run_sliceBound (P := P) (w := w) (k := k1) (c := .sliceB) s1 s2
            simp [q1, q2, Instr.sliceAt, Instr.slice, run_underlying hdesc, Instr.sliceBounds, b1]
          · have b1 := run_sliceBound (P := P) (w := w) (k := k2) (c := .sliceAlen) hu0 s3
            have b2 := run_sliceBound (P := P) (w := w) (k := k1) (c := .sliceB) s1 hl2
            simp [q1, q2, Instr.sliceAt, Instr.slice, run_underlying hdesc, Instr.sliceBounds, b1, b2]
        · cases he
      · cases he
    · rename_i n el hk
      rw [hk] at hdesc
      simp only [TK.ok] at hdesc
      split at he
      · rename_i te o hte
        cases he
        rw [hlon rfl, hhin rfl, hmxn rfl]
        simp only [A.rep] at hv
        obtain ⟨b, cs, h1, h2, rfl⟩ := hv
        refine .pure rel (r := .slice (some ⟨b, 0, none⟩) n n) ?_ rfl ?_
        · have ha : (if n = 0 then (⟨b, 0, none⟩ : Addr) else (⟨b, 0, none⟩ : Addr).add (0 * te.size)) = ⟨b, 0, none⟩ := by
            split
            · rfl
            · rw [Nat.zero_mul, add_plain]
          rw [Nat.zero_mul] at ha
          simp [Instr.sliceAt, run_underlying hdesc, Instr.sureAddr, Instr.sliceBounds, Types.size T hte w, ha]
        · simp only [A.rep]
          exact ⟨b, cs, h1, h2, rfl⟩
      · cases he
    · cases he
  · cases he
end
end Go.Am
namespace Go.Am
variable [T : Tab]
section
variable {P : Program} {cx : Cx} {β : Nat → Option (Option Nat)} {h : Nat → Option Ob} {w : World}
def intBin (op : BinOp) (k : IntKind) (a b : Int) : Option Eff :=
  match op with
  | .add => ok1 (.d (.lit (.int k (k.wrap (a + b)))))
  | .sub => ok1 (.d (.lit (.int k (k.wrap (a - b)))))
  | .mul => ok1 (.d (.lit (.int k (k.wrap (a * b)))))
  | .quo => some ⟨b ≠ 0, .d (.lit (.int k (k.wrap (a.tdiv b)))), [], []⟩
  | .rem => some ⟨b ≠ 0, .d (.lit (.int k (a.tmod b))), [], []⟩
  | .eql => ok1 (.d (.lit (.bool (a == b))))
  | .neq => ok1 (.d (.lit (.bool (a != b))))
  | .lss => ok1 (.d (.lit (.bool (decide (a < b)))))
  | .leq => ok1 (.d (.lit (.bool (decide (a ≤ b)))))
  | .gtr => ok1 (.d (.lit (.bool (decide (a > b)))))
  | .geq => ok1 (.d (.lit (.bool (decide (a ≥ b)))))
  | .shr => some ⟨0 ≤ b ∧ b ≤ k.bits, .d (.lit (.int k (a / 2 ^ b.toNat))), [], []⟩
  | _ => none
def strBin (op : BinOp) (a b : ByteArray) : Option Eff :=
  match op with
  | .add => some ⟨((a.size + b.size : Nat) : Int) ≤ 9223372036854775807, .d (.lit (.string (a ++ b))), [], []⟩
  | .eql => ok1 (.d (.lit (.bool (a.toList == b.toList))))
  | .neq => ok1 (.d (.lit (.bool (!(a.toList == b.toList)))))
  | .lss => ok1 (.d (.lit (.bool (Op.bytesLess a.toList b.toList))))
  | .leq => ok1 (.d (.lit (.bool (Op.bytesLess a.toList b.toList || a.toList == b.toList))))
  | .gtr => ok1 (.d (.lit (.bool (!(Op.bytesLess a.toList b.toList || a.toList == b.toList)))))
  | .geq => ok1 (.d (.lit (.bool (!(Op.bytesLess a.toList b.toList)))))
  | _ => none
def eqFs (tt : Types) (f : Nat → List A → List A → Option Bool) (xs ys : List A) : List (Nat × Nat) → Option Bool
  | [] => some true
  | (t, off) :: r => match tt t with
    | some ti => if off + ti.size ≤ xs.length ∧ off + ti.size ≤ ys.length then
        match f t ((xs.drop off).take ti.size) ((ys.drop off).take ti.size), eqFs tt f xs ys r with
        | some a, some b => some (a && b)
        | _, _ => none
      else none
    | none => none
/-- Are two values of a type equal? (By their cells.) -/
def eqA (tt : Types) : Nat → Nat → List A → List A → Option Bool
  | 0, _, _, _ => none
  | d + 1, t, xs, ys => match tt t with
    | some ti => match ti.k with
      | .int k => match xs, ys with
        | [.d (.lit (.int k1 a))], [.d (.lit (.int k2 b))] => if ti.size = 1 ∧ k1 = k ∧ k2 = k then some (a == b) else none
        | _, _ => none
      | .bool => match xs, ys with
        | [.d (.lit (.bool a))], [.d (.lit (.bool b))] => if ti.size = 1 then some (a == b) else none
        | _, _ => none
      | .string => match xs, ys with
        | [.d (.lit (.string a))], [.d (.lit (.string b))] => if ti.size = 1 then some (a.toList == b.toList) else none
        | _, _ => none
      | .struct fs => if ti.flat then eqFs tt (eqA tt d) xs ys fs else none
      | _ => none
    | none => none
/-- Is a value of a kind nil? -/
def nilA (h : Nat → Option Ob) : TK → A → Option (Prop × Bool × List Nat)
  | .slice _, .snil => some (True, true, [])
  | .slice _, .d (.sl _ rows) => some (rows ≠ [], false, [])
  | .slice _, .csl _ rows => some (rows ≠ [], false, [])
  | .slice _, .vec o n => match h o with
    | some (.vec _ _ rows _) => some (n = rows.length ∧ rows ≠ [], false, [o])
    | _ => none
  | .pointer _, .d (.lit (.pointer none)) => some (True, true, [])
  | .pointer _, .ptr _ _ => some (True, false, [])
  | .pointer _, .d (.ptr _ _) => some (True, false, [])
  | .func, .d (.lit .nilFunc) => some (True, true, [])
  | .func, .clo _ _ => some (True, false, [])
  | .map _ _, .d (.lit (.map none)) => some (True, true, [])
  | .map _ _, .mp _ => some (True, false, [])
  | _, _ => none
def nilLit : TK → A → Bool
  | .slice _, .snil => true
  | .pointer _, .d (.lit (.pointer none)) => true
  | .func, .d (.lit .nilFunc) => true
  | .map _ _, .d (.lit (.map none)) => true
  | _, _ => false
def eqEff (neg : Bool) (b : Bool) : Bool := if neg then !b else b
def effEq (tt : Types) (neg : Bool) (t : Nat) (h : Nat → Option Ob) (x y : A) : Option Eff :=
  match x, y with
  | .agg xs, .agg ys => match tt t with
    | some ti => if ti.isAgg && ti.flat then match eqA tt 20 t xs ys with
      | some b => ok1 (.d (.lit (.bool (eqEff neg b))))
      | none => none
      else none
    | none => none
  | .d (.lit (.bool a)), .d (.lit (.bool b)) => match tt t with
    | some ti => match ti.k with
      | .bool => ok1 (.d (.lit (.bool (eqEff neg (a == b)))))
      | _ => none
    | none => none
  | .d (.sl _ rows), .snil => match tt t with
    | some ti => match ti.k with
      | .slice _ => ok1 (if rows.isEmpty then .bx else .d (.lit (.bool (eqEff neg false))))
      | _ => none
    | none => none
  | x, y => match tt t with
    | some ti => if nilLit ti.k y then
        match nilA h ti.k x with
        | some (p, b, rd) => some ⟨p, .d (.lit (.bool (eqEff neg b))), [], rd⟩
        | none => none
      else none
    | none => none
def effBin (tt : Types) (op : BinOp) (t : Nat) (h : Nat → Option Ob) : A → A → Option Eff
  | .d (.lit (.int k a)), .d (.lit (.int k' b)) => if k = k' then intBin op k a b else none
  | .d (.lit (.string a)), .d (.lit (.string b)) => strBin op a b
  | x, y => match op with
    | .eql => effEq tt false t h x y
    | .neq => effEq tt true t h x y
    | _ => none
theorem intBin_ok {op : BinOp} {t : Nat} {x y : Operand} {k : IntKind} {a b : Int} {e : Eff} (rel : Rel cx β h w) (he : intBin op k a b = some e) (hs : e.side) :
    Sound P cx β h w (do pure (.value (← (do eqGuard op t x y (.int k a) (.int k b); binOp op t (.int k a) (.int k b))))) e := by
  have hg : (eqGuard op t x y (.int k a) (.int k b)).run P w = .ok () w := by cases op <;> simp [eqGuard]
  unfold intBin at he
  cases op <;> simp only [ok1] at he <;> first | (cases he; done) | skip
  all_goals
    cases he
    first
      | exact .pure rel (by simp [hg, binOp, Op.intArith, Op.intCmp]; rfl) rfl (by simp [A.rep, D.rep, one])
      | (have hs' : b ≠ 0 := hs
         exact .pure rel (by simp [hg, binOp, Op.intDiv, hs']; rfl) rfl (by simp [A.rep, D.rep, one]))
      | exact .pure rel (by simp [hg, binOp, shift_shr k k a b hs.1 hs.2]; rfl) rfl (by simp [A.rep, D.rep, one])
theorem strBin_ok {op : BinOp} {t : Nat} {x y : Operand} {a b : ByteArray} {e : Eff} (rel : Rel cx β h w) (he : strBin op a b = some e) (hs : e.side) :
    Sound P cx β h w (do pure (.value (← (do eqGuard op t x y (.string a) (.string b); binOp op t (.string a) (.string b))))) e := by
  have hg : (eqGuard op t x y (.string a) (.string b)).run P w = .ok () w := by cases op <;> simp [eqGuard]
  have hmax : IntKind.i64.max = 9223372036854775807 := by decide
  unfold strBin at he
  cases op <;> simp only [ok1] at he <;> first | (cases he; done) | skip
  all_goals
    cases he
    first
      | (have hs' : ¬ ((9223372036854775807 : Int) < (a.size : Int) + (b.size : Int)) := by
           have : ((a.size + b.size : Nat) : Int) ≤ 9223372036854775807 := hs
           omega
         exact .pure rel (by simp [hg, binOp, Op.stringOp, hmax, hs']; rfl) rfl (by simp [A.rep, D.rep, one]))
      | exact .pure rel (by simp [hg, binOp, Op.stringOp]; rfl) rfl (by simp [A.rep, D.rep, one])
def valOf (ti : TI) (vs : List Value) : Value := if ti.isAgg then .agg vs.toArray else vs.headD undef
theorem run_part {tt : Types} (T : tt.ok P) {t : Nat} {ti : TI} (ht : tt t = some ti) {vs : List Value} {off : Nat} (hl : off + ti.size ≤ vs.length) (h1 : ti.isAgg = true ∨ ti.size = 1) :
    (part t vs.toArray off).run P w = .ok (valOf ti ((vs.drop off).take ti.size)) w := by
  have hag := Types.isAgg T ht w
  have hsz := Types.size T ht w
  unfold valOf
  by_cases hi : ti.isAgg = true
  · simp only [part, Sem.run_bind, hag, hi, Result.andThen_ok, if_true, hsz, Sem.run_pure]
    congr 2
    apply Array.ext'
    simp [List.extract_eq_take_drop]
  · have h1' : ti.size = 1 := h1.resolve_left hi
    have hi' : ti.isAgg = false := by simpa using hi
    have hlt : off < vs.length := by omega
    simp only [part, Sem.run_bind, hag, hi', Result.andThen_ok, Bool.false_eq_true, if_false, h1']
    rw [List.getElem?_toArray, List.getElem?_eq_getElem hlt]
    have hd : (vs.drop off).take 1 = [vs[off]] := by rw [List.drop_eq_getElem_cons hlt]; rfl
    rw [hd]
    rfl
theorem eqA_size {tt : Types} {d t : Nat} {xs ys : List A} {b : Bool} {ti : TI} (ht : tt t = some ti) (he : eqA tt d t xs ys = some b) : ti.isAgg = true ∨ ti.size = 1 := by
  cases d with
  | zero => simp [eqA] at he
  | succ d =>
    simp only [eqA, ht] at he
    unfold TI.isAgg
    split at he
    · rename_i hk
      split at he
      · split at he
        · rename_i q; exact .inr q.1
        · cases he
      · cases he
    · split at he
      · split at he
        · rename_i q; exact .inr q
        · cases he
      · cases he
    · split at he
      · split at he
        · rename_i q; exact .inr q
        · cases he
      · cases he
    · rename_i hk; left; simp [hk]
    · cases he
theorem eqA_ok {tt : Types} (T : tt.ok P) {E : Env} : ∀ (d t : Nat) (xs ys : List A) (b : Bool) (ti : TI) (vx vy : List Value) (m : Nat), tt t = some ti → eqA tt d t xs ys = some b → repL E xs vx → repL E ys vy → d ≤ m →
    (Op.equalIn m t (valOf ti vx) (valOf ti vy)).run P w = .ok b w := by
  intro d
  induction d with
  | zero => intro t xs ys b ti vx vy m ht he; simp [eqA] at he
  | succ d ih =>
    intro t xs ys b ti vx vy m ht he hx hy hm
    obtain ⟨m, rfl⟩ : ∃ q, m = q + 1 := ⟨m - 1, by omega⟩
    have hdesc := (T t ti ht).desc
    simp only [eqA, ht] at he
    unfold valOf TI.isAgg
    split at he
    · rename_i k hk
      rw [hk] at hdesc
      simp only [TK.ok] at hdesc
      split at he
      · split at he
        · rename_i q
          obtain ⟨_, rfl, rfl⟩ := q
          cases he
          simp only [repL] at hx hy
          obtain ⟨u, us, rfl, h1, _⟩ := hx
          obtain ⟨u', us', rfl, h2, _⟩ := hy
          simp only [A.rep, D.rep] at h1 h2
          rw [h1.1, h2.1]
          simp [hk, run_equalIn_int w m t _ _ _ _ hdesc]
        · cases he
      · cases he
    · rename_i hk
      rw [hk] at hdesc
      simp only [TK.ok] at hdesc
      split at he
      · split at he
        · cases he
          simp only [repL] at hx hy
          obtain ⟨u, us, rfl, h1, _⟩ := hx
          obtain ⟨u', us', rfl, h2, _⟩ := hy
          simp only [A.rep, D.rep] at h1 h2
          rw [h1.1, h2.1]
          simp [hk, run_equalIn_bool' w m t _ _ hdesc]
        · cases he
      · cases he
    · rename_i hk
      rw [hk] at hdesc
      simp only [TK.ok] at hdesc
      split at he
      · split at he
        · cases he
          simp only [repL] at hx hy
          obtain ⟨u, us, rfl, h1, _⟩ := hx
          obtain ⟨u', us', rfl, h2, _⟩ := hy
          simp only [A.rep, D.rep] at h1 h2
          rw [h1.1, h2.1]
          simp [hk, run_equalIn_string w m t _ _ hdesc]
        · cases he
      · cases he
    · rename_i fs hk
      split at he
      · rename_i hflat
        rw [hk] at hdesc
        obtain ⟨fields, hd, hfs⟩ := hdesc
        obtain ⟨f1, _, f3⟩ := (T t ti ht).flat hflat
        have hfo : P.fieldsOf t = fields := by simp [Program.fieldsOf, hd]
        have hnames := f3 fields hd
        simp only [hk, if_true]
        rw [run_equalIn_struct w m t _ _ (by rw [hfo]; exact hd) f1, hfo]
        clear hfo hd f3
        have key : ∀ (fl : List Field) (fs : List (Nat × Nat)) (b : Bool), fl.map (fun f => (f.type, f.offset)) = fs → (∀ f ∈ fl, f.name ≠ "_") → eqFs tt (eqA tt d) xs ys fs = some b →
            (Op.eqFields m vx.toArray vy.toArray fl).run P w = .ok b w := by
          intro fl
          induction fl with
          | nil => intro fs b h1 _ h3; subst h1; simp [eqFs] at h3; subst h3; simp [Op.eqFields]
          | cons f fl ihf =>
            intro fs b h1 h2 h3
            subst h1
            simp only [List.map_cons, eqFs] at h3
            split at h3
            · rename_i fti hft
              split at h3
              · rename_i hle
                split at h3
                · rename_i a b' ha hb'
                  cases h3
                  have hsz := eqA_size hft ha
                  have lx := repL_length _ _ hx
                  have ly := repL_length _ _ hy
                  have p1 := run_part (w := w) T hft (vs := vx) (off := f.offset) (by omega) hsz
                  have p2 := run_part (w := w) T hft (vs := vy) (off := f.offset) (by omega) hsz
                  have p3 := ih f.type _ _ a fti _ _ m hft ha (repL_take fti.size _ _ (repL_drop f.offset _ _ hx)) (repL_take fti.size _ _ (repL_drop f.offset _ _ hy)) (by omega)
                  have p4 := ihf _ b' rfl (fun g hg => h2 g (by simp [hg])) hb'
                  have hne : f.name ≠ "_" := h2 f (by simp)
                  simp only [Op.eqFields, hne, ne_eq, not_false_eq_true, if_true, Sem.run_bind, p1, p2, p3, Result.andThen_ok, Sem.run_ite]
                  cases a
                  · simp
                  · simp [p4]
                · cases h3
              · cases h3
            · cases h3
        exact key fields.toList fs b hfs hnames he
      · cases he
    · cases he
end
end Go.Am
namespace Go.Am
variable [T : Tab]
section
variable {P : Program} {cx : Cx} {β : Nat → Option (Option Nat)} {h : Nat → Option Ob} {w : World}
theorem run_eqBin {neg : Bool} {t : Nat} {x y : Operand} {a b : Value} {r : Bool} (hg : ∀ op, (eqGuard op t x y a b).run P w = .ok () w) (hb : ∀ op, binOp op t a b = (match op with | .eql => do pure (.bool (← Op.equal t a b)) | .neq => do pure (.bool (!(← Op.equal t a b))) | _ => binOp op t a b))
    (he : (Op.equal t a b).run P w = .ok r w) :
    (do pure (Next.value (← (do eqGuard (if neg then .neq else .eql) t x y a b; binOp (if neg then .neq else .eql) t a b))) : Sem Next).run P w = .ok (.value (.bool (eqEff neg r))) w := by
  cases neg
  · simp [hg, hb .eql, he, eqEff]
  · simp [hg, hb .neq, he, eqEff]
theorem eqGuard_plain {op : BinOp} {t : Nat} {x y : Operand} {a b : Value} (h1 : b ≠ .nilIface) (h2 : ∀ c, b ≠ .agg c) : (eqGuard op t x y a b).run P w = .ok () w := by
  have key : ∀ (s1 s2 : Sem Unit), (match a, b with | .nilIface, .nilIface => s1 | .agg _, .agg _ => s2 | _, _ => (pure () : Sem Unit)).run P w = .ok () w := by
    intro s1 s2
    split
    · exact absurd rfl h1
    · exact absurd rfl (h2 _)
    · rfl
  cases op <;> first | exact key _ _ | rfl
theorem run_equalIn_slice (d : Nat) {t e : Nat} {a : Option Addr} {n c : Nat} (hk : P.underlying t = some (.slice e)) : (Op.equalIn (d + 1) t (.slice a n c) (.slice none 0 0)).run P w = .ok a.isNone w := by
  cases a <;> simp [Op.equalIn, run_underlying hk]
theorem run_equalIn_ptr (d : Nat) {t e : Nat} {a : Option Addr} (hk : P.underlying t = some (.pointer e)) : (Op.equalIn (d + 1) t (.pointer a) (.pointer none)).run P w = .ok a.isNone w := by
  cases a <;> simp [Op.equalIn, run_underlying hk]
theorem run_equalIn_map (d : Nat) {t k e : Nat} {a : Option Nat} (hk : P.underlying t = some (.map k e)) : (Op.equalIn (d + 1) t (.map a) (.map none)).run P w = .ok a.isNone w := by
  cases a <;> simp [Op.equalIn, run_underlying hk]
theorem run_equalIn_func (d : Nat) {t : Nat} {fa fb : Array TypeId} {fc : Bool} (hk : P.underlying t = some (.func fa fb fc)) : (Op.equalIn (d + 1) t .nilFunc .nilFunc).run P w = .ok true w ∧
    ∀ f x y, (Op.equalIn (d + 1) t (.func f x y) .nilFunc).run P w = .ok false w := by
  constructor
  · simp [Op.equalIn, run_underlying hk]
  · intro f x y; simp [Op.equalIn, run_underlying hk]
theorem nilEq_ok {k : TK} {t : Nat} {xa ya : A} {p : Prop} {b : Bool} {rd : List Nat} {xv yv : Value} (rel : Rel cx β h w) (hk : k.ok (P.underlying t)) (hl : nilLit k ya = true) (he : nilA h k xa = some (p, b, rd)) (hp : p)
    (hx : xa.rep (envOf cx.Xo β h w) xv) (hy : ya.rep (envOf cx.Xo β h w) yv) : (Op.equal t xv yv).run P w = .ok b w ∧ yv ≠ .nilIface ∧ (∀ c, yv ≠ .agg c) ∧
      ∀ op, binOp op t xv yv = (match op with | .eql => do pure (.bool (← Op.equal t xv yv)) | .neq => do pure (.bool (!(← Op.equal t xv yv))) | _ => binOp op t xv yv) := by
  have hsl : ∀ {a : Option Addr} {rows : List (List D)}, rows ≠ [] → (a = none → rows = []) → ∃ x, a = some x := fun {a rows} h1 h2 => by
    cases a with
    | none => exact absurd (h2 rfl) h1
    | some x => exact ⟨x, rfl⟩
  cases k with
  | slice e =>
    simp only [TK.ok] at hk
    have hyv : yv = .slice none 0 0 := by
      cases ya <;> simp [nilLit] at hl
      simpa [A.rep] using hy
    subst hyv
    have fin : ∀ a n c, b = a.isNone → (Op.equal t (.slice a n c) (.slice none 0 0)).run P w = .ok b w ∧ (Value.slice none 0 0) ≠ .nilIface ∧ (∀ c, (Value.slice none 0 0) ≠ .agg c) ∧
        ∀ op, binOp op t (.slice a n c) (.slice none 0 0) = (match op with | .eql => do pure (.bool (← Op.equal t (.slice a n c) (.slice none 0 0))) | .neq => do pure (.bool (!(← Op.equal t (.slice a n c) (.slice none 0 0)))) | _ => binOp op t (.slice a n c) (.slice none 0 0)) := by
      intro a n c hb
      exact ⟨by rw [hb]; exact run_equalIn_slice 9999 hk, by simp, by simp, fun op => by cases op <;> rfl⟩
    cases xa with
    | snil => simp only [nilA, Option.some.injEq, Prod.mk.injEq] at he; obtain ⟨_, rfl, _⟩ := he; simp only [A.rep] at hx; subst hx; exact fin none 0 0 rfl
    | d x =>
      cases x <;> simp only [nilA, Option.some.injEq, Prod.mk.injEq, reduceCtorEq] at he
      obtain ⟨rfl, rfl, _⟩ := he
      simp only [A.rep, D.rep] at hx
      obtain ⟨a, cap, rfl, _, h1, _⟩ := hx
      obtain ⟨y, rfl⟩ := hsl hp (fun q => (h1 q).1)
      exact fin _ _ _ rfl
    | csl wd rows =>
      simp only [nilA, Option.some.injEq, Prod.mk.injEq] at he
      obtain ⟨rfl, rfl, _⟩ := he
      simp only [A.rep] at hx
      obtain ⟨a, rfl, h1, _⟩ := hx
      obtain ⟨y, rfl⟩ := hsl hp h1
      exact fin _ _ _ rfl
    | vec o n =>
      simp only [nilA] at he
      split at he
      · rename_i ho
        simp only [Option.some.injEq, Prod.mk.injEq] at he
        obtain ⟨rfl, rfl, _⟩ := he
        obtain ⟨h1, h2⟩ := hp
        rcases vec_live ho h1 hx with ⟨hb, rfl⟩ | ⟨b, cap, hb, rfl, _⟩
        · have hd := rel.obj _ _ _ ho hb
          simp only [Ob.rep] at hd
          obtain ⟨_, _, hd | ⟨_, _, hd, _⟩⟩ := hd
          · exact absurd hd.2 h2
          · cases hd
        · exact fin _ _ _ rfl
      · cases he
    | _ => simp [nilA] at he
  | pointer e =>
    simp only [TK.ok] at hk
    have hyv : yv = .pointer none := by
      unfold nilLit at hl
      split at hl
      · cases ‹TK.pointer e = TK.slice _›
      · simp only [A.rep, D.rep] at hy; exact hy.1
      · cases ‹TK.pointer e = TK.func›
      · cases ‹TK.pointer e = TK.map _ _›
      · cases hl
    subst hyv
    have fin : ∀ a, b = Option.isNone a → (Op.equal t (.pointer a) (.pointer none)).run P w = .ok b w ∧ (Value.pointer none) ≠ .nilIface ∧ (∀ c, (Value.pointer none) ≠ .agg c) ∧
        ∀ op, binOp op t (.pointer a) (.pointer none) = (match op with | .eql => do pure (.bool (← Op.equal t (.pointer a) (.pointer none))) | .neq => do pure (.bool (!(← Op.equal t (.pointer a) (.pointer none)))) | _ => binOp op t (.pointer a) (.pointer none)) := by
      intro a hb
      exact ⟨by rw [hb]; exact run_equalIn_ptr 9999 hk, by simp, by simp, fun op => by cases op <;> rfl⟩
    cases xa with
    | d x =>
      cases x with
      | lit v =>
        simp only [A.rep, D.rep] at hx
        cases v with
        | pointer a =>
          cases a with
          | none =>
            simp only [nilA, Option.some.injEq, Prod.mk.injEq] at he
            obtain ⟨_, rfl, _⟩ := he
            rw [hx.1]
            exact fin none rfl
          | some a => simp [nilA] at he
        | _ => simp [nilA] at he
      | ptr r off =>
        simp only [nilA, Option.some.injEq, Prod.mk.injEq] at he
        obtain ⟨rfl, rfl, _⟩ := he
        simp only [A.rep, D.rep] at hx
        obtain ⟨_, _, rfl, _⟩ := hx
        exact fin _ rfl
      | sl wd rows => simp [nilA] at he
    | ptr o off =>
      simp only [nilA, Option.some.injEq, Prod.mk.injEq] at he
      obtain ⟨_, rfl, _⟩ := he
      simp only [A.rep] at hx
      obtain ⟨_, _, _, _, _, rfl⟩ := hx
      exact fin _ rfl
    | _ => simp [nilA] at he
  | func =>
    obtain ⟨fa, fb, fc, hk⟩ := hk
    have hyv : yv = .nilFunc := by
      unfold nilLit at hl
      split at hl
      · cases ‹TK.func = TK.slice _›
      · cases ‹TK.func = TK.pointer _›
      · simp only [A.rep, D.rep] at hy; exact hy.1
      · cases ‹TK.func = TK.map _ _›
      · cases hl
    subst hyv
    cases xa with
    | d x =>
      cases x with
      | lit v =>
        simp only [A.rep, D.rep] at hx
        cases v <;> first | (simp [nilA] at he; done) | skip
        simp only [nilA, Option.some.injEq, Prod.mk.injEq] at he
        obtain ⟨_, rfl, _⟩ := he
        rw [hx.1]
        exact ⟨(run_equalIn_func 9999 hk).1, by simp, by simp, fun op => by cases op <;> rfl⟩
      | _ => simp [nilA] at he
    | clo f caps =>
      simp only [nilA, Option.some.injEq, Prod.mk.injEq] at he
      obtain ⟨rfl, rfl, _⟩ := he
      simp only [A.rep] at hx
      obtain ⟨_, rfl, _⟩ := hx
      exact ⟨(run_equalIn_func 9999 hk).2 _ _ _, by simp, by simp, fun op => by cases op <;> rfl⟩
    | _ => simp [nilA] at he
  | map k e =>
    simp only [TK.ok] at hk
    have hyv : yv = .map none := by
      unfold nilLit at hl
      split at hl
      · cases ‹TK.map k e = TK.slice _›
      · cases ‹TK.map k e = TK.pointer _›
      · cases ‹TK.map k e = TK.func›
      · simp only [A.rep, D.rep] at hy; exact hy.1
      · cases hl
    subst hyv
    have fin : ∀ a, b = Option.isNone a → (Op.equal t (.map a) (.map none)).run P w = .ok b w ∧ (Value.map none) ≠ .nilIface ∧ (∀ c, (Value.map none) ≠ .agg c) ∧
        ∀ op, binOp op t (.map a) (.map none) = (match op with | .eql => do pure (.bool (← Op.equal t (.map a) (.map none))) | .neq => do pure (.bool (!(← Op.equal t (.map a) (.map none)))) | _ => binOp op t (.map a) (.map none)) := by
      intro a hb
      exact ⟨by rw [hb]; exact run_equalIn_map 9999 hk, by simp, by simp, fun op => by cases op <;> rfl⟩
    cases xa with
    | d x =>
      cases x with
      | lit v =>
        simp only [A.rep, D.rep] at hx
        cases v with
        | map a =>
          cases a with
          | none =>
            simp only [nilA, Option.some.injEq, Prod.mk.injEq] at he
            obtain ⟨_, rfl, _⟩ := he
            rw [hx.1]
            exact fin none rfl
          | some a => simp [nilA] at he
        | _ => simp [nilA] at he
      | _ => simp [nilA] at he
    | mp o =>
      simp only [nilA, Option.some.injEq, Prod.mk.injEq] at he
      obtain ⟨_, rfl, _⟩ := he
      simp only [A.rep] at hx
      obtain ⟨_, _, _, _, _, rfl⟩ := hx
      exact fin _ rfl
    | _ => simp [nilA] at he
  | _ => simp [nilA] at he
theorem effEq_ok {tt : Types} (T : tt.ok P) {neg : Bool} {t : Nat} {x y : Operand} {xa ya : A} {e : Eff} {xv yv : Value} (rel : Rel cx β h w) (he : effEq tt neg t h xa ya = some e) (hs : e.side)
    (hx : xa.rep (envOf cx.Xo β h w) xv) (hy : ya.rep (envOf cx.Xo β h w) yv) :
    Sound P cx β h w (do pure (.value (← (do eqGuard (if neg then .neq else .eql) t x y xv yv; binOp (if neg then .neq else .eql) t xv yv)))) e := by
  unfold effEq at he
  split at he
  · rename_i xs ys
    split at he
    · rename_i ti ht
      split at he
      · rename_i hag
        split at he
        · rename_i b hb
          cases he
          simp only [Bool.and_eq_true] at hag
          simp only [A.rep] at hx hy
          obtain ⟨vx, rfl, h1, h2⟩ := hx
          obtain ⟨vy, rfl, h3, h4⟩ := hy
          have heq := eqA_ok (w := w) T 20 t xs ys b ti vx vy Op.maxDepth ht hb h1 h3 (by simp [Op.maxDepth])
          simp only [valOf, hag.1, if_true] at heq
          obtain ⟨_, f2, _⟩ := (T t ti ht).flat hag.2
          exact .pure rel (run_eqBin (fun op => run_eqGuard_agg w op t x y _ _ f2) (fun op => by cases op <;> rfl) heq) rfl (by simp [A.rep, D.rep, one])
        · cases he
      · cases he
    · cases he
  · rename_i a b
    split at he
    · rename_i ti ht
      split at he
      · rename_i hk
        cases he
        have hdesc := (T t ti ht).desc
        rw [hk] at hdesc
        simp only [TK.ok] at hdesc
        simp only [A.rep, D.rep] at hx hy
        rw [hx.1, hy.1]
        exact .pure rel (run_eqBin (fun op => eqGuard_plain (by simp) (by simp)) (fun op => by cases op <;> rfl) (run_equalIn_bool' w 9999 t a b hdesc)) rfl (by simp [A.rep, D.rep, one])
      · cases he
    · cases he
  · rename_i wd rows
    split at he
    · rename_i ti ht
      split at he
      · rename_i el hk
        cases he
        have hdesc := (T t ti ht).desc
        rw [hk] at hdesc
        simp only [TK.ok] at hdesc
        simp only [A.rep, D.rep] at hx hy
        obtain ⟨a, cap, rfl, _, h1, _⟩ := hx
        subst hy
        refine .pure rel (run_eqBin (fun op => eqGuard_plain (by simp) (by simp)) (fun op => by cases op <;> rfl) (run_equalIn_slice 9999 hdesc)) rfl ?_
        cases rows with
        | nil => simp only [List.isEmpty_nil, if_true, A.rep]; exact ⟨_, rfl⟩
        | cons r rs =>
          cases a with
          | none => have := (h1 rfl).1; simp at this
          | some a => simp [A.rep, D.rep, one]
      · cases he
    · cases he
  · split at he
    · rename_i ti ht
      split at he
      · rename_i hnil
        split at he
        · rename_i p b rd hn
          cases he
          obtain ⟨g1, g2, g3, g4⟩ := nilEq_ok rel (T t ti ht).desc hnil hn hs hx hy
          exact .pure rel (run_eqBin (fun op => eqGuard_plain g2 g3) g4 g1) rfl (by simp [A.rep, D.rep, one])
        · cases he
      · cases he
    · cases he
theorem effBin_ok {tt : Types} (T : tt.ok P) {op : BinOp} {t : Nat} {x y : Operand} {xa ya : A} {e : Eff} {xv yv : Value} (rel : Rel cx β h w) (he : effBin tt op t h xa ya = some e) (hs : e.side)
    (hx : xa.rep (envOf cx.Xo β h w) xv) (hy : ya.rep (envOf cx.Xo β h w) yv) :
    Sound P cx β h w (do pure (.value (← (do eqGuard op t x y xv yv; binOp op t xv yv)))) e := by
  unfold effBin at he
  split at he
  · split at he
    · rename_i k a k' b hkk
      subst hkk
      simp only [A.rep, D.rep] at hx hy
      rw [hx.1, hy.1]
      exact intBin_ok rel he hs
    · cases he
  · simp only [A.rep, D.rep] at hx hy
    rw [hx.1, hy.1]
    exact strBin_ok rel he hs
  · split at he
    · exact effEq_ok (neg := false) T rel he hs hx hy
    · exact effEq_ok (neg := true) T rel he hs hx hy
    · cases he
end
end Go.Am
namespace Go.Am
variable [T : Tab]
section
variable {P : Program} {cx : Cx} {β : Nat → Option (Option Nat)} {h : Nat → Option Ob} {w : World}
/-- Two keys of a map. -/
def sameV : Value → Value → Option Bool
  | .int k a, .int k' b => if k = k' then some (a == b) else none
  | .string a, .string b => some (a == b)
  | _, _ => none
def mfind (x : Value) : List (Value × Value) → Nat → Option (Option (Nat × Value))
  | [], _ => some none
  | p :: es, i => match sameV x p.1 with
    | some true => some (some (i, p.2))
    | some false => mfind x es (i + 1)
    | none => none
def mput (x v : Value) (es : List (Value × Value)) : Option (List (Value × Value)) := match mfind x es 0 with
  | some (some (i, _)) => some (es.set i (x, v))
  | some none => some (es ++ [(x, v)])
  | none => none
def mdel (x : Value) (es : List (Value × Value)) : Option (List (Value × Value)) := match mfind x es 0 with
  | some (some (i, _)) => some (es.eraseIdx i)
  | some none => some es
  | none => none
/-- The stamps behind a put, and behind a delete. -/
def stPut (x : Value) (es : List (Value × Value)) : Option (List Nat × Nat) → Option (List Nat × Nat)
  | none => none
  | some (bs, c) => match mfind x es 0 with
    | some none => some (bs ++ [c], c + 1)
    | _ => some (bs, c)
def stDel (x : Value) (es : List (Value × Value)) : Option (List Nat × Nat) → Option (List Nat × Nat)
  | none => none
  | some (bs, c) => match mfind x es 0 with
    | some (some (i, _)) => some (bs.eraseIdx i, c)
    | _ => some (bs, c)
theorem stPut_none (x : Value) (es : List (Value × Value)) : stPut x es none = none := rfl
theorem stDel_none (x : Value) (es : List (Value × Value)) : stDel x es none = none := rfl
/-- Is it a key of such a kind? -/
def keyOf : TK → Value → Bool
  | .int k, .int k' _ => decide (k = k')
  | .string, .string _ => true
  | _, _ => false
theorem sameNow_eq {k : TK} {d : TypeDesc} {x y : Value} (hk : k.ok (some d)) (hx : keyOf k x = true) : Instr.sameNow d x y = sameV x y := by
  unfold keyOf at hx
  split at hx
  · simp only [TK.ok, Option.some.injEq] at hk
    subst hk
    cases y <;> rfl
  · simp only [TK.ok, Option.some.injEq] at hk
    subst hk
    cases y <;> rfl
  · cases hx
theorem findNow_eq {k : TK} {d : TypeDesc} {x : Value} (hk : k.ok (some d)) (hx : keyOf k x = true) : ∀ (es : List MapEntry) (i : Nat), Instr.findNow d x es i = mfind x (es.map fun e => (e.key, e.val)) i
  | [], i => rfl
  | e :: es, i => by
    simp only [Instr.findNow, List.map_cons, mfind, sameNow_eq hk hx]
    cases sameV x e.key with
    | none => rfl
    | some b => cases b <;> simp [findNow_eq hk hx es]
theorem run_checkKey {k : TK} {t : Nat} {b : Bool} {n : Nat} {x : Value} (hk : k.ok (P.underlying t)) (hx : keyOf k x = true) : (Instr.checkKey b (n + 1) t x).run P w = .ok () w := by
  unfold keyOf at hx
  split at hx
  · simp only [TK.ok] at hk
    simp [Instr.checkKey, run_underlying hk]
  · simp only [TK.ok] at hk
    simp [Instr.checkKey, run_underlying hk]
  · cases hx
theorem run_findKey {k : TK} {t : Nat} {x : Value} {es : List MapEntry} {r : Option (Nat × Value)} (hk : k.ok (P.underlying t)) (hx : keyOf k x = true) (hr : mfind x (es.map fun e => (e.key, e.val)) 0 = some r) :
    (Instr.findKey t x es).run P w = .ok r w := by
  obtain ⟨d, hd⟩ := TK.ok_some hk
  have hk' := hk
  rw [hd] at hk'
  simp [Instr.findKey, run_underlying hd, findNow_eq hk' hx, hr]
theorem mfind_some {x : Value} : ∀ {es : List (Value × Value)} {i j : Nat} {v : Value}, mfind x es i = some (some (j, v)) → i ≤ j ∧ ∃ p, es[j - i]? = some p ∧ p.2 = v ∧ sameV x p.1 = some true
  | [], i, j, v, h => by simp [mfind] at h
  | p :: es, i, j, v, h => by
    simp only [mfind] at h
    split at h
    · rename_i hs
      simp only [Option.some.injEq, Prod.mk.injEq] at h
      obtain ⟨rfl, rfl⟩ := h
      exact ⟨Nat.le_refl _, p, by simp, rfl, hs⟩
    · obtain ⟨h1, q, h2, h3⟩ := mfind_some h
      refine ⟨by omega, q, ?_, h3⟩
      rw [show j - i = (j - (i + 1)) + 1 by omega, List.getElem?_cons_succ]
      exact h2
    · cases h
theorem sameV_eq {x y : Value} (h : sameV x y = some true) : x = y := by
  unfold sameV at h
  split at h
  · split at h
    · rename_i hk
      simp only [Option.some.injEq, beq_iff_eq] at h
      rw [hk, h]
    · cases h
  · simp only [Option.some.injEq] at h
    rw [(MapKept.bytes_beq _ _).1 h]
  · cases h
theorem sameBits_self {k : TK} {x : Value} (hx : keyOf k x = true) : Instr.sameBits 10000 x x = true := by
  unfold keyOf at hx
  split at hx
  · simp [Instr.sameBits]
  · simp [Instr.sameBits, (MapKept.bytes_beq _ _).2 rfl]
  · cases hx
theorem map_erase {α β : Type} (f : α → β) : ∀ (l : List α) (i : Nat), (l.eraseIdx i).map f = (l.map f).eraseIdx i
  | [], _ => by simp
  | x :: l, 0 => by simp
  | x :: l, i + 1 => by simp [map_erase f l i]
theorem Stamps.modify {ens : Array MapEntry} {clk : Nat} {st : Option (List Nat × Nat)} (h : Stamps ens clk st) (i : Nat) (f : MapEntry → MapEntry) (hf : ∀ e, (f e).born = e.born) : Stamps (ens.modify i f) clk st := by
  have e : (ens.modify i f).toList.map (·.born) = ens.toList.map (·.born) := by
    apply List.ext_getElem?
    intro j
    simp only [List.getElem?_map, Array.getElem?_toList, Array.getElem?_modify]
    by_cases hj : i = j
    · subst hj
      cases ens[i]? <;> simp [hf]
    · simp [hj]
  refine ⟨by rw [e]; exact h.up, fun x hx => ?_, fun bs c q => by rw [e]; exact h.st bs c q⟩
  have hm : x.born ∈ (ens.modify i f).toList.map (·.born) := List.mem_map.2 ⟨x, hx, rfl⟩
  rw [e] at hm
  obtain ⟨y, hy, hyx⟩ := List.mem_map.1 hm
  rw [← hyx]
  exact h.lt y hy
theorem Stamps.push {ens : Array MapEntry} {clk : Nat} {st : Option (List Nat × Nat)} (h : Stamps ens clk st) (x v : Value) : Stamps (ens.push { key := x, val := v, born := clk }) (clk + 1) (st.map fun s => (s.1 ++ [s.2], s.2 + 1)) := by
  refine ⟨?_, fun y hy => ?_, fun bs c q => ?_⟩
  · rw [Array.toList_push, List.map_append, List.pairwise_append]
    refine ⟨h.up, by simp, fun a ha b hb => ?_⟩
    obtain ⟨y, hy, rfl⟩ := List.mem_map.1 ha
    simp at hb
    subst hb
    exact h.lt y hy
  · rw [Array.toList_push, List.mem_append] at hy
    rcases hy with hy | hy
    · have := h.lt y hy; omega
    · simp at hy; subst hy; exact Nat.lt_succ_self _
  · rw [Option.map_eq_some_iff] at q
    obtain ⟨⟨b0, c0⟩, h1, h2⟩ := q
    obtain ⟨h3, h4⟩ := h.st b0 c0 h1
    simp only [Prod.mk.injEq] at h2
    obtain ⟨rfl, rfl⟩ := h2
    subst h4
    exact ⟨by rw [Array.toList_push, List.map_append, h3]; rfl, rfl⟩
theorem Stamps.erase {ens : Array MapEntry} {clk : Nat} {st : Option (List Nat × Nat)} (h : Stamps ens clk st) (i : Nat) : Stamps (ens.eraseIdxIfInBounds i) clk (st.map fun s => (s.1.eraseIdx i, s.2)) := by
  refine ⟨?_, fun y hy => ?_, fun bs c q => ?_⟩
  · simp only [Array.toList_eraseIdxIfInBounds, map_erase]
    exact h.up.sublist (List.eraseIdx_sublist _ _)
  · simp only [Array.toList_eraseIdxIfInBounds] at hy
    exact h.lt y (List.mem_of_mem_eraseIdx hy)
  · rw [Option.map_eq_some_iff] at q
    obtain ⟨⟨b0, c0⟩, h1, h2⟩ := q
    obtain ⟨h3, h4⟩ := h.st b0 c0 h1
    simp only [Prod.mk.injEq] at h2
    obtain ⟨rfl, rfl⟩ := h2
    exact ⟨by simp only [Array.toList_eraseIdxIfInBounds, map_erase]; rw [h3], h4⟩
theorem stPut_old {x : Value} {es : List (Value × Value)} {r : Nat × Value} (h : mfind x es 0 = some (some r)) (st : Option (List Nat × Nat)) : stPut x es st = st := by
  cases st with
  | none => rfl
  | some s => simp only [stPut, h]
theorem stPut_new {x : Value} {es : List (Value × Value)} (h : mfind x es 0 = some none) (st : Option (List Nat × Nat)) : stPut x es st = st.map fun s => (s.1 ++ [s.2], s.2 + 1) := by
  cases st with
  | none => rfl
  | some s => simp only [stPut, h]; rfl
theorem stDel_old {x : Value} {es : List (Value × Value)} {i : Nat} {v : Value} (h : mfind x es 0 = some (some (i, v))) (st : Option (List Nat × Nat)) : stDel x es st = st.map fun s => (s.1.eraseIdx i, s.2) := by
  cases st with
  | none => rfl
  | some s => simp only [stDel, h]; rfl
theorem stDel_new {x : Value} {es : List (Value × Value)} (h : mfind x es 0 = some none) (st : Option (List Nat × Nat)) : stDel x es st = st := by
  cases st with
  | none => rfl
  | some s => simp only [stDel, h]
/-- A map's block turns. -/
theorem map_write {o b : Nat} {es es' : List (Value × Value)} {st st' : Option (List Nat × Nat)} {ens ens' : Array MapEntry} {clk clk' : Nat} (rel : Rel cx β h w) (ho : h o = some (.mp es st)) (hb : β o = some (some b)) (hw : w.heap[b]? = some (.map ens clk))
    (he : ens'.toList.map (fun e => (e.key, e.val)) = es') (h1 : ∀ p ∈ es', one p.1 = true ∧ one p.2 = true) (h2 : Stamps ens' clk' st') :
    Rel cx β (put h o (some (.mp es' st'))) { w with heap := w.heap.setIfInBounds b (.map ens' clk') } ∧ (envOf cx.Xo β h w).Le (envOf cx.Xo β (put h o (some (.mp es' st'))) { w with heap := w.heap.setIfInBounds b (.map ens' clk') }) := by
  have hlt : b < w.heap.size := rel.lt hb
  have hset : ({ w with heap := w.heap.setIfInBounds b (.map ens' clk') } : World).heap[b]? = some (.map ens' clk') := by simp [Array.getElem?_setIfInBounds, hlt]
  have hoth : ∀ k, k ≠ b → ({ w with heap := w.heap.setIfInBounds b (.map ens' clk') } : World).heap[k]? = w.heap[k]? := fun k hk => by
    show (w.heap.setIfInBounds b (.map ens' clk'))[k]? = _
    rw [Array.getElem?_setIfInBounds, if_neg (fun e => hk e.symm)]
  refine rel.write o b (.mp es st) (.mp es' st') ho hb ⟨rfl, rfl, rfl, by simp, Nat.le_refl _, fun k hk => ?_⟩ (by simp [Ob.grow]) (fun _ h => h) (fun k hk _ => hoth k hk) (fun L => ?_)
  · by_cases hkb : k = b
    · subst hkb
      exact .inr (.inr ⟨_, _, hw, hset, ⟨trivial, trivial⟩, rfl, trivial⟩)
    · exact .inl (hoth k hkb)
  · simp only [Ob.rep]
    exact ⟨b, ens', clk', rfl, hset, he, h1, h2⟩
def effMakeMap (tt : Types) (t : Nat) (dst : Option Nat) (h : Nat → Option Ob) : Option Eff :=
  match tt t, dst with
  | some ti, some d => match ti.k, h d with
    | .map _ _, none => some ⟨True, .mp d, [(d, .mp [] (some ([], 0)))], [d]⟩
    | _, _ => none
  | _, _ => none
theorem effMakeMap_ok {tt : Types} (T : tt.ok P) {t : Nat} {dst : Option Nat} {e : Eff} (rel : Rel cx β h w) (he : effMakeMap tt t dst h = some e) :
    Sound P cx β h w (do pure (.value (← Instr.makeMap t none))) e := by
  unfold effMakeMap at he
  split at he
  · rename_i ti d ht
    split at he
    · rename_i hk hd
      cases he
      obtain ⟨r1, L1⟩ := rel.allocX d (.mp [] (some ([], 0))) (.map #[] 0) hd (fun L => by
        simp only [Ob.rep]
        exact ⟨_, #[], 0, rfl, heap_alloc_new w _, rfl, by simp, ⟨List.Pairwise.nil, by simp, fun _ _ e => by cases e; exact ⟨rfl, rfl⟩⟩⟩)
      refine ⟨_, _, .value (.map (some w.heap.size)), .map (some w.heap.size), by simp [Instr.makeMap, newObj, Sem.run], .inl rfl, r1, L1, ?_⟩
      simp only [A.rep, envOf]
      exact ⟨w.heap.size, [], _, by simp, by simp [upds]; rfl, rfl⟩
    · cases he
  · cases he
def effMapUpd (tt : Types) (t : Nat) (h : Nat → Option Ob) : A → A → A → Option Eff
  | .mp o, .d (.lit x), .d (.lit v) => match tt t, h o with
    | some ti, some (.mp es st) => match ti.k with
      | .map k _ => match tt k, mput x v es with
        | some tk, some es' => some ⟨keyOf tk.k x = true, .any, [(o, .mp es' (stPut x es st))], [o]⟩
        | _, _ => none
      | _ => none
    | _, _ => none
  | _, _, _ => none
theorem effMapUpd_ok {tt : Types} (T : tt.ok P) {t : Nat} {ma ka va : A} {mv kv vv : Value} {e : Eff} (rel : Rel cx β h w) (he : effMapUpd tt t h ma ka va = some e) (hs : e.side) (hm : ma.rep (envOf cx.Xo β h w) mv)
    (hkk : ka.rep (envOf cx.Xo β h w) kv) (hv : va.rep (envOf cx.Xo β h w) vv) : Sound P cx β h w (do Instr.mapUpdate t mv kv vv; pure .skip) e := by
  unfold effMapUpd at he
  split at he
  · rename_i o x v
    split at he
    · rename_i ti es st ht ho
      split at he
      · rename_i k el hk
        split at he
        · rename_i tk es' htk hput
          cases he
          have hs : keyOf tk.k x = true := hs
          simp only [A.rep, D.rep] at hm hkk hv
          obtain ⟨b, es0, st0, hb, _, rfl⟩ := hm
          rw [hkk.1, hv.1]
          have hd := rel.obj o _ _ ho hb
          simp only [Ob.rep] at hd
          obtain ⟨b', ens, clk, hbb, hw, hen, h1, hst⟩ := hd
          cases hbb
          have hdesc := (T t ti ht).desc
          rw [hk] at hdesc
          simp only [TK.ok] at hdesc
          have hkd := (T k tk htk).desc
          have hck := fun bb => run_checkKey (w := w) (b := bb) (n := 9999) hkd hs
          unfold mput at hput
          split at hput
          · rename_i i v0 hf
            cases hput
            have hf' : mfind x (ens.toList.map fun e => (e.key, e.val)) 0 = some (some (i, v0)) := by rw [hen]; exact hf
            have hfk := run_findKey (w := w) hkd hs hf'
            obtain ⟨_, p, hp, _, hsm⟩ := mfind_some hf
            have hxp := sameV_eq hsm
            simp only [Nat.sub_zero] at hp
            have hlen : ens.toList.length = es.length := by rw [← hen]; simp
            have hi : i < ens.size := by
              have := (List.getElem?_eq_some_iff.1 hp).1
              simpa [← hlen] using this
            have hkey : (ens[i]?.map (·.key)).getD x = x := by
              rw [← hen] at hp
              simp only [List.getElem?_map, Option.map_eq_some_iff] at hp
              obtain ⟨e0, he0, rfl⟩ := hp
              rw [Array.getElem?_toList] at he0
              rw [he0]
              exact hxp.symm
            obtain ⟨r1, L1⟩ := map_write (st' := stPut x es st) (ens' := ens.modify i fun e => { e with key := x, val := v }) (clk' := clk) (es' := es.set i (x, v)) rel ho hb hw (by
              rw [← hen]
              apply List.ext_getElem?
              intro j
              simp only [List.getElem?_map, Array.getElem?_toList, Array.getElem?_modify, List.getElem?_set, List.length_map, Array.length_toList]
              by_cases hj : i = j
              · subst hj; simp [hi]
              · simp [hj]) (by
              intro q hq
              rcases List.mem_or_eq_of_mem_set hq with hq | rfl
              · exact h1 q hq
              · exact ⟨hkk.2, hv.2⟩) (by rw [stPut_old hf]; exact hst.modify i _ (fun _ => rfl))
            refine ⟨_, _, .skip, undef, ?_, .inr ⟨rfl, rfl⟩, r1, L1, by simp [A.rep]⟩
            simp [Instr.mapUpdate, run_underlying hdesc, MapKept.run_getObj_map hw, hck, hfk, hkey, Instr.keyThatStays, sameBits_self hs, MapKept.run_setObj_map _ hw]
          · rename_i hf
            cases hput
            have hf' : mfind x (ens.toList.map fun e => (e.key, e.val)) 0 = some none := by rw [hen]; exact hf
            have hfk := run_findKey (w := w) hkd hs hf'
            obtain ⟨r1, L1⟩ := map_write (st' := stPut x es st) (ens' := ens.push { key := x, val := v, born := clk }) (clk' := clk + 1) (es' := es ++ [(x, v)]) rel ho hb hw (by simp [hen]) (by
              intro q hq
              rcases List.mem_append.1 hq with hq | hq
              · exact h1 q hq
              · simp at hq; subst hq; exact ⟨hkk.2, hv.2⟩) (by rw [stPut_new hf]; exact hst.push x v)
            refine ⟨_, _, .skip, undef, ?_, .inr ⟨rfl, rfl⟩, r1, L1, by simp [A.rep]⟩
            simp [Instr.mapUpdate, run_underlying hdesc, MapKept.run_getObj_map hw, hck, hfk, MapKept.run_setObj_map _ hw]
          · cases hput
        · cases he
      · cases he
    · cases he
  · cases he
/-! Maps under way whose entries are known, but not their order. -/
def bput (S : Value → Option Value) (x v : Value) : Value → Option Value := fun k => if sameV k x = some true then some v else S k
def noKeys : Value → Option Value := fun _ => none
def Apart (x : Value) (S : Value → Option Value) : Prop := ∀ k v, S k = some v → sameV x k = some false
theorem apart_no (x : Value) : Apart x noKeys := fun _ _ h => by cases h
theorem apart_put {x y v : Value} {S : Value → Option Value} (h1 : sameV x y = some false) (h2 : Apart x S) : Apart x (bput S y v) := by
  intro k u hk
  unfold bput at hk
  split at hk
  · rename_i e; rw [sameV_eq e]; exact h1
  · exact h2 k u hk
theorem sameV_self {x : Value} {k : TK} (h : keyOf k x = true) : sameV x x = some true := by
  unfold keyOf at h
  split at h
  · simp [sameV]
  · simp [sameV, (MapKept.bytes_beq _ _).2 rfl]
  · cases h
theorem sameV_symm {x y : Value} (h : sameV x y = some false) : sameV y x = some false := by
  unfold sameV at h
  split at h
  · split at h
    · rename_i k a k' b e
      subst e
      simp only [Option.some.injEq, beq_eq_false_iff_ne] at h
      simp [sameV, Ne.symm h]
    · cases h
  · rename_i a b
    simp only [Option.some.injEq] at h
    simp only [sameV, Option.some.injEq]
    cases hb : (b == a) with
    | false => rfl
    | true => rw [(MapKept.bytes_beq _ _).1 hb, (MapKept.bytes_beq _ _).2 rfl] at h; cases h
  · cases h
theorem Apart.fresh {x : Value} {S : Value → Option Value} {k : TK} (hx : keyOf k x = true) (h : Apart x S) : S x = none := by
  cases hs : S x with
  | none => rfl
  | some v => have := h x v hs; rw [sameV_self hx] at this; cases this
theorem bput_comm {S : Value → Option Value} {x y u v : Value} (h : x ≠ y) : bput (bput S x u) y v = bput (bput S y v) x u := by
  funext k
  unfold bput
  by_cases h1 : sameV k x = some true
  · by_cases h2 : sameV k y = some true
    · exact absurd ((sameV_eq h1).symm.trans (sameV_eq h2)) h
    · rw [if_neg h2, if_pos h1, if_pos h1]
  · by_cases h2 : sameV k y = some true
    · rw [if_pos h2, if_neg h1, if_pos h2]
    · rw [if_neg h2, if_neg h1, if_neg h1, if_neg h2]
theorem mfind_apart {x : Value} : ∀ (es : List (Value × Value)) (i : Nat), (∀ p ∈ es, sameV x p.1 = some false) → mfind x es i = some none
  | [], _, _ => rfl
  | p :: es, i, h => by
    simp only [mfind, h p (by simp)]
    exact mfind_apart es (i + 1) fun q hq => h q (by simp [hq])
/-- What an object is as a bag of entries, and how many came. -/
def bagOf : Ob → Option ((Value → Option Value) × Nat)
  | .bag S n => some (S, n)
  | .mp [] (some ([], 0)) => some (noKeys, 0)
  | _ => none
theorem bag_bind (x : Ob) : (some x).bind bagOf = bagOf x := rfl
def effInsert (tt : Types) (t : Nat) (h : Nat → Option Ob) : A → A → A → Option Eff
  | .mp o, .d (.lit x), .d (.lit v) => match tt t, (h o).bind bagOf with
    | some ti, some (S, n) => match ti.k with
      | .map k _ => match tt k with
        | some tk => some ⟨keyOf tk.k x = true ∧ Apart x S, .any, [(o, .bag (bput S x v) (n + 1))], [o]⟩
        | _ => none
      | _ => none
    | _, _ => none
  | _, _, _ => none
theorem effInsert_inv {tt : Types} {t : Nat} {h : Nat → Option Ob} {a b c : A} {e : Eff} (he : effInsert tt t h a b c = some e) :
    ∃ q x v ti S n k el tk, a = .mp q ∧ b = .d (.lit x) ∧ c = .d (.lit v) ∧ tt t = some ti ∧ ti.k = .map k el ∧ tt k = some tk ∧ (h q).bind bagOf = some (S, n) ∧ e = ⟨keyOf tk.k x = true ∧ Apart x S, .any, [(q, .bag (bput S x v) (n + 1))], [q]⟩ := by
  unfold effInsert at he
  split at he
  · rename_i o x v
    split at he
    · rename_i ti S n ht ho
      split at he
      · rename_i k el hk
        split at he
        · rename_i tk htk
          cases he
          exact ⟨o, x, v, ti, S, n, k, el, tk, rfl, rfl, rfl, ht, hk, htk, ho, rfl⟩
        · cases he
      · cases he
    · cases he
  · cases he
theorem effInsert_mk {tt : Types} {t : Nat} {h : Nat → Option Ob} {q : Nat} {x v : Value} {ti tk : TI} {S : Value → Option Value} {n k el : Nat} (h1 : tt t = some ti) (h2 : ti.k = .map k el) (h3 : tt k = some tk) (h4 : (h q).bind bagOf = some (S, n)) :
    effInsert tt t h (.mp q) (.d (.lit x)) (.d (.lit v)) = some ⟨keyOf tk.k x = true ∧ Apart x S, .any, [(q, .bag (bput S x v) (n + 1))], [q]⟩ := by
  simp only [effInsert, h1, h2, h3, h4]
theorem bagOf_rep {E : Env} {bo : Option Nat} {ob : Ob} {S : Value → Option Value} {n : Nat} (hb : bagOf ob = some (S, n)) (h : ob.rep E w bo) : (Ob.bag S n).rep E w bo := by
  unfold bagOf at hb
  split at hb
  · cases hb; exact h
  · cases hb
    simp only [Ob.rep] at h ⊢
    obtain ⟨b, ens, clk, h1, h2, h3, h4, h5⟩ := h
    obtain ⟨h6, rfl⟩ := h5.st [] 0 rfl
    have : ens.toList = [] := by simpa using h3
    refine ⟨b, ens, h1, h2, fun x y => ?_, ?_, h5.any⟩
    · rw [this]; simp [noKeys]
    · rw [this]; simp
  · cases hb
theorem bagOf_grow {b : Option (Option Nat)} {ob : Ob} {S : Value → Option Value} {n : Nat} (hb : bagOf ob = some (S, n)) (S' : Value → Option Value) (n' : Nat) : Ob.grow b b ob (.bag S' n') := by
  unfold bagOf at hb
  split at hb
  · simp [Ob.grow]
  · simp [Ob.grow]
  · cases hb
theorem bagOf_excl {ob : Ob} {S : Value → Option Value} {n : Nat} (hb : bagOf ob = some (S, n)) (i : Nat) : ob.excl i := by
  unfold bagOf at hb
  split at hb
  · trivial
  · trivial
  · cases hb
theorem bag_write {o b : Nat} {ob : Ob} {S S' : Value → Option Value} {n n' : Nat} {ens ens' : Array MapEntry} (rel : Rel cx β h w) (ho : h o = some ob) (hbg : bagOf ob = some (S, n)) (hb : β o = some (some b)) (hw : w.heap[b]? = some (.map ens n))
    (he : ∀ x y, (x, y) ∈ ens'.toList.map (fun e => (e.key, e.val)) ↔ S' x = some y) (h1 : ∀ e ∈ ens'.toList, one e.key = true ∧ one e.val = true) (h2 : Stamps ens' n' none) :
    Rel cx β (put h o (some (.bag S' n'))) { w with heap := w.heap.setIfInBounds b (.map ens' n') } ∧ (envOf cx.Xo β h w).Le (envOf cx.Xo β (put h o (some (.bag S' n'))) { w with heap := w.heap.setIfInBounds b (.map ens' n') }) := by
  have hlt : b < w.heap.size := rel.lt hb
  have hset : ({ w with heap := w.heap.setIfInBounds b (.map ens' n') } : World).heap[b]? = some (.map ens' n') := by simp [Array.getElem?_setIfInBounds, hlt]
  have hoth : ∀ k, k ≠ b → ({ w with heap := w.heap.setIfInBounds b (.map ens' n') } : World).heap[k]? = w.heap[k]? := fun k hk => by
    show (w.heap.setIfInBounds b (.map ens' n'))[k]? = _
    rw [Array.getElem?_setIfInBounds, if_neg (fun e => hk e.symm)]
  refine rel.write o b ob (.bag S' n') ho hb ⟨rfl, rfl, rfl, by simp, Nat.le_refl _, fun k hk => ?_⟩ (bagOf_grow hbg _ _) (fun i _ => bagOf_excl hbg i) (fun k hk _ => hoth k hk) (fun L => ?_)
  · by_cases hkb : k = b
    · subst hkb
      exact .inr (.inr ⟨_, _, hw, hset, ⟨trivial, trivial⟩, rfl, bagOf_excl hbg 0⟩)
    · exact .inl (hoth k hkb)
  · simp only [Ob.rep]
    exact ⟨b, ens', rfl, hset, he, h1, h2⟩
theorem effInsert_ok {tt : Types} (T : tt.ok P) {t : Nat} {ma ka va : A} {mv kv vv : Value} {e : Eff} (rel : Rel cx β h w) (he : effInsert tt t h ma ka va = some e) (hs : e.side) (hm : ma.rep (envOf cx.Xo β h w) mv)
    (hkk : ka.rep (envOf cx.Xo β h w) kv) (hv : va.rep (envOf cx.Xo β h w) vv) : Sound P cx β h w (do Instr.mapUpdate t mv kv vv; pure .skip) e := by
  unfold effInsert at he
  split at he
  · rename_i o x v
    split at he
    · rename_i ti S n ht ho
      split at he
      · rename_i k el hk
        split at he
        · rename_i tk htk
          cases he
          obtain ⟨hs, hap⟩ : keyOf tk.k x = true ∧ Apart x S := hs
          obtain ⟨ob, ho, hbg⟩ := Option.bind_eq_some_iff.1 ho
          simp only [A.rep, D.rep] at hm hkk hv
          obtain ⟨b, es0, st0, hb, _, rfl⟩ := hm
          rw [hkk.1, hv.1]
          have hd := bagOf_rep hbg (rel.obj o _ _ ho hb)
          simp only [Ob.rep] at hd
          obtain ⟨b', ens, hbb, hw, hen, h1, hst⟩ := hd
          cases hbb
          have hdesc := (T t ti ht).desc
          rw [hk] at hdesc
          simp only [TK.ok] at hdesc
          have hkd := (T k tk htk).desc
          have hck := fun bb => run_checkKey (w := w) (b := bb) (n := 9999) hkd hs
          have hf' : mfind x (ens.toList.map fun e => (e.key, e.val)) 0 = some none := mfind_apart _ _ fun p hp => hap p.1 p.2 ((hen p.1 p.2).1 hp)
          have hfk := run_findKey (w := w) hkd hs hf'
          obtain ⟨r1, L1⟩ := bag_write (S' := bput S x v) (n' := n + 1) (ens' := ens.push { key := x, val := v, born := n }) rel ho hbg hb hw (fun k y => by
            rw [Array.toList_push, List.map_append, List.mem_append, hen]
            unfold bput
            by_cases hkx : k = x
            · subst hkx
              rw [if_pos (sameV_self hs), hap.fresh hs]
              simp [eq_comm]
            · rw [if_neg (fun e => hkx (sameV_eq e))]
              simp [hkx]) (fun q hq => by
            rw [Array.toList_push] at hq
            rcases List.mem_append.1 hq with hq | hq
            · exact h1 q hq
            · simp at hq; subst hq; exact ⟨hkk.2, hv.2⟩) (hst.push x v)
          refine ⟨_, _, .skip, undef, ?_, .inr ⟨rfl, rfl⟩, r1, L1, by simp [A.rep]⟩
          simp [Instr.mapUpdate, run_underlying hdesc, MapKept.run_getObj_map hw, hck, hfk, MapKept.run_setObj_map _ hw]
        · cases he
      · cases he
    · cases he
  · cases he
def effDelete (tt : Types) (t : Nat) (h : Nat → Option Ob) : A → A → Option Eff
  | .d (.lit (.map none)), .d (.lit x) => match tt t with
    | some ti => match ti.k with
      | .map k _ => match tt k with
        | some tk => some ⟨keyOf tk.k x = true, .any, [], []⟩
        | _ => none
      | _ => none
    | _ => none
  | .mp o, .d (.lit x) => match tt t, h o with
    | some ti, some (.mp es st) => match ti.k with
      | .map k _ => match tt k, mdel x es with
        | some tk, some es' => some ⟨keyOf tk.k x = true, .any, [(o, .mp es' (stDel x es st))], [o]⟩
        | _, _ => none
      | _ => none
    | _, _ => none
  | _, _ => none
theorem effDelete_ok {tt : Types} (T : tt.ok P) {t t2 ty : Nat} {ma ka : A} {mv kv : Value} {e : Eff} (rel : Rel cx β h w) (he : effDelete tt t h ma ka = some e) (hs : e.side) (hm : ma.rep (envOf cx.Xo β h w) mv)
    (hkk : ka.rep (envOf cx.Xo β h w) kv) : Sound P cx β h w (do pure (.value (← Builtin.delete_ #[t, t2] ty #[mv, kv]))) e := by
  unfold effDelete at he
  split at he
  · rename_i x
    split at he
    · rename_i ti ht
      split at he
      · rename_i k el hk
        split at he
        · rename_i tk htk
          cases he
          have hs : keyOf tk.k x = true := hs
          simp only [A.rep, D.rep] at hm hkk
          rw [hm.1, hkk.1]
          have hdesc := (T t ti ht).desc
          rw [hk] at hdesc
          simp only [TK.ok] at hdesc
          exact .pure rel (r := .tuple #[]) (by simp [Builtin.delete_, run_underlying hdesc, run_checkKey (T k tk htk).desc hs]) rfl (by simp [A.rep])
        · cases he
      · cases he
    · cases he
  · rename_i o x
    split at he
    · rename_i ti es st ht ho
      split at he
      · rename_i k el hk
        split at he
        · rename_i tk es' htk hput
          cases he
          have hs : keyOf tk.k x = true := hs
          simp only [A.rep, D.rep] at hm hkk
          obtain ⟨b, es0, st0, hb, _, rfl⟩ := hm
          rw [hkk.1]
          have hd := rel.obj o _ _ ho hb
          simp only [Ob.rep] at hd
          obtain ⟨b', ens, clk, hbb, hw, hen, h1, hst⟩ := hd
          cases hbb
          have hdesc := (T t ti ht).desc
          rw [hk] at hdesc
          simp only [TK.ok] at hdesc
          have hkd := (T k tk htk).desc
          have hck := fun bb => run_checkKey (w := w) (b := bb) (n := 9999) hkd hs
          unfold mdel at hput
          split at hput
          · rename_i i v0 hf
            cases hput
            have hf' : mfind x (ens.toList.map fun e => (e.key, e.val)) 0 = some (some (i, v0)) := by rw [hen]; exact hf
            have hfk := run_findKey (w := w) hkd hs hf'
            obtain ⟨r1, L1⟩ := map_write (st' := stDel x es st) (ens' := ens.eraseIdxIfInBounds i) (clk' := clk) (es' := es.eraseIdx i) rel ho hb hw (by
              rw [← hen, ← map_erase]
              simp) (fun q hq => h1 q (List.mem_of_mem_eraseIdx hq)) (by rw [stDel_old hf]; exact hst.erase i)
            refine ⟨_, _, .value (.tuple #[]), .tuple #[], ?_, .inl rfl, r1, L1, by simp [A.rep]⟩
            simp [Builtin.delete_, run_underlying hdesc, MapKept.run_getObj_map hw, hck, hfk, MapKept.run_setObj_map _ hw]
          · rename_i hf
            cases hput
            have hf' : mfind x (ens.toList.map fun e => (e.key, e.val)) 0 = some none := by rw [hen]; exact hf
            have hfk := run_findKey (w := w) hkd hs hf'
            obtain ⟨r1, L1⟩ := map_write (st' := stDel x es st) (ens' := ens) (clk' := clk) (es' := es) rel ho hb hw hen h1 (by rw [stDel_new hf]; exact hst)
            refine ⟨_, _, .value (.tuple #[]), .tuple #[], ?_, .inl rfl, r1, L1, by simp [A.rep]⟩
            simp [Builtin.delete_, run_underlying hdesc, MapKept.run_getObj_map hw, hck, hfk, MapKept.run_setObj_map _ hw]
          · cases hput
        · cases he
      · cases he
    · cases he
  · cases he
/-- What a lookup yields. -/
def mgot (ok : Bool) (z : Value) (r : Option (Nat × Value)) : A := match r with
  | some (_, v) => if ok then .tup [.d (.lit v), .d (.lit (.bool true))] else .d (.lit v)
  | none => if ok then .tup [.d (.lit z), .d (.lit (.bool false))] else .d (.lit z)
def effLookup (tt : Types) (t : Nat) (ok : Bool) (h : Nat → Option Ob) : A → A → Option Eff
  | .d (.lit (.map none)), .d (.lit x) => match tt t with
    | some ti => match ti.k with
      | .map k e => match tt k, tt e with
        | some tk, some te => match te.zero, te.isAgg with
          | [z], false => some ⟨keyOf tk.k x = true, mgot ok z none, [], []⟩
          | _, _ => none
        | _, _ => none
      | _ => none
    | _ => none
  | .mp o, .d (.lit x) => match tt t, h o with
    | some ti, some (.mp es _) => match ti.k with
      | .map k e => match tt k, tt e with
        | some tk, some te => match te.zero, te.isAgg with
          | [z], false => match mfind x es 0 with
            | some r => some ⟨keyOf tk.k x = true, mgot ok z r, [], [o]⟩
            | none => none
          | _, _ => none
        | _, _ => none
      | _ => none
    | _, _ => none
  | _, _ => none
theorem zero_one {tt : Types} (T : tt.ok P) {t : Nat} {ti : TI} {z : Value} (ht : tt t = some ti) (hz : ti.zero = [z]) (ha : ti.isAgg = false) : (zeroValue t).run P w = .ok z w ∧ one z = true := by
  obtain ⟨i, h1, h2⟩ := (T t ti ht).zero1 ha z hz
  exact ⟨by simp [zeroValue, typeInfo, h1, h2], (T t ti ht).one z (by simp [hz])⟩
theorem effLookup_ok {tt : Types} (T : tt.ok P) {t : Nat} {ok : Bool} {ma ka : A} {mv kv : Value} {e : Eff} (rel : Rel cx β h w) (he : effLookup tt t ok h ma ka = some e) (hs : e.side) (hm : ma.rep (envOf cx.Xo β h w) mv)
    (hkk : ka.rep (envOf cx.Xo β h w) kv) : Sound P cx β h w (do pure (.value (← Instr.lookup t mv kv ok))) e := by
  have hgot : ∀ (z : Value) (r : Option (Nat × Value)), one z = true → (∀ i v, r = some (i, v) → one v = true) →
      (mgot ok z r).rep (envOf cx.Xo β h w) (let (v, b) := (match r with | some (_, v) => (v, true) | none => (z, false)); if ok then .tuple #[v, .bool b] else v) := by
    intro z r hz hr
    have b1 : ∀ b, one (.bool b) = true := fun _ => rfl
    cases r with
    | none => cases ok <;> simp [mgot, A.rep, D.rep, repL, hz, b1]
    | some p => obtain ⟨i, v⟩ := p; have := hr i v rfl; cases ok <;> simp [mgot, A.rep, D.rep, repL, this, b1]
  unfold effLookup at he
  split at he
  · rename_i x
    split at he
    · rename_i ti ht
      split at he
      · rename_i k el hk
        split at he
        · rename_i tk te htk hte
          split at he
          · rename_i z hz ha
            cases he
            have hs : keyOf tk.k x = true := hs
            simp only [A.rep, D.rep] at hm hkk
            rw [hm.1, hkk.1]
            have hdesc := (T t ti ht).desc
            rw [hk] at hdesc
            simp only [TK.ok] at hdesc
            obtain ⟨g1, g2⟩ := zero_one (w := w) T hte hz ha
            have hkd := (T k tk htk).desc
            exact .pure rel (by simp [Instr.lookup, run_underlying hdesc, run_checkKey hkd hs, run_findKey (w := w) (es := []) hkd hs rfl, g1]) rfl (hgot z none g2 (by simp))
          · cases he
        · cases he
      · cases he
    · cases he
  · rename_i o x
    split at he
    · rename_i ti es st ht ho
      split at he
      · rename_i k el hk
        split at he
        · rename_i tk te htk hte
          split at he
          · rename_i z hz ha
            split at he
            · rename_i r hf
              cases he
              have hs : keyOf tk.k x = true := hs
              simp only [A.rep, D.rep] at hm hkk
              obtain ⟨b, es0, st0, hb, _, rfl⟩ := hm
              rw [hkk.1]
              have hd := rel.obj o _ _ ho hb
              simp only [Ob.rep] at hd
              obtain ⟨b', ens, clk, hbb, hw, hen, h1, hst⟩ := hd
              cases hbb
              have hdesc := (T t ti ht).desc
              rw [hk] at hdesc
              simp only [TK.ok] at hdesc
              have hkd := (T k tk htk).desc
              obtain ⟨g1, g2⟩ := zero_one (w := w) T hte hz ha
              have hf' : mfind x (ens.toList.map fun e => (e.key, e.val)) 0 = some r := by rw [hen]; exact hf
              have hfk := run_findKey (w := w) hkd hs hf'
              have hck := fun bb => run_checkKey (w := w) (b := bb) (n := 9999) hkd hs
              have hone : ∀ i v, r = some (i, v) → one v = true := by
                rintro i v rfl
                obtain ⟨_, p, hp, rfl, _⟩ := mfind_some hf
                exact (h1 p (List.mem_of_getElem? hp)).2
              cases r with
              | none => exact .pure rel (by simp [Instr.lookup, run_underlying hdesc, MapKept.run_getObj_map hw, hck, hfk, g1]) rfl (hgot z none g2 hone)
              | some p => obtain ⟨i, v⟩ := p; exact .pure rel (by simp [Instr.lookup, run_underlying hdesc, MapKept.run_getObj_map hw, hck, hfk, g1]) rfl (hgot z (some (i, v)) g2 hone)
            · cases he
          · cases he
        · cases he
      · cases he
    · cases he
  · cases he
def effLenM (h : Nat → Option Ob) : A → Option Eff
  | .d (.lit (.map none)) => ok1 (.d (.lit (.int .i64 0)))
  | .mp o => match h o with
    | some (.mp es _) => some ⟨True, .d (.lit (.int .i64 es.length)), [], [o]⟩
    | _ => none
  | _ => none
theorem effLenM_ok {t k el : Nat} {ma : A} {mv : Value} {e : Eff} {ty : Nat} (rel : Rel cx β h w) (hd : P.underlying t = some (.map k el)) (he : effLenM h ma = some e) (hm : ma.rep (envOf cx.Xo β h w) mv) :
    Sound P cx β h w (do pure (.value (← Builtin.len_ #[t] ty #[mv]))) e := by
  unfold effLenM at he
  split at he
  · cases he
    simp only [A.rep, D.rep] at hm
    rw [hm.1]
    exact .pure rel (r := .int .i64 0) (by simp [Builtin.len_, run_underlying hd, goInt]) rfl (by simp [A.rep, D.rep, one])
  · rename_i o
    split at he
    · rename_i es st ho
      cases he
      simp only [A.rep] at hm
      obtain ⟨b, es0, st0, hb, _, rfl⟩ := hm
      have hd := rel.obj o _ _ ho hb
      simp only [Ob.rep] at hd
      obtain ⟨b', ens, clk, hbb, hw, hen, h1, hst⟩ := hd
      cases hbb
      have hl : ens.size = es.length := by rw [← hen]; simp
      exact .pure rel (r := .int .i64 es.length) (by simp [Builtin.len_, run_underlying hd, goInt, MapKept.run_getObj_map hw, hl]) rfl (by simp [A.rep, D.rep, one])
    · cases he
  · cases he
/-- A text is begun to be gone through. -/
def effRange (tt : Types) (t : Nat) (dst : Option Nat) (h : Nat → Option Ob) (x : A) : Option Eff :=
  match x with
  | .d (.lit (.string s)) => match tt t, dst with
    | some ti, some d => match ti.k, h d with
      | .string, none => some ⟨True, .itr d, [(d, .it s 0)], [d]⟩
      | _, _ => none
    | _, _ => none
  | .mp om => match tt t, dst, h om with
    | some ti, some d, some (.mp es (some (bs, clk))) => match ti.k, h d with
      | .map _ _, none => some ⟨True, .xo false d, [(d, .x (.mi bs clk []) [.mp om])], [d, om]⟩
      | _, _ => none
    | some ti, some d, some (.bag S n) => match ti.k, h d with
      | .map _ _, none => some ⟨True, .xo false d, [(d, .x (.bi n) [.mp om])], [d, om]⟩
      | _, _ => none
    | _, _, _ => none
  | _ => none
theorem effRange_ok {tt : Types} (T : tt.ok P) {t : Nat} {dst : Option Nat} {xa : A} {xv : Value} {e : Eff} (rel : Rel cx β h w) (he : effRange tt t dst h xa = some e) (hx : xa.rep (envOf cx.Xo β h w) xv) :
    Sound P cx β h w (do pure (.value (← Instr.range t xv))) e := by
  unfold effRange at he
  split at he
  · rename_i s
    split at he
    · rename_i ti d ht
      split at he
      · rename_i hk hd
        cases he
        simp only [A.rep, D.rep] at hx
        rw [hx.1]
        have hdesc := (T t ti ht).desc
        rw [hk] at hdesc
        simp only [TK.ok] at hdesc
        obtain ⟨r1, L1⟩ := rel.allocX d (.it s 0) (.stringIter s 0) hd (fun L => by
          simp only [Ob.rep]
          exact ⟨_, rfl, heap_alloc_new w _⟩)
        refine ⟨_, _, .value (.pointer (some ⟨w.heap.size, 0, none⟩)), .pointer (some ⟨w.heap.size, 0, none⟩), by simp [Instr.range, run_underlying hdesc, newObj, Sem.run], .inl rfl, r1, L1, ?_⟩
        simp only [A.rep, envOf]
        exact ⟨w.heap.size, s, 0, by simp, by simp [upds], rfl⟩
      · cases he
    · cases he
  · rename_i om
    split at he
    · rename_i ti d es bs clk ht ho
      split at he
      · rename_i k el hk hd
        cases he
        have hx0 := hx
        simp only [A.rep] at hx
        obtain ⟨b, es0, st0, hb, _, rfl⟩ := hx
        have hdd := rel.obj om _ _ ho hb
        simp only [Ob.rep] at hdd
        obtain ⟨b', ens, clk', hbb, hw, hen, h1, hst⟩ := hdd
        cases hbb
        obtain ⟨hs1, hs2⟩ := hst.st _ _ rfl
        subst hs2
        have hdesc := (T t ti ht).desc
        rw [hk] at hdesc
        simp only [TK.ok] at hdesc
        obtain ⟨r1, L1⟩ := rel.allocX d (.x (.mi bs clk []) [.mp om]) (.mapIter (some b) clk #[] clk) hd (fun L => by
          simp only [Ob.rep]
          exact ⟨_, _, [.map (some b)], rfl, heap_alloc_new w _, ⟨rfl, rfl, rfl, rfl, by simp⟩, by simp only [repL]; exact ⟨_, [], rfl, A.rep_le L _ _ hx0, rfl⟩⟩)
        refine ⟨_, _, .value (.pointer (some ⟨w.heap.size, 0, none⟩)), .pointer (some ⟨w.heap.size, 0, none⟩), by simp [Instr.range, run_underlying hdesc, MapKept.run_getObj_map hw, newObj, Sem.run], .inl rfl, r1, L1, ?_⟩
        simp only [A.rep, envOf]
        exact ⟨w.heap.size, .mi bs clk [], [.mp om], by simp, by simp [upds], rfl⟩
      · cases he
    · rename_i ti d S n ht ho
      split at he
      · rename_i k el hk hd
        cases he
        have hx0 := hx
        simp only [A.rep] at hx
        obtain ⟨b, es0, st0, hb, _, rfl⟩ := hx
        have hdd := rel.obj om _ _ ho hb
        simp only [Ob.rep] at hdd
        obtain ⟨b', ens, hbb, hw, hen, h1, hst⟩ := hdd
        cases hbb
        have hdesc := (T t ti ht).desc
        rw [hk] at hdesc
        simp only [TK.ok] at hdesc
        obtain ⟨r1, L1⟩ := rel.allocX d (.x (.bi n) [.mp om]) (.mapIter (some b) n #[] n) hd (fun L => by
          simp only [Ob.rep]
          exact ⟨_, _, [.map (some b)], rfl, heap_alloc_new w _, ⟨rfl, rfl, rfl, rfl⟩, by simp only [repL]; exact ⟨_, [], rfl, A.rep_le L _ _ hx0, rfl⟩⟩)
        refine ⟨_, _, .value (.pointer (some ⟨w.heap.size, 0, none⟩)), .pointer (some ⟨w.heap.size, 0, none⟩), by simp [Instr.range, run_underlying hdesc, MapKept.run_getObj_map hw, newObj, Sem.run], .inl rfl, r1, L1, ?_⟩
        simp only [A.rep, envOf]
        exact ⟨w.heap.size, .bi n, [.mp om], by simp, by simp [upds], rfl⟩
      · cases he
    · cases he
  · cases he
/-- The next letter of a text. -/
def nextOf (o : Nat) (s : ByteArray) (p : Nat) : Eff :=
  if p < s.size then ⟨True, .tup [.d (.lit (.bool true)), .d (.lit (.int .i64 p)), .d (.lit (.int .i32 (Utf8.decode s p).1))], [(o, .it s (p + (Utf8.decode s p).2))], [o]⟩
  else ⟨True, .tup [.d (.lit (.bool false))], [], [o]⟩
theorem nextOf_lt {o : Nat} {s : ByteArray} {p : Nat} (h : p < s.size) : nextOf o s p = ⟨True, .tup [.d (.lit (.bool true)), .d (.lit (.int .i64 p)), .d (.lit (.int .i32 (Utf8.decode s p).1))], [(o, .it s (p + (Utf8.decode s p).2))], [o]⟩ := if_pos h
theorem nextOf_ge {o : Nat} {s : ByteArray} {p : Nat} (h : ¬ p < s.size) : nextOf o s p = ⟨True, .tup [.d (.lit (.bool false))], [], [o]⟩ := if_neg h
def effNext (h : Nat → Option Ob) (b : Bool) : A → Option Eff
  | .itr o => match b, h o with
    | true, some (.it s p) => some (nextOf o s p)
    | _, _ => none
  | _ => none
theorem effNext_ok {b : Bool} {ty : Nat} {xa : A} {xv : Value} {e : Eff} (rel : Rel cx β h w) (he : effNext h b xa = some e) (hx : xa.rep (envOf cx.Xo β h w) xv) :
    Sound P cx β h w (do pure (.value (← Instr.next xv b ty))) e := by
  unfold effNext at he
  split at he
  · rename_i o
    split at he
    · rename_i s p ho
      cases he
      simp only [A.rep] at hx
      obtain ⟨bb, s0, p0, hb, _, rfl⟩ := hx
      have hd := rel.obj o _ _ ho hb
      simp only [Ob.rep] at hd
      obtain ⟨b', hbb, hw⟩ := hd
      cases hbb
      have b1 : ∀ c, one (.bool c) = true := fun _ => rfl
      have b2 : ∀ k c, one (.int k c) = true := fun _ _ => rfl
      have hget : (getObj bb).run P w = .ok (.stringIter s p) w := by simp [getObj, Sem.run, hw]
      by_cases hp : p < s.size
      · rw [nextOf_lt hp]
        have hlt : bb < w.heap.size := rel.lt hb
        have hset : ({ w with heap := w.heap.setIfInBounds bb (.stringIter s (p + (Utf8.decode s p).2)) } : World).heap[bb]? = some (.stringIter s (p + (Utf8.decode s p).2)) := by simp [Array.getElem?_setIfInBounds, hlt]
        have hoth : ∀ k, k ≠ bb → ({ w with heap := w.heap.setIfInBounds bb (.stringIter s (p + (Utf8.decode s p).2)) } : World).heap[k]? = w.heap[k]? := fun k hk => by
          show (w.heap.setIfInBounds bb _)[k]? = _
          rw [Array.getElem?_setIfInBounds, if_neg (fun e => hk e.symm)]
        obtain ⟨r1, L1⟩ := rel.write o bb (.it s p) (.it s (p + (Utf8.decode s p).2)) ho hb (w' := { w with heap := w.heap.setIfInBounds bb (.stringIter s (p + (Utf8.decode s p).2)) }) ⟨rfl, rfl, rfl, by simp, Nat.le_refl _, fun k hk => by
            by_cases hkb : k = bb
            · subst hkb
              exact .inr (.inr ⟨_, _, hw, hset, ⟨trivial, trivial⟩, rfl, trivial⟩)
            · exact .inl (hoth k hkb)⟩ (by simp [Ob.grow]) (fun _ h => h) (fun k hk _ => hoth k hk) (fun L => by
            simp only [Ob.rep]
            exact ⟨bb, rfl, hset⟩)
        have hs : (setObj bb (.stringIter s (p + (Utf8.decode s p).2))).run P w = .ok () { w with heap := w.heap.setIfInBounds bb (.stringIter s (p + (Utf8.decode s p).2)) } := by simp [setObj, Sem.run, hw]
        refine ⟨_, _, .value (.tuple #[.bool true, goInt p, .int .i32 (Utf8.decode s p).1]), .tuple #[.bool true, goInt p, .int .i32 (Utf8.decode s p).1], ?_, .inl rfl, r1, L1, ?_⟩
        · simp [Instr.next, hget, hp, hs]
        · simp only [A.rep]
          exact ⟨[.bool true, goInt p, .int .i32 (Utf8.decode s p).1], rfl, by simp [repL, A.rep, D.rep, b1, b2, goInt]⟩
      · rw [nextOf_ge hp]
        exact .pure rel (r := .tuple #[.bool false]) (by simp [Instr.next, hget, hp]) rfl (by simp [A.rep, repL, D.rep, b1])
    · cases he
  · cases he
end
end Go.Am
