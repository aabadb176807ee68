/- Instances that are made to be valid are valid: a proof over an abstract machine of our own (part Wk) -/
import Derived.Test.YtodoeplhcmecjaaGreatDoorWe
import Derived.Test.YtodoeplhcmecjaaGreatDoorLe
import Derived.Test.YtodoeplhcmecjaaGreatDoorWh
set_option linter.all false
namespace Go.Proofs.YtodoeplhcmecjaaGreatDoor
open Go.Am
attribute [local simp, local push_cast] num boo str ints aV aTab aInst aS aT aC tapeO
set_option linter.unusedVariables false
set_option maxRecDepth 100000
set_option maxHeartbeats 4000000
/-- A value of a type out of few. -/
def nSmall (k : Int) : Int := if (4 : Int) < (valsM k).length then 4 else (valsM k).length
def smallM (xs : List Int) (k : Int) (nl : Bool) (p : Nat) : Val :=
  if nl = true then (valsM k).getD (drawn xs p (nSmall k)).toNat default else (valsM k).getD (1 + drawn xs p (nSmall k - 1)).toNat default
theorem nSmall_le {k : Int} (hk : k = 1 ∨ k = 2 ∨ k = 3) : 3 ≤ nSmall k ∧ nSmall k ≤ 4 ∧ nSmall k ≤ (valsM k).length := by
  have := valsM_len hk
  unfold nSmall
  split <;> omega
theorem c_msmall {xs : List Int} {k : Int} {nl : Bool} {p : Nat} (hx : TapeOk xs) (hk : k = 1 ∨ k = 2 ∨ k = 3) (hp : p ≤ 4000000000000000000) :
    ACall Tryz.prog 26 [.ptr 1000 0, num k, boo nl] [(1000, tapeO xs p)] (aV (smallM xs k nl p)) [(1000, tapeO xs (p + 1))] := by
  refine enterq mixed ttok Tryz.func26 Tryz.ntmps26 Tryz.results26 ?_
  generalize hr : aV (smallM xs k nl p) = R
  simp -implicitDefEqProofs only [argT, ↓steps, push_cast, simprocAttr, tte]
  refine callq [[]] [] (c_mvalues k) ?_
  have hl := nSmall_le hk
  simp -implicitDefEqProofs only [↓steps, push_cast, simprocAttr, tte]
  rw [show (if (4 : Int) < (valsM k).length then (4 : Int) else (valsM k).length) = nSmall k from rfl]
  refine bcase_intro (fun h => ?_) fun h => ?_
  · refine callq [[], []] [(1000, 1000)] (c_next (n := nSmall k) (p := p) hx (by omega) (by omega) hp) ?_
    have hd := drawn_range xs p (n := nSmall k) (by omega)
    simp -implicitDefEqProofs only [↓steps, push_cast, simprocAttr, tte]
    refine ⟨by omega, ?_⟩
    refine retx_of [0, 0, 0] rfl (by simp) (by simp [rowsOf_length] <;> omega) ?_ (by first | rfl | simp [ends] | (subst_vars; simp [ends])) (by simp [ends]) (by simp [ends])
    rw [← hr, smallM, if_pos h]; rfl
  · have e1 : IntKind.i64.wrap (nSmall k - 1) = nSmall k - 1 := wrap_eq (by omega) (by omega)
    simp only [e1]
    refine callq [[], []] [(1000, 1000)] (c_next (n := nSmall k - 1) (p := p) hx (by omega) (by omega) hp) ?_
    have hd := drawn_range xs p (n := nSmall k - 1) (by omega)
    have e2 : IntKind.i64.wrap (1 + drawn xs p (nSmall k - 1)) = 1 + drawn xs p (nSmall k - 1) := wrap_eq (by omega) (by omega)
    simp -implicitDefEqProofs only [↓steps, push_cast, simprocAttr, tte, e2]
    refine ⟨by omega, ?_⟩
    refine retx_of [0, 0, 0] rfl (by simp) (by simp [rowsOf_length] <;> omega) ?_ (by first | rfl | simp [ends] | (subst_vars; simp [ends])) (by simp [ends]) (by simp [ends])
    rw [← hr, smallM, if_neg (by rw [h]; decide)]; rfl
end Go.Proofs.YtodoeplhcmecjaaGreatDoor
namespace Go.Proofs.YtodoeplhcmecjaaGreatDoor
open Go.Am
attribute [local simp, local push_cast] num boo str ints aV aTab aInst aS aT aC aRow rRow rTab rC rB vT tapeO
set_option linter.unusedVariables false
set_option maxRecDepth 100000
set_option maxHeartbeats 4000000
/-! Made instances. -/
/-- A table as a cell. -/
def tabC (t : Tab2) : A := .d (.sl 1 (rowsOf rRow t))
theorem get_at {D E : List A} {a : A} {i : Nat} (h : D.length = i) : (D ++ a :: E)[i]? = some a := by subst h; simp
theorem take_at {D E : List A} {a : A} {i : Nat} (h : D.length = i) : (D ++ a :: E).take i = D := by subst h; simp
theorem drop_at {D E : List A} {a : A} {i : Nat} (h : D.length = i) : (D ++ a :: E).drop (i + 1) = E := by subst h; simp
theorem set_at {D E : List A} {a b : A} {i : Nat} (h : D.length = i) : (D ++ a :: E).set i b = D ++ b :: E := by subst h; simp
theorem closedL_app {dom : Nat → Bool} : ∀ (D E : List A), closedL dom (D ++ E) = (closedL dom D && closedL dom E)
  | [], E => by simp [closedL]
  | a :: D, E => by simp [closedL, closedL_app D E, Bool.and_assoc]
theorem closedL_tabs {dom : Nat → Bool} : ∀ (ts : Inst), closedL dom (ts.map tabC) = true
  | [] => rfl
  | t :: ts => by rw [List.map_cons, closedL, closedL_tabs ts]; rfl
theorem closedL_nils {dom : Nat → Bool} : ∀ (n : Nat), closedL dom (List.replicate n .snil) = true
  | 0 => rfl
  | n + 1 => by rw [List.replicate_succ, closedL, closedL_nils n]; rfl
end Go.Proofs.YtodoeplhcmecjaaGreatDoor
namespace Go.Proofs.YtodoeplhcmecjaaGreatDoor
open Go.Am
set_option linter.unusedVariables false
set_option maxRecDepth 100000
/-! Validity does not depend on the order of rows. -/
theorem cell_nil (T : Tbl) (k : Int) (n c : Nat) (v : Val) : cellVio T k n c v = [] ↔ cellVio T k 0 c v = [] := by
  unfold cellVio
  split
  · simp
  · split <;> simp
theorem cells_nil (T : Tbl) (k : Int) (n : Nat) : ∀ (r : List Val) (c : Nat), cellsVio T k n r c = [] ↔ cellsVio T k 0 r c = []
  | [], _ => Iff.rfl
  | v :: r, c => by rw [cellsVio, cellsVio, List.append_eq_nil_iff, List.append_eq_nil_iff, cell_nil, cells_nil T k n r (c + 1)]
theorem row_nil (T : Tbl) (k : Int) (n : Nat) (r : Row) : rowVio T k n r = [] ↔ rowVio T k 0 r = [] := by
  unfold rowVio
  split
  · simp
  · exact cells_nil ..
theorem rows_nil (T : Tbl) (k : Int) : ∀ (rows : List Row) (n : Nat), rowsVio T k rows n = [] ↔ ∀ r ∈ rows, rowVio T k 0 r = []
  | [], _ => by simp [rowsVio]
  | r :: rs, n => by rw [rowsVio, List.append_eq_nil_iff, row_nil, rows_nil T k rs (n + 1)]; simp
def keptT (cols : List Int) (nulls : Bool) (rows : List Row) : List ByteArray := (rows.filter (keepR cols nulls)).map fun r => textL (partM r cols)
theorem key_nil (kind table index : Int) (cols : List Int) (nulls : Bool) : ∀ (rows : List Row) (n : Nat) (es : List (ByteArray × Int)),
    keyGo kind table index cols nulls rows n es = [] ↔ (keptT cols nulls rows).Nodup ∧ ∀ t ∈ keptT cols nulls rows, findS t es = none
  | [], _, _ => by simp [keyGo, keptT]
  | r :: rs, n, es => by
    rw [keyGo]
    by_cases hk : (!nulls && (partM r cols).any isNull) = true
    · have hf : keepR cols nulls r = false := by rw [keepR, hk]; rfl
      rw [if_pos hk, key_nil kind table index cols nulls rs]
      simp only [keptT, List.filter_cons, hf, Bool.false_eq_true, if_false]
    · have hf : keepR cols nulls r = true := by
        rw [keepR]
        cases q : (!nulls && (partM r cols).any isNull)
        · rfl
        · exact absurd q hk
      have hc : keptT cols nulls (r :: rs) = textL (partM r cols) :: keptT cols nulls rs := by simp only [keptT, List.filter_cons, hf, if_true, List.map_cons]
      rw [if_neg hk, hc]
      cases hs : findS (textL (partM r cols)) es with
      | some o =>
        simp only [List.nodup_cons, List.mem_cons, forall_eq_or_imp, hs]
        simp
      | none =>
        simp only
        rw [key_nil kind table index cols nulls rs]
        simp only [List.nodup_cons, List.mem_cons, forall_eq_or_imp, hs, true_and, findS_snoc]
        constructor
        · rintro ⟨h1, h2⟩
          refine ⟨⟨fun hm => ?_, h1⟩, fun t ht => ?_⟩
          · have := h2 _ hm
            rw [hs] at this
            simp at this
          · have := h2 t ht
            cases q : findS t es with
            | none => rfl
            | some o => rw [q] at this; simp at this
        · rintro ⟨⟨h1, h2⟩, h3⟩
          refine ⟨h2, fun t ht => ?_⟩
          rw [h3 t ht]
          simp only
          rw [if_neg]
          intro e
          exact h1 (e ▸ ht)
theorem forGo_nil (table index : Int) (cols : List Int) (ks : List ByteArray) : ∀ (rows : List Row) (n : Nat), forGo table index cols ks rows n = [] ↔ ∀ r ∈ rows, (partM r cols).any isNull = true ∨ textL (partM r cols) ∈ ks
  | [], _ => by simp [forGo]
  | r :: rs, n => by
    rw [forGo]
    by_cases h1 : (partM r cols).any isNull = true
    · rw [if_pos h1, forGo_nil table index cols ks rs]
      exact ⟨fun g q hq => (List.mem_cons.1 hq).elim (fun e => .inl (e ▸ h1)) (g q), fun g q hq => g q (List.mem_cons_of_mem _ hq)⟩
    · by_cases h2 : textL (partM r cols) ∈ ks
      · rw [if_neg h1, if_pos h2, forGo_nil table index cols ks rs]
        exact ⟨fun g q hq => (List.mem_cons.1 hq).elim (fun e => .inr (e ▸ h2)) (g q), fun g q hq => g q (List.mem_cons_of_mem _ hq)⟩
      · rw [if_neg h1, if_neg h2]
        constructor
        · intro h; cases h
        · intro h; exact ((h r List.mem_cons_self).elim h1 h2).elim
end Go.Proofs.YtodoeplhcmecjaaGreatDoor
namespace Go.Proofs.YtodoeplhcmecjaaGreatDoor
open Go.Am
set_option linter.unusedVariables false
set_option maxRecDepth 100000
/-! Plain schemas are valid. -/
def pcs0 (ty : Nat → Int) (nl : Nat → Bool) (m k : Nat) : List Col := ⟨nId, 1, false⟩ :: ((List.range m).map (fun c : Nat => (⟨nameOf nC c, ty c, nl c⟩ : Col)) ++ (List.range k).map fun x : Nat => (⟨nameOf nF x, 1, false⟩ : Col))
def pfs0 (to : Nat → Int) (m k : Nat) : List Fk := (List.range k).map fun x : Nat => (⟨[((m + 1 + x : Nat) : Int)], nameOf nT (to x)⟩ : Fk)
/-- The shape of a plain table. -/
def PShape (i : Nat) (T : Tbl) : Prop :=
  ∃ (m k : Nat) (ty : Nat → Int) (nl : Nat → Bool) (to : Nat → Int), (m = 1 ∨ m = 2) ∧ (k = 0 ∨ k = 1 ∨ k = 2) ∧ (∀ c, 1 ≤ ty c ∧ ty c ≤ 3) ∧ (∀ x, x < k → 0 ≤ to x ∧ to x < i) ∧ T = ⟨nameOf nT i, pcs0 ty nl m k, [0], [], pfs0 to m k, []⟩
def namesOk (l : List ByteArray) : Bool := (List.range l.length).all fun j => nameP (l.getD j default) && (fidx (fun x : ByteArray => x.toList == (l.getD j default).toList) l == (j : Int))
def colNames (m k : Nat) : List ByteArray := nId :: ((List.range m).map (fun c : Nat => nameOf nC c) ++ (List.range k).map fun x : Nat => nameOf nF x)
theorem colNames_ok : ∀ m k : Nat, (m = 1 ∨ m = 2) → (k = 0 ∨ k = 1 ∨ k = 2) → namesOk (colNames m k) = true := by
  rintro m k (rfl | rfl) (rfl | rfl | rfl) <;> kernel_rfl
theorem tabNames_ok : ∀ n : Nat, n ≤ 3 → namesOk ((List.range n).map fun i : Nat => nameOf nT i) = true := by
  intro n hn
  obtain rfl | rfl | rfl | rfl : n = 0 ∨ n = 1 ∨ n = 2 ∨ n = 3 := by omega
  all_goals kernel_rfl
theorem namesOk_at {l : List ByteArray} (h : namesOk l = true) {j : Nat} (hj : j < l.length) : nameP (l.getD j default) = true ∧ fidx (fun x : ByteArray => x.toList == (l.getD j default).toList) l = j := by
  have := all_range.1 h j hj
  simpa using this
theorem byC_names (l : List Col) (n : ByteArray) : byC l n = fidx (fun x : ByteArray => x.toList == n.toList) (l.map (·.name)) := (fidx_map (fun x : ByteArray => x.toList == n.toList) (fun x : Col => x.name) l).symm
theorem byT_names (l : List Tbl) (n : ByteArray) : byT l n = fidx (fun x : ByteArray => x.toList == n.toList) (l.map (·.name)) := (fidx_map (fun x : ByteArray => x.toList == n.toList) (fun x : Tbl => x.name) l).symm
theorem pcs0_names (ty : Nat → Int) (nl : Nat → Bool) (m k : Nat) : (pcs0 ty nl m k).map (·.name) = colNames m k := by simp [pcs0, colNames, Function.comp_def]
theorem pcs0_len (ty : Nat → Int) (nl : Nat → Bool) (m k : Nat) : (pcs0 ty nl m k).length = m + k + 1 := by simp [pcs0]
theorem getD_map' {α β : Type} [Inhabited α] [Inhabited β] (f : α → β) (l : List α) {j : Nat} (h : j < l.length) : (l.map f).getD j default = f (l.getD j default) := by
  simp [List.getD_eq_getElem?_getD, List.getElem?_map, List.getElem?_eq_getElem h]
theorem pcs0_typed {ty : Nat → Int} {nl : Nat → Bool} (m k : Nat) (h : ∀ c, 1 ≤ ty c ∧ ty c ≤ 3) : ∀ c ∈ pcs0 ty nl m k, c.type = 1 ∨ c.type = 2 ∨ c.type = 3 := by
  intro c hc
  simp only [pcs0, List.mem_cons, List.mem_append, List.mem_map] at hc
  rcases hc with rfl | ⟨x, _, rfl⟩ | ⟨x, _, rfl⟩
  · exact .inl rfl
  · have := h x; show ty x = 1 ∨ ty x = 2 ∨ ty x = 3; omega
  · exact .inl rfl
theorem pcs0_for {ty : Nat → Int} {nl : Nat → Bool} {m k x : Nat} (hx : x < k) : (pcs0 ty nl m k).getD (m + 1 + x) default = ⟨nameOf nF x, 1, false⟩ := by
  have : m + 1 + x = (m + x) + 1 := by omega
  simp only [pcs0, List.getD_eq_getElem?_getD]
  rw [this, List.getElem?_cons_succ, List.getElem?_append_right (by simp)]
  simp [hx]
theorem pshape_table {i : Nat} {T : Tbl} (h : PShape i T) : tableM T = 0 := by
  obtain ⟨m, k, ty, nl, to, hm, hk, ht, hto, rfl⟩ := h
  have hC : ferrN (colErr ⟨nameOf nT i, pcs0 ty nl m k, [0], [], pfs0 to m k, []⟩) (pcs0 ty nl m k).length = 0 := by
    refine ferrN_none fun j hj => ?_
    have hn := pcs0_names ty nl m k
    have hj2 : j < (colNames m k).length := by rw [← hn, List.length_map]; exact hj
    obtain ⟨g1, g2⟩ := namesOk_at (colNames_ok m k hm hk) hj2
    have hg : (colNames m k).getD j default = ((pcs0 ty nl m k).getD j default).name := by rw [← hn]; exact getD_map' _ _ hj
    rw [hg] at g1 g2
    rw [← hn, ← byC_names] at g2
    have hty := pcs0_typed (nl := nl) m k ht _ (getD_mem hj)
    unfold colErr
    simp only [g1, g2, Bool.not_true, Bool.false_eq_true, if_false]
    rw [if_neg (by unfold posOf; rw [if_neg (by omega)]; omega), if_neg]
    unfold badType
    rcases hty with e | e | e <;> rw [e] <;> decide
  have hK : keysM ⟨nameOf nT i, pcs0 ty nl m k, [0], [], pfs0 to m k, []⟩ = 0 := by
    rcases hm with rfl | rfl <;> rcases hk with rfl | rfl | rfl <;> rfl
  have hB : bigT ⟨nameOf nT i, pcs0 ty nl m k, [0], [], pfs0 to m k, []⟩ = false := by
    rcases hm with rfl | rfl <;> rcases hk with rfl | rfl | rfl <;> rfl
  rw [pcs0_len] at hC
  unfold tableM
  simp only [hB, hC, hK, pcs0_len, Bool.false_eq_true, if_false]
  rw [if_neg (by omega), if_neg (by simp), if_neg (by simp)]
  rfl
structure Plain9 (s : Sch) : Prop where
  pos : 1 ≤ s.length
  len : s.length ≤ 3
  tab : ∀ i, i < s.length → PShape i (s.getD i default)
theorem Plain9.names {s : Sch} (h : Plain9 s) : s.map (·.name) = (List.range s.length).map fun i : Nat => nameOf nT i := by
  refine List.ext_getElem (by simp) fun i h1 h2 => ?_
  simp only [List.getElem_map, List.getElem_range]
  have hi : i < s.length := by simpa using h1
  obtain ⟨m, k, ty, nl, to, _, _, _, _, e⟩ := h.tab i hi
  rw [List.getD_eq_getElem?_getD, List.getElem?_eq_getElem hi] at e
  simp only [Option.getD_some] at e
  rw [e]
theorem Plain9.byT {s : Sch} (h : Plain9 s) {i : Nat} (hi : i < s.length) : nameP (nameOf nT i) = true ∧ Go.Proofs.YtodoeplhcmecjaaGreatDoor.byT s (nameOf nT i) = i := by
  obtain ⟨g1, g2⟩ := namesOk_at (tabNames_ok s.length h.len) (j := i) (by simpa using hi)
  have hg : ((List.range s.length).map fun i : Nat => nameOf nT i).getD i default = nameOf nT i := by
    simp [List.getD_eq_getElem?_getD, hi]
  rw [hg] at g1 g2
  exact ⟨g1, by rw [byT_names, h.names]; exact g2⟩
/-- A table's shape, with its targets. -/
theorem Plain9.to {s : Sch} (h : Plain9 s) {i : Nat} (hi : i < s.length) : ∃ (m k : Nat) (ty : Nat → Int) (nl : Nat → Bool) (to : Nat → Nat), (m = 1 ∨ m = 2) ∧ (k = 0 ∨ k = 1 ∨ k = 2) ∧ (∀ c, 1 ≤ ty c ∧ ty c ≤ 3) ∧
    (∀ x, x < k → to x < i ∧ Go.Proofs.YtodoeplhcmecjaaGreatDoor.byT s (nameOf nT (to x)) = to x) ∧ s.getD i default = ⟨nameOf nT i, pcs0 ty nl m k, [0], [], pfs0 (fun x => to x) m k, []⟩ := by
  obtain ⟨m, k, ty, nl, to, hm, hk, ht, hto, e⟩ := h.tab i hi
  refine ⟨m, k, ty, nl, fun x => (to x).toNat, hm, hk, ht, fun x hx => ?_, ?_⟩
  · have := hto x hx
    have h2 : (to x).toNat < s.length := by omega
    exact ⟨by show (to x).toNat < i; omega, (h.byT h2).2⟩
  · rw [e]
    congr 1
    unfold pfs0
    refine List.map_congr_left fun x hx => ?_
    have := hto x (List.mem_range.1 hx)
    simp only [Int.toNat_of_nonneg this.1]
theorem Plain9.tabErr {s : Sch} (h : Plain9 s) {i : Nat} (hi : i < s.length) : Go.Proofs.YtodoeplhcmecjaaGreatDoor.tabErr s i = 0 := by
  have hT := pshape_table (h.tab i hi)
  obtain ⟨m, k, ty, nl, to, _, _, _, _, e⟩ := h.tab i hi
  have hn : (s.getD i default).name = nameOf nT i := by rw [e]
  obtain ⟨g1, g2⟩ := h.byT hi
  unfold Go.Proofs.YtodoeplhcmecjaaGreatDoor.tabErr
  rw [hn, g1, g2, hT]
  simp only [Bool.not_true, Bool.false_eq_true, if_false]
  rw [if_neg (by unfold posOf; rw [if_neg (by omega)]; omega)]
theorem Plain9.prim {s : Sch} (h : Plain9 s) {i : Nat} (hi : i < s.length) : (s.getD i default).primary = [0] := by
  obtain ⟨m, k, ty, nl, to, _, _, _, _, e⟩ := h.tab i hi
  rw [e]
theorem Plain9.refErr {s : Sch} (h : Plain9 s) {T : Tbl} (hT : T ∈ s) : Go.Proofs.YtodoeplhcmecjaaGreatDoor.refErr s T = 0 := by
  obtain ⟨i, hi, rfl⟩ := mem_at hT
  obtain ⟨m, k, ty, nl, to, hm, hk, ht, hto, e⟩ := h.to hi
  unfold Go.Proofs.YtodoeplhcmecjaaGreatDoor.refErr
  rw [e]
  refine ferr_none _ _ fun j hj => ?_
  simp only [pfs0, List.length_map, List.length_range] at hj
  have hf : (pfs0 (fun x => (to x : Int)) m k).getD j default = ⟨[((m + 1 + j : Nat) : Int)], nameOf nT (to j)⟩ := by
    simp [pfs0, List.getD_eq_getElem?_getD, hj]
  simp only [hf]
  obtain ⟨h1, h2⟩ := hto j hj
  unfold refM
  simp only [h2]
  rw [if_neg (by omega), if_pos]
  have hts : to j < s.length := by omega
  simp only [Int.toNat_natCast]
  rw [h.prim hts]
  unfold eqKeys
  simp only [List.length_cons, List.length_nil, Nat.zero_add, List.range_succ, List.range_zero, List.nil_append, List.all_cons, List.all_nil, Bool.and_true, BEq.rfl, Bool.true_and, typeAt]
  obtain ⟨m', k', ty', nl', to', _, _, _, _, e'⟩ := h.to hts
  rw [e']
  have := pcs0_for (ty := ty) (nl := nl) (m := m) hj
  simp only [List.getD_cons_zero, Int.toNat_natCast]
  rw [this]
  rfl
theorem Plain9.pick {s : Sch} (h : Plain9 s) {n : Nat} (hn : n < s.length) (ih : Go.Proofs.YtodoeplhcmecjaaGreatDoor.picks s n = (List.range n).map fun i : Nat => (i : Int)) : pickM s (Go.Proofs.YtodoeplhcmecjaaGreatDoor.picks s n) = n := by
  unfold pickM
  refine fidx_at _ _ n (by simpa using hn) (fun i hi => ?_) ?_
  · rw [range_getD (by omega)]
    unfold freeAt
    have : ((List.range n).map fun i : Nat => (i : Int)).contains (i : Int) = true := by
      rw [List.contains_iff_mem]; exact List.mem_map.2 ⟨i, List.mem_range.2 hi, rfl⟩
    rw [ih, this]; rfl
  · rw [range_getD hn]
    unfold freeAt
    have : ((List.range n).map fun i : Nat => (i : Int)).contains (n : Int) = false := by
      rw [← Bool.not_eq_true, List.contains_iff_mem]
      intro hm
      obtain ⟨j, hj, e⟩ := List.mem_map.1 hm
      have := List.mem_range.1 hj
      omega
    rw [ih, this]
    simp only [Bool.not_false, Bool.true_and]
    refine List.all_eq_true.2 fun f hf => ?_
    obtain ⟨m, k, ty, nl, to, _, _, _, hto, e⟩ := h.to hn
    unfold fks at hf
    rw [e] at hf
    obtain ⟨x, hx, rfl⟩ := List.mem_map.1 hf
    obtain ⟨g1, g2⟩ := hto x (List.mem_range.1 hx)
    simp only [g2]
    rw [List.contains_iff_mem]
    exact List.mem_map.2 ⟨to x, List.mem_range.2 g1, rfl⟩
theorem Plain9.picks {s : Sch} (h : Plain9 s) : ∀ n, n ≤ s.length → Go.Proofs.YtodoeplhcmecjaaGreatDoor.picks s n = (List.range n).map fun i : Nat => (i : Int)
  | 0, _ => rfl
  | n + 1, hn => by
    have ih := Plain9.picks h n (by omega)
    have hp : pickM s (Go.Proofs.YtodoeplhcmecjaaGreatDoor.picks s n) = n := h.pick (by omega) ih
    rw [Go.Proofs.YtodoeplhcmecjaaGreatDoor.picks, hp, ih, List.range_succ, List.map_append]
    rfl
theorem Plain9.order {s : Sch} (h : Plain9 s) : orderOk s = true := by
  unfold orderOk
  refine all_range.2 fun n hn => ?_
  rw [h.pick hn (h.picks n (by omega))]
  simp
theorem Plain9.valid {s : Sch} (h : Plain9 s) : validS s = 0 := by
  have hl := h.len
  unfold validS
  rw [if_neg (by omega), if_neg, if_neg]
  · rw [orderE, h.order]; rfl
  · have : ferr (Go.Proofs.YtodoeplhcmecjaaGreatDoor.refErr s) s = 0 := ferr_none _ _ fun i hi => h.refErr (getD_mem hi)
    simp [this]
  · have : ferrN (Go.Proofs.YtodoeplhcmecjaaGreatDoor.tabErr s) s.length = 0 := ferrN_none fun i hi => h.tabErr hi
    simp [this]
end Go.Proofs.YtodoeplhcmecjaaGreatDoor
namespace Go.Proofs.YtodoeplhcmecjaaGreatDoor
open Go.Am
set_option linter.unusedVariables false
set_option maxRecDepth 100000
/-! Instances that are made to be valid. -/
def lenG (s : Sch) (out : Inst) (f : Fk) : Nat := (out.getD (targetN s f) default).length
def cntG (xs : List Int) (most : Int) (s : Sch) (out : Inst) (T : Tbl) (p : Nat) : Nat := if (T.foreigns.any fun f => lenG s out f == 0) = true then 0 else (drawn xs p (most + 1)).toNat
def row0 (xs : List Int) (cols : List Col) (p j : Nat) : List Val := (List.range j).map fun j => smallM xs (cols.getD j default).type (cols.getD j default).nullable (p + j)
def colF (T : Tbl) (f : Nat) : Nat := ((T.foreigns.getD f default).columns.getD 0 default).toNat
def setF (xs : List Int) (s : Sch) (out : Inst) (T : Tbl) (q : Nat) (row : Row) : Nat → Row
  | 0 => row
  | f + 1 => (setF xs s out T q row f).set (colF T f) ⟨1, 1 + drawn xs (q + f) (lenG s out (T.foreigns.getD f default)), ByteArray.empty⟩
def rowG (xs : List Int) (s : Sch) (out : Inst) (T : Tbl) (p k : Nat) : Row := setF xs s out T (p + T.columns.length) ((row0 xs T.columns p T.columns.length).set 0 ⟨1, k + 1, ByteArray.empty⟩) T.foreigns.length
def wG (T : Tbl) : Nat := T.columns.length + T.foreigns.length
def tabG (xs : List Int) (s : Sch) (out : Inst) (T : Tbl) (p n : Nat) : Tab2 := (List.range n).map fun k => rowG xs s out T (p + k * wG T) k
def goodTo (xs : List Int) (most : Int) (s : Sch) (p : Nat) : Nat → Inst × Nat
  | 0 => ([], p)
  | i + 1 => ((goodTo xs most s p i).1 ++ [tabG xs s (goodTo xs most s p i).1 (s.getD i default) ((goodTo xs most s p i).2 + 1) (cntG xs most s (goodTo xs most s p i).1 (s.getD i default) (goodTo xs most s p i).2)],
      (goodTo xs most s p i).2 + 1 + cntG xs most s (goodTo xs most s p i).1 (s.getD i default) (goodTo xs most s p i).2 * wG (s.getD i default))
def goodM (xs : List Int) (most : Int) (s : Sch) (p : Nat) : Inst × Nat := goodTo xs most s p s.length
theorem goodTo_len (xs : List Int) (most : Int) (s : Sch) (p : Nat) : ∀ i, (goodTo xs most s p i).1.length = i
  | 0 => rfl
  | i + 1 => by rw [goodTo, List.length_append, goodTo_len xs most s p i]; rfl
theorem row0_len (xs : List Int) (cols : List Col) (p j : Nat) : (row0 xs cols p j).length = j := by simp [row0]
theorem row0_succ (xs : List Int) (cols : List Col) (p j : Nat) : row0 xs cols p (j + 1) = row0 xs cols p j ++ [smallM xs (cols.getD j default).type (cols.getD j default).nullable (p + j)] := by simp [row0, List.range_succ]
theorem setF_len (xs : List Int) (s : Sch) (out : Inst) (T : Tbl) (q : Nat) (row : Row) : ∀ f, (setF xs s out T q row f).length = row.length
  | 0 => rfl
  | f + 1 => by rw [setF, List.length_set, setF_len xs s out T q row f]
theorem rowG_len (xs : List Int) (s : Sch) (out : Inst) (T : Tbl) (p k : Nat) : (rowG xs s out T p k).length = T.columns.length := by rw [rowG, setF_len, List.length_set, row0_len]
theorem tabG_len (xs : List Int) (s : Sch) (out : Inst) (T : Tbl) (p n : Nat) : (tabG xs s out T p n).length = n := by simp [tabG]
theorem tabG_succ (xs : List Int) (s : Sch) (out : Inst) (T : Tbl) (p n : Nat) : tabG xs s out T p (n + 1) = tabG xs s out T p n ++ [rowG xs s out T (p + n * wG T) n] := by simp [tabG, List.range_succ]
theorem cntG_le (xs : List Int) {most : Int} (hm : 0 ≤ most) (s : Sch) (out : Inst) (T : Tbl) (p : Nat) : (cntG xs most s out T p : Int) ≤ most := by
  have hd := drawn_range xs p (n := most + 1) (by omega)
  unfold cntG
  split <;> omega
/-! A valid instance. -/
/-- A row is as its table wants it. -/
structure RowOk (T : Tbl) (r : Row) : Prop where
  len : r.length = T.columns.length
  cell : ∀ c, c < T.columns.length → badV (T.columns.getD c default) (r.getD c default) = false ∧ ((r.getD c default).kind = 0 → (T.columns.getD c default).nullable = true ∧ c ≠ 0)
/-- The key of a row that is the n-th one of its table. -/
def kV (n : Int) : Val := ⟨1, n, ByteArray.empty⟩
/-- A good table: its rows are numbered, and refer to rows that are there. -/
structure TabOk (s : Sch) (out : Inst) (T : Tbl) (t : Tab2) : Prop where
  few : t.length ≤ 100
  rows : ∀ r ∈ t, RowOk T r
  key : ∀ n, n < t.length → (t.getD n default).getD 0 default = kV (n + 1)
  ref : ∀ r ∈ t, ∀ f, f < T.foreigns.length → ∃ y : Nat, 1 ≤ y ∧ y ≤ lenG s out (T.foreigns.getD f default) ∧ r.getD (colF T f) default = kV y
structure GoodI (s : Sch) (out : Inst) : Prop where
  len : out.length = s.length
  tab : ∀ i, i < s.length → TabOk s out (s.getD i default) (out.getD i default)
theorem RowOk.rowVio {T : Tbl} (hp : T.primary = [0]) {r : Row} (h : RowOk T r) (k : Int) : Go.Proofs.YtodoeplhcmecjaaGreatDoor.rowVio T k 0 r = [] := by
  have key : ∀ (l : List Val) (c : Nat), (∀ j, j < l.length → badV (T.columns.getD (c + j) default) (l.getD j default) = false ∧ ((l.getD j default).kind = 0 → (T.columns.getD (c + j) default).nullable = true ∧ c + j ≠ 0)) → cellsVio T k 0 l c = [] := by
    intro l
    induction l with
    | nil => intro c _; rfl
    | cons v l ih =>
      intro c hc
      rw [cellsVio, ih (c + 1) (fun j hj => by have := hc (j + 1) (by simpa using hj); simpa [show c + (j + 1) = c + 1 + j by omega] using this), List.append_nil]
      obtain ⟨h1, h2⟩ := hc 0 (by simp)
      simp only [Nat.add_zero, List.getD_cons_zero] at h1 h2
      unfold cellVio
      rw [if_neg (by rw [h1]; decide), if_neg]
      intro hh
      simp only [Bool.and_eq_true, beq_iff_eq, Bool.or_eq_true, Bool.not_eq_true'] at hh
      obtain ⟨g1, g2⟩ := h2 hh.1
      rcases hh.2 with q | q
      · rw [g1] at q; cases q
      · rw [hp, List.contains_iff_mem] at q
        have : (c : Int) = 0 := by simpa using q
        omega
  unfold Go.Proofs.YtodoeplhcmecjaaGreatDoor.rowVio
  rw [if_neg (by rw [h.len]; simp)]
  exact key r 0 fun j hj => by simpa using h.cell j (by rw [← h.len]; exact hj)
theorem RowOk.mis {T : Tbl} {r : Row} (h : RowOk T r) : misM T r = false := by
  rw [rowErr_all (by rw [h.len]; simp)]
  rw [Bool.not_eq_false', List.all_eq_true]
  intro j hj
  have := (h.cell j (by rw [← h.len]; exact List.mem_range.1 hj)).1
  rw [this]; rfl
theorem bad1_false {s : Sch} {i : Inst} {k : Nat} (h : ∀ r ∈ i.getD k default, RowOk (s.getD k default) r) : bad1 s i k = false := by
  rw [bad1, List.any_eq_false]
  intro r hr
  rw [(h r hr).mis]; decide
theorem kV_type (n : Int) (h : 0 ≤ n) (h2 : n ≤ 1000) : OfType (kV n) 1 := by
  refine ⟨?_, .inr rfl⟩
  unfold validM kV
  rw [if_neg (by simp), if_pos rfl]
  simp only [Bool.and_eq_true, decide_eq_true_eq, beq_iff_eq]
  refine ⟨⟨by omega, by omega⟩, ?_⟩
  decide +kernel
theorem kV_badV (c : Col) (hc : c.type = 1) {y : Int} (h1 : 0 ≤ y) (h2 : y ≤ 1000) : badV c (kV y) = false := by
  have := (kV_type y h1 h2).ok
  unfold badV
  rw [this, hc]
  rfl
theorem kV_inj {a b : Int} (ha : 0 ≤ a) (ha2 : a ≤ 1000) (hb : 0 ≤ b) (hb2 : b ≤ 1000) (h : textL [kV a] = textL [kV b]) : a = b := by
  have := textL_inj [kV a] [kV b] [1] rfl rfl (fun i hi => by
    obtain rfl : i = 0 := by simpa using hi
    exact kV_type a ha ha2) (fun i hi => by
    obtain rfl : i = 0 := by simpa using hi
    exact kV_type b hb hb2) h
  injection this with h1 _
  injection h1
theorem keepR_true (cols : List Int) (r : Row) : keepR cols true r = true := rfl
theorem keptT_true (cols : List Int) (t : Tab2) : keptT cols true t = t.map fun r => textL (partM r cols) := by
  unfold keptT
  rw [List.filter_eq_self.2 fun r _ => keepR_true cols r]
theorem partM_one (r : Row) (c : Int) : partM r [c] = [r.getD c.toNat default] := rfl
/-- The keys' texts of a good table. -/
theorem TabOk.keys {s : Sch} {out : Inst} {T : Tbl} {t : Tab2} (h : TabOk s out T t) : (t.map fun r => textL (partM r [0])) = (List.range t.length).map fun n : Nat => textL [kV (n + 1)] := by
  refine List.ext_getElem (by simp) fun n h1 h2 => ?_
  have hn : n < t.length := by simpa using h1
  have := h.key n hn
  have e : t.getD n default = t[n] := by simp [List.getD_eq_getElem?_getD, hn]
  rw [e] at this
  simp only [List.getElem_map, List.getElem_range, partM_one, Int.toNat_zero]
  rw [this]
theorem TabOk.nodup {s : Sch} {out : Inst} {T : Tbl} {t : Tab2} (h : TabOk s out T t) : (keptT [0] true t).Nodup := by
  rw [keptT_true, h.keys]
  have hf := h.few
  have : ∀ m, m ≤ 100 → ((List.range m).map fun n : Nat => textL [kV (n + 1)]).Nodup := by
    intro m
    induction m with
    | zero => intro _; exact List.Pairwise.nil
    | succ m ih =>
      intro hm
      rw [List.range_succ, List.map_append, List.nodup_append]
      refine ⟨ih (by omega), List.nodup_cons.2 ⟨by simp, List.Pairwise.nil⟩, ?_⟩
      intro a ha b hb e
      obtain ⟨x, hx, rfl⟩ := List.mem_map.1 ha
      have hx := List.mem_range.1 hx
      simp only [List.map_cons, List.map_nil, List.mem_singleton] at hb
      rw [hb] at e
      have := kV_inj (by omega) (by omega) (by omega) (by omega) e
      omega
  exact this _ hf
theorem Plain9.target {s : Sch} (h : Plain9 s) {i f : Nat} (hi : i < s.length) (hf : f < (s.getD i default).foreigns.length) :
    targetN s ((s.getD i default).foreigns.getD f default) < i ∧ ((s.getD i default).foreigns.getD f default).columns = [(colF (s.getD i default) f : Int)] ∧ 1 ≤ colF (s.getD i default) f ∧ colF (s.getD i default) f < (s.getD i default).columns.length
      ∧ (s.getD i default).columns.getD (colF (s.getD i default) f) default = ⟨nameOf nF f, 1, false⟩ := by
  obtain ⟨m, k, ty, nl, to, hm, hk, ht, hto, e⟩ := h.to hi
  rw [e] at hf ⊢
  simp only [pfs0, List.length_map, List.length_range] at hf
  have hg : (pfs0 (fun x => (to x : Int)) m k).getD f default = ⟨[((m + 1 + f : Nat) : Int)], nameOf nT (to f)⟩ := by
    simp [pfs0, List.getD_eq_getElem?_getD, hf]
  have hc : colF ⟨nameOf nT i, pcs0 ty nl m k, [0], [], pfs0 (fun x => (to x : Int)) m k, []⟩ f = m + 1 + f := by
    unfold colF
    simp only [hg, List.getD_cons_zero, Int.toNat_natCast]
  obtain ⟨h1, h2⟩ := hto f hf
  rw [hc]
  refine ⟨?_, by simp only [hg], by omega, by simp only [pcs0_len]; omega, pcs0_for hf⟩
  simp only [hg]
  unfold targetN
  rw [h2]
  simpa using h1
theorem Plain9.more {s : Sch} (h : Plain9 s) {i : Nat} (hi : i < s.length) : (s.getD i default).uniques = [] ∧ (s.getD i default).checks = [] ∧ 1 ≤ (s.getD i default).columns.length ∧ (s.getD i default).columns.length ≤ 5 ∧ (s.getD i default).foreigns.length ≤ 2
    ∧ (s.getD i default).columns.getD 0 default = ⟨nId, 1, false⟩ ∧ ∀ c ∈ (s.getD i default).columns, c.type = 1 ∨ c.type = 2 ∨ c.type = 3 := by
  obtain ⟨m, k, ty, nl, to, hm, hk, ht, hto, e⟩ := h.to hi
  rw [e]
  refine ⟨rfl, rfl, by simp only [pcs0_len]; omega, by simp only [pcs0_len]; omega, by simp only [pfs0, List.length_map, List.length_range]; omega, rfl, pcs0_typed m k ht⟩
theorem forsM_nil {s : Sch} {i : Inst} {b : List Bool} {k : Nat} : ∀ (fs : List Fk) (n : Nat), forsM s i b k fs n = [] ↔ ∀ j, j < fs.length → forM1 s i b k (fs.getD j default) (n + j) = []
  | [], n => by simp [forsM]
  | f :: fs, n => by
    rw [forsM, List.append_eq_nil_iff, forsM_nil fs (n + 1)]
    constructor
    · rintro ⟨h1, h2⟩ j hj
      cases j with
      | zero => exact h1
      | succ j => have := h2 j (by simpa using hj); simpa [show n + (j + 1) = n + 1 + j by omega] using this
    · intro h
      exact ⟨h 0 (by simp), fun j hj => by have := h (j + 1) (by simpa using hj); simpa [show n + (j + 1) = n + 1 + j by omega] using this⟩
theorem valid_iff {s : Sch} (hv : validS s = 0) {i : Inst} (hl : i.length = s.length) : validI s i = true ↔ ∀ k, k < s.length → tabM s i (badsM s i) k = [] := by
  unfold validI vioM
  rw [if_neg (by rw [hv]; decide), if_neg (by rw [hl]; simp)]
  simp only [BEq.rfl, Bool.true_and, beq_iff_eq, List.length_eq_zero_iff]
  unfold allM
  rw [List.flatMap_eq_nil_iff]
  exact ⟨fun h k hk => h k (List.mem_range.2 hk), fun h k hk => h k (List.mem_range.1 hk)⟩
theorem GoodI.bad {s : Sch} {out : Inst} (h : GoodI s out) {k : Nat} (hk : k < s.length) : (badsM s out).getD k default = false := by
  rw [badsM_at s out hk]
  exact bad1_false (h.tab k hk).rows
/-- Good instances are valid. -/
theorem GoodI.valid {s : Sch} (hs : Plain9 s) {out : Inst} (h : GoodI s out) : validI s out = true := by
  rw [valid_iff hs.valid h.len]
  intro k hk
  have hT := h.tab k hk
  obtain ⟨m1, m2, _⟩ := hs.more hk
  have hp := hs.prim hk
  unfold tabM
  rw [h.bad hk, List.append_eq_nil_iff, rows_nil]
  refine ⟨fun r hr => (hT.rows r hr).rowVio hp _, ?_⟩
  rw [if_neg (by decide), consM, m1, m2, hp]
  simp only [uniqsM, chksM, List.nil_append, List.append_nil, List.append_eq_nil_iff]
  refine ⟨?_, ?_⟩
  · rw [keyM, key_nil]
    exact ⟨hT.nodup, fun t _ => rfl⟩
  · rw [forsM_nil]
    intro f hf
    obtain ⟨t1, t2, t3, t4, t5⟩ := hs.target hk hf
    have htl : targetN s ((s.getD k default).foreigns.getD f default) < s.length := by omega
    unfold forM1 foreignM
    rw [h.bad htl, if_neg (by decide), forGo_nil]
    intro r hr
    right
    obtain ⟨y, y1, y2, y3⟩ := hT.ref r hr f hf
    have hk2 := (h.tab _ htl).keys
    rw [hs.prim htl, hk2, t2, partM_one, Int.toNat_natCast, y3]
    have hy : y - 1 < (out.getD (targetN s ((s.getD k default).foreigns.getD f default)) default).length := by have : lenG s out ((s.getD k default).foreigns.getD f default) = (out.getD (targetN s ((s.getD k default).foreigns.getD f default)) default).length := rfl; omega
    refine List.mem_map.2 ⟨y - 1, List.mem_range.2 hy, ?_⟩
    rw [show ((y - 1 : Nat) : Int) + 1 = y by omega]
theorem getD_set_ne {α : Type} [Inhabited α] (l : List α) {a b : Nat} (x : α) (h : a ≠ b) : (l.set a x).getD b default = l.getD b default := by
  simp [List.getD_eq_getElem?_getD, List.getElem?_set_ne h]
theorem getD_set_self {α : Type} [Inhabited α] (l : List α) {a : Nat} (x : α) (h : a < l.length) : (l.set a x).getD a default = x := by
  simp [List.getD_eq_getElem?_getD, h]
/-- A row twice: the key is not one any more. -/
theorem GoodI.twice {s : Sch} (hs : Plain9 s) {out : Inst} (h : GoodI s out) {k : Nat} (hk : k < s.length) {row : Row} (hr : row ∈ out.getD k default) : validI s (out.set k (out.getD k default ++ [row])) = false := by
  have hko : k < out.length := by rw [h.len]; exact hk
  have hT := h.tab k hk
  rw [← Bool.not_eq_true, valid_iff hs.valid (by rw [List.length_set]; exact h.len)]
  intro hall
  have := hall k hk
  unfold tabM at this
  rw [badsM_at s _ hk, bad1_false (k := k) (by rw [getD_set_self _ _ hko]; intro r hm; exact (List.mem_append.1 hm).elim (hT.rows r) fun e => by rw [List.mem_singleton.1 e]; exact hT.rows row hr)] at this
  rw [List.append_eq_nil_iff, if_neg (by decide), consM, List.append_eq_nil_iff, keyM, key_nil, getD_set_self _ _ hko, hs.prim hk] at this
  have hn := this.2.1.1
  rw [keptT_true, List.map_append, List.nodup_append] at hn
  exact hn.2.2 _ (List.mem_map.2 ⟨row, hr, rfl⟩) _ (by simp) rfl
/-- A reference to no row. -/
theorem GoodI.lost {s : Sch} (hs : Plain9 s) {out : Inst} (h : GoodI s out) {k f : Nat} (hk : k < s.length) (hf : f < (s.getD k default).foreigns.length) (h0 : 0 < (out.getD k default).length) :
    validI s (out.set k ((out.getD k default).set 0 (((out.getD k default).getD 0 default).set (colF (s.getD k default) f) (kV 999)))) = false := by
  have hko : k < out.length := by rw [h.len]; exact hk
  have hT := h.tab k hk
  obtain ⟨t1, t2, t3, t4, t5⟩ := hs.target hk hf
  have htl : targetN s ((s.getD k default).foreigns.getD f default) < s.length := by omega
  have hrow := hT.rows _ (getD_mem h0)
  have hcl : colF (s.getD k default) f < ((out.getD k default).getD 0 default).length := by rw [hrow.len]; exact t4
  have hOk : RowOk (s.getD k default) (((out.getD k default).getD 0 default).set (colF (s.getD k default) f) (kV 999)) := by
    refine ⟨by rw [List.length_set]; exact hrow.len, fun c hc => ?_⟩
    by_cases e : colF (s.getD k default) f = c
    · subst e
      rw [getD_set_self _ _ hcl, t5]
      exact ⟨kV_badV _ rfl (by omega) (by omega), fun q => by cases q⟩
    · rw [getD_set_ne _ _ e]
      exact hrow.cell c hc
  generalize hx : ((out.getD k default).getD 0 default).set (colF (s.getD k default) f) (kV 999) = x at hOk
  have hxc : x.getD (colF (s.getD k default) f) default = kV 999 := by rw [← hx]; exact getD_set_self _ _ hcl
  rw [← Bool.not_eq_true, valid_iff hs.valid (by rw [List.length_set]; exact h.len)]
  intro hall
  have := hall k hk
  unfold tabM at this
  rw [badsM_at s _ hk, bad1_false (k := k) (by rw [getD_set_self _ _ hko]; intro r hm; exact (List.mem_or_eq_of_mem_set hm).elim (hT.rows r) fun e => e ▸ hOk)] at this
  rw [List.append_eq_nil_iff, if_neg (by decide), consM] at this
  have h3 := (List.append_eq_nil_iff.1 (List.append_eq_nil_iff.1 (List.append_eq_nil_iff.1 this.2).2).2).1
  rw [forsM_nil] at h3
  have h4 := h3 f hf
  have hne : k ≠ targetN s ((s.getD k default).foreigns.getD f default) := by omega
  unfold forM1 foreignM at h4
  rw [badsM_at s _ htl, bad1_false (k := targetN s ((s.getD k default).foreigns.getD f default)) (by rw [getD_set_ne _ _ hne]; exact (h.tab _ htl).rows), if_neg (by decide), forGo_nil] at h4
  rw [getD_set_self _ _ hko, getD_set_ne _ _ hne] at h4
  have h5 := h4 x (List.mem_set (by simpa using h0) x)
  rw [t2, partM_one, Int.toNat_natCast, hxc] at h5
  rcases h5 with q | q
  · have : ([kV 999] : List Val).any isNull = false := by decide
    rw [this] at q; cases q
  · rw [hs.prim htl, (h.tab _ htl).keys] at q
    obtain ⟨n, hn, e⟩ := List.mem_map.1 q
    have hn := List.mem_range.1 hn
    have hfew := (h.tab _ htl).few
    have := kV_inj (by omega) (by omega) (by omega) (by omega) e
    omega
end Go.Proofs.YtodoeplhcmecjaaGreatDoor
namespace Go.Proofs.YtodoeplhcmecjaaGreatDoor
open Go.Am
set_option linter.unusedVariables false
set_option maxRecDepth 100000
/-! What made.Good makes is good. -/
def valsOk (k : Int) : Bool := (List.range (valsM k).length).all fun j => (validM ((valsM k).getD j default) && (((valsM k).getD j default).kind == 0 || ((valsM k).getD j default).kind == k)) && (j == 0 || !(((valsM k).getD j default).kind == 0))
theorem vals_ok {k : Int} (hk : k = 1 ∨ k = 2 ∨ k = 3) : valsOk k = true := by
  rcases hk with rfl | rfl | rfl <;> kernel_rfl
theorem vals_at {k : Int} (hk : k = 1 ∨ k = 2 ∨ k = 3) {j : Nat} (hj : j < (valsM k).length) :
    validM ((valsM k).getD j default) = true ∧ (((valsM k).getD j default).kind = 0 ∨ ((valsM k).getD j default).kind = k) ∧ (j = 0 ∨ ((valsM k).getD j default).kind ≠ 0) := by
  have := all_range.1 (vals_ok hk) j hj
  simp only [Bool.and_eq_true, Bool.or_eq_true, beq_iff_eq, Bool.not_eq_true', beq_eq_false_iff_ne] at this
  exact ⟨this.1.1, this.1.2, this.2⟩
theorem small_ok (xs : List Int) {c : Col} (hc : c.type = 1 ∨ c.type = 2 ∨ c.type = 3) (p : Nat) : badV c (smallM xs c.type c.nullable p) = false ∧ ((smallM xs c.type c.nullable p).kind = 0 → c.nullable = true) := by
  obtain ⟨n1, n2, n3⟩ := nSmall_le hc
  have key : ∀ j, j < (valsM c.type).length → badV c ((valsM c.type).getD j default) = false := by
    intro j hj
    obtain ⟨g1, g2, _⟩ := vals_at hc hj
    unfold badV
    rw [g1]
    rcases g2 with g | g <;> rw [g] <;> simp
  unfold smallM
  by_cases h : c.nullable = true
  · rw [if_pos h]
    have hd := drawn_range xs p (n := nSmall c.type) (by omega)
    exact ⟨key _ (by omega), fun _ => h⟩
  · rw [if_neg h]
    have hd := drawn_range xs p (n := nSmall c.type - 1) (by omega)
    refine ⟨key _ (by omega), fun q => ?_⟩
    obtain ⟨_, _, g3⟩ := vals_at hc (j := (1 + drawn xs p (nSmall c.type - 1)).toNat) (by omega)
    rcases g3 with g | g
    · omega
    · exact absurd q g
theorem row0_at (xs : List Int) (cols : List Col) (p : Nat) {j c : Nat} (h : c < j) : (row0 xs cols p j).getD c default = smallM xs (cols.getD c default).type (cols.getD c default).nullable (p + c) := by
  simp [row0, List.getD_eq_getElem?_getD, h]
theorem setF_at (xs : List Int) (s : Sch) (out : Inst) (T : Tbl) (q : Nat) (row : Row) (hlt : ∀ f, f < T.foreigns.length → colF T f < row.length) : ∀ F, F ≤ T.foreigns.length → ∀ c,
    (∃ f, f < F ∧ colF T f = c ∧ (setF xs s out T q row F).getD c default = kV (1 + drawn xs (q + f) (lenG s out (T.foreigns.getD f default)))) ∨
    ((∀ f, f < F → colF T f ≠ c) ∧ (setF xs s out T q row F).getD c default = row.getD c default)
  | 0, _, c => .inr ⟨fun f h => absurd h (Nat.not_lt_zero _), rfl⟩
  | F + 1, hF, c => by
    rw [setF]
    by_cases e : colF T F = c
    · subst e
      exact .inl ⟨F, by omega, rfl, getD_set_self _ _ (by rw [setF_len]; exact hlt F (by omega))⟩
    · rw [getD_set_ne _ _ e]
      rcases setF_at xs s out T q row hlt F (by omega) c with ⟨f, h1, h2, h3⟩ | ⟨h1, h2⟩
      · exact .inl ⟨f, by omega, h2, h3⟩
      · exact .inr ⟨fun f hf => by
          rcases Nat.lt_succ_iff_lt_or_eq.1 hf with g | rfl
          · exact h1 f g
          · exact e, h2⟩
theorem Plain9.colF {s : Sch} (h : Plain9 s) {i : Nat} (hi : i < s.length) : ∃ m, ∀ f, f < (s.getD i default).foreigns.length → Go.Proofs.YtodoeplhcmecjaaGreatDoor.colF (s.getD i default) f = m + 1 + f := by
  obtain ⟨m, k, ty, nl, to, hm, hk, ht, hto, e⟩ := h.to hi
  refine ⟨m, fun f hf => ?_⟩
  rw [e] at hf ⊢
  simp only [pfs0, List.length_map, List.length_range] at hf
  have hg : (pfs0 (fun x => (to x : Int)) m k).getD f default = ⟨[((m + 1 + f : Nat) : Int)], nameOf nT (to f)⟩ := by
    simp [pfs0, List.getD_eq_getElem?_getD, hf]
  unfold Go.Proofs.YtodoeplhcmecjaaGreatDoor.colF
  simp only [hg, List.getD_cons_zero, Int.toNat_natCast]
/-- A made table. -/
theorem tabG_ok {s : Sch} (hs : Plain9 s) (xs : List Int) (out : Inst) {i : Nat} (hi : i < s.length) (p n : Nat) (hn : n ≤ 100) (hlen : ∀ f, lenG s out f ≤ 100) (hpos : n = 0 ∨ ∀ f, f < (s.getD i default).foreigns.length → 1 ≤ lenG s out ((s.getD i default).foreigns.getD f default)) :
    TabOk s out (s.getD i default) (tabG xs s out (s.getD i default) p n) := by
  rcases Nat.eq_zero_or_pos n with rfl | hn0
  · exact ⟨by simp [tabG], fun r hr => by simp [tabG] at hr, fun k hk => by simp [tabG] at hk, fun r hr => by simp [tabG] at hr⟩
  have hpos := hpos.resolve_left (by omega)
  obtain ⟨m1, m2, m3, m4, m5, m6, m7⟩ := hs.more hi
  obtain ⟨m, hcol⟩ := hs.colF hi
  have htg := fun f hf => hs.target hi (f := f) hf
  generalize s.getD i default = T at m1 m2 m3 m4 m5 m6 m7 hcol htg hpos ⊢
  have hd := fun (q f : Nat) (hf : f < T.foreigns.length) => drawn_range xs q (n := (lenG s out (T.foreigns.getD f default) : Int)) (by have := hpos f hf; omega)
  have hrow : ∀ q k : Nat, k ≤ 100 → RowOk T (rowG xs s out T q k) ∧ (rowG xs s out T q k).getD 0 default = kV (k + 1) ∧
      ∀ f, f < T.foreigns.length → (rowG xs s out T q k).getD (Go.Proofs.YtodoeplhcmecjaaGreatDoor.colF T f) default = kV (1 + drawn xs (q + T.columns.length + f) (lenG s out (T.foreigns.getD f default))) := by
    intro q k hk
    have hl0 : ((row0 xs T.columns q T.columns.length).set 0 ⟨1, (k : Int) + 1, ByteArray.empty⟩).length = T.columns.length := by rw [List.length_set, row0_len]
    have hA := setF_at xs s out T (q + T.columns.length) ((row0 xs T.columns q T.columns.length).set 0 ⟨1, (k : Int) + 1, ByteArray.empty⟩) (fun f hf => by rw [hl0]; exact (htg f hf).2.2.2.1) T.foreigns.length (Nat.le_refl _)
    refine ⟨⟨rowG_len .., fun c hc => ?_⟩, ?_, fun f hf => ?_⟩
    · unfold rowG
      rcases hA c with ⟨f, f1, f2, f3⟩ | ⟨f1, f2⟩
      · have g := hd (q + T.columns.length + f) f f1
        have gl := hlen (T.foreigns.getD f default)
        rw [f3, ← f2, (htg f f1).2.2.2.2]
        exact ⟨kV_badV _ rfl (by omega) (by omega), fun e => by cases e⟩
      · rw [f2]
        by_cases e : c = 0
        · subst e
          rw [getD_set_self _ _ (by rw [row0_len]; omega), m6]
          exact ⟨kV_badV _ rfl (by omega) (by omega), fun e => by cases e⟩
        · rw [getD_set_ne _ _ (fun q => e q.symm), row0_at xs T.columns q hc]
          have := small_ok xs (m7 _ (getD_mem hc)) (q + c)
          exact ⟨this.1, fun q => ⟨this.2 q, e⟩⟩
    · unfold rowG
      rcases hA 0 with ⟨f, f1, f2, f3⟩ | ⟨f1, f2⟩
      · have := (htg f f1).2.2.1; omega
      · rw [f2, getD_set_self _ _ (by rw [row0_len]; omega)]; rfl
    · unfold rowG
      rcases hA (Go.Proofs.YtodoeplhcmecjaaGreatDoor.colF T f) with ⟨g, g1, g2, g3⟩ | ⟨g1, g2⟩
      · rw [hcol g g1, hcol f hf] at g2
        obtain rfl : g = f := by omega
        exact g3
      · exact absurd rfl (g1 f hf)
  have hmem : ∀ r ∈ tabG xs s out T p n, ∃ q k : Nat, k ≤ 100 ∧ r = rowG xs s out T q k := fun r hr => by
    obtain ⟨k, hk, rfl⟩ := List.mem_map.1 hr
    have := List.mem_range.1 hk
    exact ⟨_, k, by omega, rfl⟩
  refine ⟨by rw [tabG_len]; exact hn, fun r hr => ?_, fun k hk => ?_, fun r hr f hf => ?_⟩
  · obtain ⟨q, k, hk, rfl⟩ := hmem r hr
    exact (hrow q k hk).1
  · rw [tabG_len] at hk
    have : (tabG xs s out T p n).getD k default = rowG xs s out T (p + k * wG T) k := by simp [tabG, List.getD_eq_getElem?_getD, hk]
    rw [this]
    exact (hrow _ k (by omega)).2.1
  · obtain ⟨q, k, hk, rfl⟩ := hmem r hr
    have g := hd (q + T.columns.length + f) f hf
    refine ⟨(1 + drawn xs (q + T.columns.length + f) (lenG s out (T.foreigns.getD f default))).toNat, by omega, by omega, ?_⟩
    rw [(hrow q k hk).2.2 f hf, Int.toNat_of_nonneg (by omega)]
theorem lenG_app {s : Sch} {out l : Inst} {f : Fk} (h : targetN s f < out.length) : lenG s (out ++ l) f = lenG s out f := by
  unfold lenG
  simp only [List.getD_eq_getElem?_getD]
  rw [List.getElem?_append_left h]
theorem good_good {s : Sch} (hs : Plain9 s) (xs : List Int) {most : Int} (hm : 0 ≤ most) (hm2 : most ≤ 100) (p : Nat) : GoodI s (goodM xs most s p).1 := by
  have key : ∀ i, i ≤ s.length → ∀ k, k < i → TabOk s (goodTo xs most s p i).1 (s.getD k default) ((goodTo xs most s p i).1.getD k default) := by
    intro i
    induction i with
    | zero => intro _ k hk; omega
    | succ i ih =>
      intro hi k hk
      have ih := ih (by omega)
      have hl := goodTo_len xs most s p i
      rw [goodTo]
      generalize (goodTo xs most s p i).2 = q
      generalize (goodTo xs most s p i).1 = out at ih hl
      simp only
      have hlen : ∀ f, lenG s out f ≤ 100 := fun f => by
        by_cases h : targetN s f < i
        · exact (ih _ h).few
        · have : out.getD (targetN s f) default = [] := by rw [List.getD_eq_getElem?_getD, List.getElem?_eq_none (by omega)]; rfl
          unfold lenG
          rw [this]; simp
      have hmono : ∀ {l : Inst} {k : Nat} (hk : k < s.length) {t : Tab2}, k ≤ i → TabOk s out (s.getD k default) t → TabOk s (out ++ l) (s.getD k default) t := fun {l k} hk {t} hki h => by
        refine ⟨h.few, h.rows, h.key, fun r hr f hf => ?_⟩
        obtain ⟨y, y1, y2, y3⟩ := h.ref r hr f hf
        have := (hs.target hk hf).1
        exact ⟨y, y1, by rw [lenG_app (by omega)]; exact y2, y3⟩
      rcases Nat.lt_succ_iff_lt_or_eq.1 hk with g | rfl
      · rw [show ∀ l : Inst, (out ++ l).getD k default = out.getD k default from fun l => by simp only [List.getD_eq_getElem?_getD]; rw [List.getElem?_append_left (by omega)]]
        exact hmono (by omega) (by omega) (ih k g)
      · rw [show ∀ t : Tab2, (out ++ [t]).getD k default = t from fun t => by simp [List.getD_eq_getElem?_getD, ← hl]]
        have hc := cntG_le xs hm s out (s.getD k default) q
        refine hmono (by omega) (Nat.le_refl _) (tabG_ok hs xs out (by omega) _ _ (by omega) hlen ?_)
        unfold cntG
        by_cases h0 : ((s.getD k default).foreigns.any fun f => lenG s out f == 0) = true
        · rw [if_pos h0]; exact .inl rfl
        · right
          intro f hf
          rw [Bool.not_eq_true, List.any_eq_false] at h0
          have := h0 _ (getD_mem hf)
          simp only [beq_iff_eq] at this
          omega
  exact ⟨goodTo_len .., fun i hi => key _ (Nat.le_refl _) i hi⟩
theorem good_small {s : Sch} (hs : Plain9 s) {out : Inst} (h : GoodI s out) : SmallI out := by
  have hl := hs.len
  refine ⟨by rw [h.len]; omega, fun t ht => ?_, fun t ht r hr => ?_⟩
  · obtain ⟨i, hi, rfl⟩ := mem_at ht
    have := (h.tab i (by rw [← h.len]; exact hi)).few
    omega
  · obtain ⟨i, hi, rfl⟩ := mem_at ht
    have hi' : i < s.length := by rw [← h.len]; exact hi
    have := ((h.tab i hi').rows r hr).len
    have := (hs.more hi').2.2.2.1
    omega
end Go.Proofs.YtodoeplhcmecjaaGreatDoor
namespace Go.Proofs.YtodoeplhcmecjaaGreatDoor
open Go.Am
set_option linter.unusedVariables false
set_option maxRecDepth 100000
/-! The schema of made.Plain, without its checks, is plain. -/
def pty (xs : List Int) (p c : Nat) : Int := 1 + drawn xs (p + 2 * c) 3
def pnl (xs : List Int) (p c : Nat) : Bool := drawn xs (p + 2 * c + 1) 3 == 0
def nfor (xs : List Int) (i q : Nat) : Nat := if i = 0 then 0 else if drawn xs q 3 > 0 then (if drawn xs (q + 2) 2 > 0 then 2 else 1) else 0
def efor (xs : List Int) (i q : Nat) : Nat := if i = 0 then q else if drawn xs q 3 > 0 then (if drawn xs (q + 2) 2 > 0 then q + 4 else q + 3) else q + 1
def pto (xs : List Int) (i q x : Nat) : Int := drawn xs (q + 2 * x + 1) i
/-- A table but for its checks. -/
def ptab0 (xs : List Int) (i p : Nat) : Tbl :=
  let m := (1 + drawn xs p 2).toNat
  let k := nfor xs i (p + 1 + 2 * m)
  ⟨nameOf nT i, pcs0 (pty xs (p + 1)) (pnl xs (p + 1)) m k, [0], [], pfs0 (pto xs i (p + 1 + 2 * m)) m k, []⟩
def pend0 (xs : List Int) (i p : Nat) : Nat := efor xs i (p + 1 + 2 * (1 + drawn xs p 2).toNat)
theorem ptab0_shape (xs : List Int) (i p : Nat) : PShape i (ptab0 xs i p) := by
  have h2 := drawn_range xs p (n := 2) (by omega)
  refine ⟨(1 + drawn xs p 2).toNat, nfor xs i (p + 1 + 2 * (1 + drawn xs p 2).toNat), pty xs (p + 1), pnl xs (p + 1), pto xs i (p + 1 + 2 * (1 + drawn xs p 2).toNat), by omega, ?_, fun c => ?_, fun x hx => ?_, rfl⟩
  · unfold nfor; repeat' split
    all_goals simp
  · have := drawn_range xs (p + 1 + 2 * c) (n := 3) (by omega)
    unfold pty; omega
  · have hi : 0 < i := by
      unfold nfor at hx
      split at hx
      · exact absurd hx (Nat.not_lt_zero _)
      · omega
    have := drawn_range xs (p + 1 + 2 * (1 + drawn xs p 2).toNat + 2 * x + 1) (n := (i : Int)) (by omega)
    unfold pto; omega
theorem pend0_le (xs : List Int) (i p : Nat) : pend0 xs i p ≤ p + 20 := by
  have h2 := drawn_range xs p (n := 2) (by omega)
  unfold pend0 efor
  repeat' split
  all_goals omega
def freeS (s : Sch) : Sch := s.map fun T => { T with checks := [] }
theorem plain_of {s : Sch} (h1 : 1 ≤ s.length) (h3 : s.length ≤ 3) (h : ∀ i, i < s.length → ∃ p l, s.getD i default = { ptab0 l i p with checks := (s.getD i default).checks }) : Plain9 (freeS s) := by
  refine ⟨by simpa [freeS] using h1, by simpa [freeS] using h3, fun i hi => ?_⟩
  have hi' : i < s.length := by simpa [freeS] using hi
  obtain ⟨p, l, e⟩ := h i hi'
  have : (freeS s).getD i default = ptab0 l i p := by
    unfold freeS
    rw [getD_map' _ _ hi', e]
    rfl
  rw [this]
  exact ptab0_shape l i p
theorem pcs0_m (ty : Nat → Int) (nl : Nat → Bool) (m : Nat) : pcs0 ty nl (m + 1) 0 = pcs0 ty nl m 0 ++ [⟨nameOf nC m, ty m, nl m⟩] := by simp [pcs0, List.range_succ]
theorem pcs0_k (ty : Nat → Int) (nl : Nat → Bool) (m k : Nat) : pcs0 ty nl m (k + 1) = pcs0 ty nl m k ++ [⟨nameOf nF k, 1, false⟩] := by simp [pcs0, List.range_succ]
theorem pfs0_k (to : Nat → Int) (m k : Nat) : pfs0 to m (k + 1) = pfs0 to m k ++ [⟨[((m + 1 + k : Nat) : Int)], nameOf nT (to k)⟩] := by simp [pfs0, List.range_succ]
theorem pfs0_len (to : Nat → Int) (m k : Nat) : (pfs0 to m k).length = k := by simp [pfs0]
end Go.Proofs.YtodoeplhcmecjaaGreatDoor
namespace Go.Proofs.YtodoeplhcmecjaaGreatDoor
open Go.Am
attribute [local simp, local push_cast] num boo str ints aV aTab aInst aS aT aC tapeO rE vT
set_option linter.unusedVariables false
set_option maxRecDepth 100000
set_option maxHeartbeats 4000000
/-! Atoms. -/
def keyP (T : Tbl) (c : Int) : Bool := T.primary.contains c || T.foreigns.any fun f => f.columns.contains c
theorem c_key13 (T : Tbl) (c : Int) (hp : T.primary.length ≤ 1000) (hf : T.foreigns.length ≤ 1000) (hfc : ∀ f ∈ T.foreigns, f.columns.length ≤ 1000) :
    ACall Tryz.prog 74 [aT T, num c] [] (boo (keyP T c)) [] := by
  refine enterq mixed ttok Tryz.func74 Tryz.ntmps74 Tryz.results74 ?_
  generalize hr : boo (keyP T c) = R
  simp -implicitDefEqProofs only [argT, ↓steps, push_cast, simprocAttr, tte]
  refine loop_count mixed ttok 5 [1, 2] [2] (by simp only [pickT, ends, push_cast, simprocAttr]; rfl) (by simp only [pickO, consO_some, ends, push_cast, simprocAttr]; rfl) T.primary.length (fun n => ∀ i, i < n → T.primary.getD i default ≠ c) (fun _ => []) (fun _ => []) (fun i h => absurd h (Nat.not_lt_zero _)) ?_ ?_
  · exact Weak.keepL (by simp [cst, ends]) (by simp [cst, ends]) (by simp [cst, ends])
  intro I hI n hn hi
  simp -implicitDefEqProofs only [cst, ↓steps, push_cast, simprocAttr, tte]
  refine bcase_intro (fun h => ?_) fun h => ?_
  · simp only [decide_eq_true_eq] at h
    have h' : n < T.primary.length := by omega
    have hw := wrap_succ h' (by omega)
    refine ⟨(by first | omega | trivial | (refine ⟨?_, ?_⟩ <;> first | omega | trivial | (refine ⟨?_, ?_⟩ <;> first | omega | trivial | (refine ⟨?_, ?_⟩ <;> first | omega | trivial | rfl)))), ?_⟩
    refine bcase_intro (fun g => ?_) fun g => ?_
    · have hc : keyP T c = true := by
        have := getD_mem h'
        rw [beq_iff_eq.1 g] at this
        rw [keyP, List.contains_iff_mem.2 this]; rfl
      exact ret_d trivial (by rw [← hr, hc]; rfl) (by simp [ends])
    · have g' : T.primary.getD n default ≠ c := by simpa using g
      exact cnt_again hI n rfl h' (fun i h2 => if h3 : i = n then by rw [h3]; exact g' else hi i (by omega)) (by simp [hw, ends]) (by simp [hw, ends]) (by simp [hw, ends]) (by simp [hw, ends])
  have hnn : n = T.primary.length := by have := of_decide_eq_false h; omega
  have hp0 : T.primary.contains c = false := by
    cases hq : T.primary.contains c with
    | false => rfl
    | true =>
      obtain ⟨i, hi2, he⟩ := mem_at (List.contains_iff_mem.1 hq)
      exact absurd he (hi i (by omega))
  clear hI I hi hn hnn h
  refine loop_count mixed ttok 6 [1, 2] [2] (by simp only [pickT, ends, push_cast, simprocAttr]; rfl) (by simp only [pickO, consO_some, ends, push_cast, simprocAttr]; rfl) T.foreigns.length (fun n => ∀ i, i < n → (T.foreigns.getD i default).columns.contains c = false) (fun _ => []) (fun _ => []) (fun i h => absurd h (Nat.not_lt_zero _)) ?_ ?_
  · exact Weak.keepL (by simp [cst, ends]) (by simp [cst, ends]) (by simp [cst, ends])
  intro I hI n hn hi
  simp -implicitDefEqProofs only [cst, ↓steps, push_cast, simprocAttr, tte]
  refine bcase_intro (fun h => ?_) fun h => ?_
  · have h' : n < T.foreigns.length := by have := of_decide_eq_true h; omega
    have hw := wrap_succ h' (by omega)
    have hcl := hfc _ (getD_mem h')
    refine loop_count mixed ttok 7 [1, 2, 6] [2] (by simp only [pickT, ends, push_cast, simprocAttr]; rfl) (by simp only [pickO, consO_some, ends, push_cast, simprocAttr]; rfl) (T.foreigns.getD n default).columns.length (fun m => ∀ i, i < m → (T.foreigns.getD n default).columns.getD i default ≠ c) (fun _ => []) (fun _ => []) (fun i h => absurd h (Nat.not_lt_zero _)) ?_ ?_
    · exact Weak.keepL (by simp [cst, ends]) (by simp [cst, ends]) (by simp [cst, ends])
    intro J hJ m hm hj
    simp -implicitDefEqProofs only [cst, ↓steps, push_cast, simprocAttr, tte]
    refine ⟨(by first | omega | trivial | (refine ⟨?_, ?_⟩ <;> first | omega | trivial | (refine ⟨?_, ?_⟩ <;> first | omega | trivial | (refine ⟨?_, ?_⟩ <;> first | omega | trivial | rfl)))), ?_⟩
    refine bcase_intro (fun h2 => ?_) fun h2 => ?_
    · have h2' : m < (T.foreigns.getD n default).columns.length := by have := of_decide_eq_true h2; omega
      have hw2 := wrap_succ h2' (by omega)
      refine ⟨(by first | omega | trivial | (refine ⟨?_, ?_⟩ <;> first | omega | trivial | (refine ⟨?_, ?_⟩ <;> first | omega | trivial | (refine ⟨?_, ?_⟩ <;> first | omega | trivial | rfl)))), (by first | omega | trivial | (refine ⟨?_, ?_⟩ <;> first | omega | trivial | (refine ⟨?_, ?_⟩ <;> first | omega | trivial | (refine ⟨?_, ?_⟩ <;> first | omega | trivial | rfl)))), ?_⟩
      refine bcase_intro (fun g => ?_) fun g => ?_
      · have hc : keyP T c = true := by
          have := getD_mem h2'
          rw [beq_iff_eq.1 g] at this
          rw [keyP, Bool.or_eq_true]
          exact .inr (List.any_eq_true.2 ⟨_, getD_mem h', List.contains_iff_mem.2 this⟩)
        exact ret_d trivial (by rw [← hr, hc]; rfl) (by simp [ends])
      · have g' : (T.foreigns.getD n default).columns.getD m default ≠ c := by simpa using g
        exact cnt_again hJ m rfl h2' (fun i h3 => if h4 : i = m then by rw [h4]; exact g' else hj i (by omega)) (by simp [hw2, ends]) (by simp [hw2, ends]) (by simp [hw2, ends]) (by simp [hw2, ends])
    · have hmm : m = (T.foreigns.getD n default).columns.length := by have := of_decide_eq_false h2; omega
      have hc : (T.foreigns.getD n default).columns.contains c = false := by
        cases hq : (T.foreigns.getD n default).columns.contains c with
        | false => rfl
        | true =>
          obtain ⟨i, hi2, he⟩ := mem_at (List.contains_iff_mem.1 hq)
          exact absurd he (hj i (by omega))
      exact cnt_again hI n rfl h' (fun i h2 => if h3 : i = n then by rw [h3]; exact hc else hi i (by omega)) (by simp [hw, ends]) (by simp [hw, ends]) (by simp [hw, ends]) (by simp [hw, ends])
  · have hnn : n = T.foreigns.length := by have := of_decide_eq_false h; omega
    have hc : keyP T c = false := by
      rw [keyP, hp0, Bool.false_or, List.any_eq_false]
      intro f hfm
      obtain ⟨i, hi2, rfl⟩ := mem_at hfm
      rw [hi i (by omega)]; decide
    exact ret_d trivial (by rw [← hr, hc]; rfl) (by simp [ends])
structure Atm where
  col : Int
  op : Int
  val : Val
abbrev aAt (a : Atm) : A := .agg [num a.col, num a.op, num a.val.kind, num a.val.num, str a.val.text]
def colE (c : Int) : Ex := .mk 5 0 0 ByteArray.empty c []
def ex13 (a : Atm) : Ex := if a.op = 5 then colE a.col else if a.op = 21 then .mk 21 0 0 ByteArray.empty 0 [colE a.col] else .mk a.op 0 0 ByteArray.empty 0 [colE a.col, constM a.val 0]
theorem c_ex13 (a : Atm) : ACall Tryz.prog 40 [aAt a] [] (aE (ex13 a)) [] := by
  refine enterq mixed ttok Tryz.func40 Tryz.ntmps40 Tryz.results40 ?_
  generalize hr : aE (ex13 a) = R
  simp -implicitDefEqProofs only [argT, ↓steps, push_cast, simprocAttr, tte]
  refine bcase_intro (fun h => ?_) fun h => ?_
  · have h' : a.op = 5 := by simpa using h
    refine retx_of [0, 0, 0, 0, 0, 6] rfl (by simp) (by simp [rowsOf_length] <;> omega) ?_ (by first | rfl | simp [ends] | (subst_vars; simp [ends])) (by simp [ends]) (by simp [ends])
    rw [← hr, ex13, if_pos h']; simp [colE, aE_eq, Ex.op, Ex.type, Ex.num, Ex.text, Ex.col, Ex.kids, rowsOf]
  have h' : ¬ a.op = 5 := by simpa using h
  refine bcase_intro (fun h2 => ?_) fun h2 => ?_
  · have h2' : a.op = 21 := by simpa using h2
    refine retx_of [0, 0, 0, 0, 0, 6] rfl (by simp) (by simp [rowsOf_length] <;> omega) ?_ (by first | rfl | simp [ends] | (subst_vars; simp [ends])) (by simp [ends]) (by simp [ends])
    rw [← hr, ex13, if_neg h', if_pos h2']; simp [colE, aE_eq, Ex.op, Ex.type, Ex.num, Ex.text, Ex.col, Ex.kids, rowsOf, rE_eq, rEs]
  have h2' : ¬ a.op = 21 := by simpa using h2
  refine callq [[], []] [] (c_rconst a.val 0) ?_
  simp -implicitDefEqProofs only [↓steps, push_cast, simprocAttr, tte]
  refine ⟨drawx_intro (by kernel_rfl), ?_⟩
  refine retx_of [0, 0, 0, 0, 0, 6] rfl (by simp) (by simp [rowsOf_length] <;> omega) ?_ (by first | rfl | simp [ends] | (subst_vars; simp [ends])) (by simp [ends]) (by simp [ends])
  rw [← hr, ex13, if_neg h', if_neg h2']; simp [colE, aE_eq, Ex.op, Ex.type, Ex.num, Ex.text, Ex.col, Ex.kids, rowsOf, rE_eq, rEs]
/-- The columns that are in no key. -/
def freeC (T : Tbl) (n : Nat) : List Int := ((List.range n).filter fun c : Nat => !keyP T c).map fun (c : Nat) => (c : Int)
theorem freeC_succ (T : Tbl) (n : Nat) : freeC T (n + 1) = if keyP T n = true then freeC T n else freeC T n ++ [(n : Int)] := by
  simp only [freeC, List.range_succ, List.filter_append, List.map_append]
  split <;> rename_i h
  · rw [List.filter_cons_of_neg (by simpa using h)]; simp
  · rw [List.filter_cons_of_pos (by simpa using h)]; simp
theorem freeC_length (T : Tbl) (n : Nat) : (freeC T n).length ≤ n := by
  induction n with
  | zero => simp [freeC]
  | succ n ih => rw [freeC_succ]; split <;> (try simp only [List.length_append, List.length_cons, List.length_nil]) <;> omega
theorem freeC_mem (T : Tbl) (n : Nat) : ∀ c ∈ freeC T n, 0 ≤ c ∧ c < n := by
  intro c hc
  obtain ⟨x, hx, rfl⟩ := List.mem_map.1 hc
  have := List.mem_range.1 (List.mem_filter.1 hx).1
  omega
def atomC (xs : List Int) (T : Tbl) (p : Nat) : Int := (freeC T T.columns.length).getD (drawn xs p (freeC T T.columns.length).length).toNat default
def atomT (xs : List Int) (T : Tbl) (p : Nat) : Int := (T.columns.getD (atomC xs T p).toNat default).type
def v0 : Val := ⟨0, 0, ByteArray.empty⟩
def atomM (xs : List Int) (T : Tbl) (p : Nat) : Atm × Nat :=
  if drawn xs (p + 1) 6 = 0 then (⟨atomC xs T p, 21, v0⟩, p + 2)
  else if atomT xs T p = 1 then (⟨atomC xs T p, 14 + drawn xs (p + 2) 6, smallM xs 1 false (p + 3)⟩, p + 4)
  else if atomT xs T p = 2 then (if drawn xs (p + 2) 2 = 0 then (⟨atomC xs T p, 5, v0⟩, p + 3) else (⟨atomC xs T p, 14 + drawn xs (p + 3) 2, smallM xs 2 false (p + 4)⟩, p + 5))
  else (⟨atomC xs T p, 14 + drawn xs (p + 2) 2, smallM xs 3 false (p + 3)⟩, p + 4)
theorem c_atom {xs : List Int} {T : Tbl} {p : Nat} (hx : TapeOk xs) (hp : p ≤ 1000000000) (hc : T.columns.length ≤ 1000) (ht : ∀ c ∈ T.columns, c.type = 1 ∨ c.type = 2 ∨ c.type = 3) (hfree : 1 ≤ (freeC T T.columns.length).length)
    (hk : T.primary.length ≤ 1000) (hf : T.foreigns.length ≤ 1000) (hfc : ∀ f ∈ T.foreigns, f.columns.length ≤ 1000) :
    ACall Tryz.prog 41 [.ptr 1000 0, aT T] [(1000, tapeO xs p)] (aAt (atomM xs T p).1) [(1000, tapeO xs (atomM xs T p).2)] := by
  refine enterq mixed ttok Tryz.func41 Tryz.ntmps41 Tryz.results41 ?_
  generalize hr : aAt (atomM xs T p).1 = R
  generalize hr2 : tapeO xs (atomM xs T p).2 = R2
  simp -implicitDefEqProofs only [argT, ↓steps, push_cast, simprocAttr, tte]
  refine loop_count mixed ttok 6 [0, 3, 4] [3, 4, 1000] (by simp only [pickT, ends, push_cast, simprocAttr]; rfl) (by simp only [pickO, consO_some, ends, push_cast, simprocAttr]; rfl) T.columns.length (fun _ => True) (fun n => [(5, .vec 500 (freeC T n).length)]) (fun n => [(500, .vec 3 1 (rowsOf rI (freeC T n)) 0)]) trivial ?_ ?_
  · exact (Weak.nilL 5 500 3 1 rfl rfl).trans (Weak.keepL (by simp [cst, freeC, ends]) (by simp [cst, freeC, rowsOf, ends]) (by simp [cst, ends]))
  intro I hI n hn hi
  have hl := freeC_length T n
  have hs := freeC_succ T n
  simp -implicitDefEqProofs only [cst, ↓steps, push_cast, simprocAttr, tte]
  refine bcase_intro (fun h => ?_) fun h => ?_
  · have h' : n < T.columns.length := by have := of_decide_eq_true h; omega
    have hw := wrap_succ h' (by omega)
    refine callq [[], []] [] (c_key13 T (n : Int) hk hf hfc) ?_
    simp -implicitDefEqProofs only [↓steps, push_cast, simprocAttr, tte]
    refine bcase_intro (fun g => ?_) fun g => ?_
    · have g' : keyP T n = false := by simpa using g
      rw [if_neg (by rw [g']; decide)] at hs
      refine ⟨by omega, ?_⟩
      exact cnt_again hI n rfl h' trivial (by simp [hw, hs, rowsOf_append, ends]) (by simp [hw, hs, rowsOf_append, ends]) (by simp [hw, hs, rowsOf_append, ends]) (by simp [hw, hs, rowsOf_append, ends])
    · have g' : keyP T n = true := by simpa using g
      rw [if_pos g'] at hs
      exact cnt_again hI n rfl h' trivial (by simp [hw, hs, ends]) (by simp [hw, hs, ends]) (by simp [hw, hs, ends]) (by simp [hw, hs, ends])
  have hnn : n = T.columns.length := by have := of_decide_eq_false h; omega
  subst hnn
  clear hI I hs
  have hmem := freeC_mem T T.columns.length
  have hM : atomM xs T p = atomM xs T p := rfl
  generalize hF : freeC T T.columns.length = F at hl hfree hmem
  refine callq [[], []] [(1000, 1000)] (c_next (n := (F.length : Int)) (p := p) hx (by omega) (by omega) (by omega)) ?_
  have hd := drawn_range xs p (n := (F.length : Int)) (by omega)
  have hc := hmem _ (getD_mem (show (drawn xs p F.length).toNat < F.length by omega))
  simp -implicitDefEqProofs only [↓steps, push_cast, simprocAttr, tte]
  refine ⟨by omega, by omega, by omega, ?_⟩
  have hC : atomC xs T p = F.getD (drawn xs p F.length).toNat default := by rw [atomC, hF]
  generalize F.getD (drawn xs p F.length).toNat default = c at hc hC ⊢
  have hkt := ht _ (getD_mem (show c.toNat < T.columns.length by omega))
  have hK : atomT xs T p = (T.columns.getD c.toNat default).type := by rw [atomT, hC]
  generalize (T.columns.getD c.toNat default).type = k at hkt hK ⊢
  refine callq [[], []] [(1000, 1000)] (c_next (n := 6) (p := p + 1) hx (by omega) (by omega) (by omega)) ?_
  simp -implicitDefEqProofs only [↓steps, push_cast, simprocAttr, tte]
  refine bcase_intro (fun g1 => ?_) fun g1 => ?_
  · have g1' : drawn xs (p + 1) 6 = 0 := by simpa using g1
    have hM : atomM xs T p = (⟨c, 21, v0⟩, p + 2) := by rw [atomM, hC, if_pos g1']
    refine retx_of [0, 0, 0, 0, 0] rfl (by simp) (by simp) ?_ (by first | simp [ends] | (subst_vars; simp [ends])) ?_ (by simp [ends])
    · rw [← hr, hM]; simp [v0]
    · rw [← hr2, hM]; simp [ends]
  have g1' : ¬ drawn xs (p + 1) 6 = 0 := by simpa using g1
  rcases hkt with rfl | rfl | rfl
  · simp -implicitDefEqProofs only [↓steps, push_cast, simprocAttr, tte]
    refine callq [[], []] [(1000, 1000)] (c_next (n := 6) (p := p + 2) hx (by omega) (by omega) (by omega)) ?_
    have hd2 := drawn_range xs (p + 2) (n := 6) (by omega)
    have w2 : IntKind.i64.wrap (14 + drawn xs (p + 2) 6) = 14 + drawn xs (p + 2) 6 := wrap_eq (by omega) (by omega)
    simp -implicitDefEqProofs only [w2, ↓steps, push_cast, simprocAttr, tte]
    refine callq [[], [], []] [(1000, 1000)] (c_msmall (k := 1) (nl := false) (p := p + 3) hx (by omega) (by omega)) ?_
    have hM : atomM xs T p = (⟨c, 14 + drawn xs (p + 2) 6, smallM xs 1 false (p + 3)⟩, p + 4) := by rw [atomM, hC, hK, if_neg g1', if_pos rfl]
    simp -implicitDefEqProofs only [↓steps, push_cast, simprocAttr, tte]
    refine retx_of [0, 0, 0, 0, 0] rfl (by simp) (by simp) ?_ (by first | simp [ends] | (subst_vars; simp [ends])) ?_ (by simp [ends])
    · rw [← hr, hM]; rfl
    · rw [← hr2, hM]; simp [ends]
  · simp -implicitDefEqProofs only [↓steps, push_cast, simprocAttr, tte]
    refine callq [[], []] [(1000, 1000)] (c_next (n := 2) (p := p + 2) hx (by omega) (by omega) (by omega)) ?_
    simp -implicitDefEqProofs only [↓steps, push_cast, simprocAttr, tte]
    refine bcase_intro (fun g2 => ?_) fun g2 => ?_
    · have g2' : drawn xs (p + 2) 2 = 0 := by simpa using g2
      have hM : atomM xs T p = (⟨c, 5, v0⟩, p + 3) := by rw [atomM, hC, hK, if_neg g1', if_neg (by decide), if_pos rfl, if_pos g2']
      refine retx_of [0, 0, 0, 0, 0] rfl (by simp) (by simp) ?_ (by first | simp [ends] | (subst_vars; simp [ends])) ?_ (by simp [ends])
      · rw [← hr, hM]; simp [v0]
      · rw [← hr2, hM]; simp [ends]
    have g2' : ¬ drawn xs (p + 2) 2 = 0 := by simpa using g2
    refine callq [[], []] [(1000, 1000)] (c_next (n := 2) (p := p + 3) hx (by omega) (by omega) (by omega)) ?_
    have hd2 := drawn_range xs (p + 3) (n := 2) (by omega)
    have w2 : IntKind.i64.wrap (14 + drawn xs (p + 3) 2) = 14 + drawn xs (p + 3) 2 := wrap_eq (by omega) (by omega)
    simp -implicitDefEqProofs only [w2, ↓steps, push_cast, simprocAttr, tte]
    refine callq [[], [], []] [(1000, 1000)] (c_msmall (k := 2) (nl := false) (p := p + 4) hx (by omega) (by omega)) ?_
    have hM : atomM xs T p = (⟨c, 14 + drawn xs (p + 3) 2, smallM xs 2 false (p + 4)⟩, p + 5) := by rw [atomM, hC, hK, if_neg g1', if_neg (by decide), if_pos rfl, if_neg g2']
    simp -implicitDefEqProofs only [↓steps, push_cast, simprocAttr, tte]
    refine retx_of [0, 0, 0, 0, 0] rfl (by simp) (by simp) ?_ (by first | simp [ends] | (subst_vars; simp [ends])) ?_ (by simp [ends])
    · rw [← hr, hM]; rfl
    · rw [← hr2, hM]; simp [ends]
  · simp -implicitDefEqProofs only [↓steps, push_cast, simprocAttr, tte]
    refine callq [[], []] [(1000, 1000)] (c_next (n := 2) (p := p + 2) hx (by omega) (by omega) (by omega)) ?_
    have hd2 := drawn_range xs (p + 2) (n := 2) (by omega)
    have w2 : IntKind.i64.wrap (14 + drawn xs (p + 2) 2) = 14 + drawn xs (p + 2) 2 := wrap_eq (by omega) (by omega)
    simp -implicitDefEqProofs only [w2, ↓steps, push_cast, simprocAttr, tte]
    refine callq [[], [], []] [(1000, 1000)] (c_msmall (k := 3) (nl := false) (p := p + 3) hx (by omega) (by omega)) ?_
    have hM : atomM xs T p = (⟨c, 14 + drawn xs (p + 2) 2, smallM xs 3 false (p + 3)⟩, p + 4) := by rw [atomM, hC, hK, if_neg g1', if_neg (by decide), if_neg (by decide)]
    simp -implicitDefEqProofs only [↓steps, push_cast, simprocAttr, tte]
    refine retx_of [0, 0, 0, 0, 0] rfl (by simp) (by simp) ?_ (by first | simp [ends] | (subst_vars; simp [ends])) ?_ (by simp [ends])
    · rw [← hr, hM]; rfl
    · rw [← hr2, hM]; simp [ends]
end Go.Proofs.YtodoeplhcmecjaaGreatDoor
