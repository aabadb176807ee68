/- Instances made from a tape have few rows, as the tape says: a proof over an abstract machine of our own (part Wf) -/
import Derived.Test.YtampbaaiddbacaaGreatDoorWd
import Derived.Test.YtampbaaiddbacaaGreatDoorWc
import Derived.Test.YtampbaaiddbacaaGreatDoorWe
import Derived.Test.YtampbaaiddbacaaGreatDoorLe
import Derived.Test.YtampbaaiddbacaaGreatDoorWb
set_option linter.all false
namespace Go.Proofs.YtampbaaiddbacaaGreatDoor
open Go.Am
attribute [local simp, local push_cast] num boo str ints aV aTab aInst aS aT aC aRow rRow rTab vO rVio
set_option linter.unusedVariables false
set_option maxRecDepth 100000
set_option maxHeartbeats 4000000
/-! The specification's keys: rows with the values of an earlier one. -/
def isK0 (v : Val) : Bool := v.kind == 0
end Go.Proofs.YtampbaaiddbacaaGreatDoor
namespace Go.Proofs.YtampbaaiddbacaaGreatDoor
open Go.Am
set_option linter.unusedVariables false
set_option maxRecDepth 100000
/-! Keys: what the program finds by texts is what the specification finds by comparing. -/
theorem findS_snoc (k t : ByteArray) (v : Int) : ∀ es : List (ByteArray × Int), findS t (es ++ [(k, v)]) = match findS t es with | some o => some o | none => if t = k then some v else none
  | [] => by simp [findS]
  | p :: es => by
    simp only [List.cons_append, findS, findS_snoc k t v es]
    split <;> rfl
theorem any_congr {p q : Val → Bool} : ∀ {l : List Val}, (∀ v ∈ l, p v = q v) → l.any p = l.any q
  | [], _ => rfl
  | v :: l, h => by
    rw [List.any_cons, List.any_cons, h v List.mem_cons_self, any_congr fun x hx => h x (List.mem_cons_of_mem _ hx)]
/-- Texts of the values in these columns tell them apart, and null is written in one way. -/
structure TextOk (rows : List Row) (cols : List Int) : Prop where
  inj : ∀ q ∈ rows, ∀ r ∈ rows, textL (partM q cols) = textL (partM r cols) → partM q cols = partM r cols
  nul : ∀ r ∈ rows, ∀ v ∈ partM r cols, isNull v = isK0 v
theorem TextOk.any {rows : List Row} {cols : List Int} (h : TextOk rows cols) {r : Row} (hr : r ∈ rows) : (partM r cols).any isNull = (partM r cols).any isK0 := any_congr (h.nul r hr)
def keepR (cols : List Int) (nulls : Bool) (q : Row) : Bool := !(!nulls && (partM q cols).any isNull)
/-! Values of the right types. -/
end Go.Proofs.YtampbaaiddbacaaGreatDoor
namespace Go.Proofs.YtampbaaiddbacaaGreatDoor
open Go.Am
attribute [local simp, local push_cast] num boo str ints aV aTab aInst aS aT aC aRow rRow rTab vO rVio rB vT
set_option linter.unusedVariables false
set_option maxRecDepth 100000
set_option maxHeartbeats 4000000
/-! The specification's look at the rows of a table. -/
end Go.Proofs.YtampbaaiddbacaaGreatDoor
namespace Go.Proofs.YtampbaaiddbacaaGreatDoor
open Go.Am
attribute [local simp, local push_cast] num boo str ints aV aTab aInst aS aT aC aRow rRow rTab vO rVio rB vT found rE
set_option linter.unusedVariables false
set_option maxRecDepth 100000
set_option maxHeartbeats 4000000
/-! The specification's look at a table. -/
def vI (i : Inst) : Ob := .var [.d (.sl 1 (rowsOf rTab i))]
def bD (fine : List Bool) : A := .d (.sl 1 (rowsOf rB fine))
attribute [local simp, local push_cast] bD
def tS (s : Sch) (i : Inst) (fine : List Bool) (k : Nat) (T : Tbl) (rows : List Row) (o : List Vio) : List (Nat × A) :=
  [(2, num k), (3, bD fine), (4, .ptr 4 0), (5, .ptr 5 0), (9, .ptr 9 0), (10, aTab rows), (11, .vec 600 o.length)]
end Go.Proofs.YtampbaaiddbacaaGreatDoor
namespace Go.Proofs.YtampbaaiddbacaaGreatDoor
open Go.Am
set_option linter.unusedVariables false
set_option maxRecDepth 100000
/-! What the specification finds in a table is what the program finds. -/
end Go.Proofs.YtampbaaiddbacaaGreatDoor
namespace Go.Proofs.YtampbaaiddbacaaGreatDoor
open Go.Am
attribute [local simp, local push_cast] num boo str ints aV aTab aInst aS aT aC aRow rRow rTab vO rVio rB vT found rE bD
set_option linter.unusedVariables false
set_option maxRecDepth 100000
set_option maxHeartbeats 4000000
/-! The specification finds the violations that the program finds. -/
end Go.Proofs.YtampbaaiddbacaaGreatDoor
namespace Go.Proofs.YtampbaaiddbacaaGreatDoor
open Go.Am
set_option linter.unusedVariables false
set_option maxRecDepth 100000
/-! Validity does not depend on the order of rows. -/
theorem cell_nil (T : Tbl) (k : Int) (n c : Nat) (v : Val) : cellVio T k n c v = [] ↔ cellVio T k 0 c v = [] := by
  unfold cellVio
  split
  · simp
  · split <;> simp
theorem cells_nil (T : Tbl) (k : Int) (n : Nat) : ∀ (r : List Val) (c : Nat), cellsVio T k n r c = [] ↔ cellsVio T k 0 r c = []
  | [], _ => Iff.rfl
  | v :: r, c => by rw [cellsVio, cellsVio, List.append_eq_nil_iff, List.append_eq_nil_iff, cell_nil, cells_nil T k n r (c + 1)]
theorem row_nil (T : Tbl) (k : Int) (n : Nat) (r : Row) : rowVio T k n r = [] ↔ rowVio T k 0 r = [] := by
  unfold rowVio
  split
  · simp
  · exact cells_nil ..
theorem rows_nil (T : Tbl) (k : Int) : ∀ (rows : List Row) (n : Nat), rowsVio T k rows n = [] ↔ ∀ r ∈ rows, rowVio T k 0 r = []
  | [], _ => by simp [rowsVio]
  | r :: rs, n => by rw [rowsVio, List.append_eq_nil_iff, row_nil, rows_nil T k rs (n + 1)]; simp
def keptT (cols : List Int) (nulls : Bool) (rows : List Row) : List ByteArray := (rows.filter (keepR cols nulls)).map fun r => textL (partM r cols)
theorem key_nil (kind table index : Int) (cols : List Int) (nulls : Bool) : ∀ (rows : List Row) (n : Nat) (es : List (ByteArray × Int)),
    keyGo kind table index cols nulls rows n es = [] ↔ (keptT cols nulls rows).Nodup ∧ ∀ t ∈ keptT cols nulls rows, findS t es = none
  | [], _, _ => by simp [keyGo, keptT]
  | r :: rs, n, es => by
    rw [keyGo]
    by_cases hk : (!nulls && (partM r cols).any isNull) = true
    · have hf : keepR cols nulls r = false := by rw [keepR, hk]; rfl
      rw [if_pos hk, key_nil kind table index cols nulls rs]
      simp only [keptT, List.filter_cons, hf, Bool.false_eq_true, if_false]
    · have hf : keepR cols nulls r = true := by
        rw [keepR]
        cases q : (!nulls && (partM r cols).any isNull)
        · rfl
        · exact absurd q hk
      have hc : keptT cols nulls (r :: rs) = textL (partM r cols) :: keptT cols nulls rs := by simp only [keptT, List.filter_cons, hf, if_true, List.map_cons]
      rw [if_neg hk, hc]
      cases hs : findS (textL (partM r cols)) es with
      | some o =>
        simp only [List.nodup_cons, List.mem_cons, forall_eq_or_imp, hs]
        simp
      | none =>
        simp only
        rw [key_nil kind table index cols nulls rs]
        simp only [List.nodup_cons, List.mem_cons, forall_eq_or_imp, hs, true_and, findS_snoc]
        constructor
        · rintro ⟨h1, h2⟩
          refine ⟨⟨fun hm => ?_, h1⟩, fun t ht => ?_⟩
          · have := h2 _ hm
            rw [hs] at this
            simp at this
          · have := h2 t ht
            cases q : findS t es with
            | none => rfl
            | some o => rw [q] at this; simp at this
        · rintro ⟨⟨h1, h2⟩, h3⟩
          refine ⟨h2, fun t ht => ?_⟩
          rw [h3 t ht]
          simp only
          rw [if_neg]
          intro e
          exact h1 (e ▸ ht)
end Go.Proofs.YtampbaaiddbacaaGreatDoor
namespace Go.Proofs.YtampbaaiddbacaaGreatDoor
open Go.Am
set_option linter.unusedVariables false
set_option maxRecDepth 100000
/-! Rows that fit a table (as in in/P8). -/
structure RowOk (T : Tbl) (r : Row) : Prop where
  len : r.length = T.columns.length
  cell : ∀ c, c < T.columns.length → badV (T.columns.getD c default) (r.getD c default) = false ∧ ((r.getD c default).kind = 0 → (T.columns.getD c default).nullable = true ∧ c ≠ 0)
def kV (n : Int) : Val := ⟨1, n, ByteArray.empty⟩
theorem RowOk.rowVio {T : Tbl} (hp : T.primary = [0]) {r : Row} (h : RowOk T r) (k : Int) : Go.Proofs.YtampbaaiddbacaaGreatDoor.rowVio T k 0 r = [] := by
  have key : ∀ (l : List Val) (c : Nat), (∀ j, j < l.length → badV (T.columns.getD (c + j) default) (l.getD j default) = false ∧ ((l.getD j default).kind = 0 → (T.columns.getD (c + j) default).nullable = true ∧ c + j ≠ 0)) → cellsVio T k 0 l c = [] := by
    intro l
    induction l with
    | nil => intro c _; rfl
    | cons v l ih =>
      intro c hc
      rw [cellsVio, ih (c + 1) (fun j hj => by have := hc (j + 1) (by simpa using hj); simpa [show c + (j + 1) = c + 1 + j by omega] using this), List.append_nil]
      obtain ⟨h1, h2⟩ := hc 0 (by simp)
      simp only [Nat.add_zero, List.getD_cons_zero] at h1 h2
      unfold cellVio
      rw [if_neg (by rw [h1]; decide), if_neg]
      intro hh
      simp only [Bool.and_eq_true, beq_iff_eq, Bool.or_eq_true, Bool.not_eq_true'] at hh
      obtain ⟨g1, g2⟩ := h2 hh.1
      rcases hh.2 with q | q
      · rw [g1] at q; cases q
      · rw [hp, List.contains_iff_mem] at q
        have : (c : Int) = 0 := by simpa using q
        omega
  unfold Go.Proofs.YtampbaaiddbacaaGreatDoor.rowVio
  rw [if_neg (by rw [h.len]; simp)]
  exact key r 0 fun j hj => by simpa using h.cell j (by rw [← h.len]; exact hj)
theorem RowOk.mis {T : Tbl} {r : Row} (h : RowOk T r) : misM T r = false := by
  rw [rowErr_all (by rw [h.len]; simp)]
  rw [Bool.not_eq_false', List.all_eq_true]
  intro j hj
  have := (h.cell j (by rw [← h.len]; exact List.mem_range.1 hj)).1
  rw [this]; rfl
theorem bad1_false {s : Sch} {i : Inst} {k : Nat} (h : ∀ r ∈ i.getD k default, RowOk (s.getD k default) r) : bad1 s i k = false := by
  rw [bad1, List.any_eq_false]
  intro r hr
  rw [(h r hr).mis]; decide
theorem kV_type (n : Int) (h : 0 ≤ n) (h2 : n ≤ 1000) : OfType (kV n) 1 := by
  refine ⟨?_, .inr rfl⟩
  unfold validM kV
  rw [if_neg (by simp), if_pos rfl]
  simp only [Bool.and_eq_true, decide_eq_true_eq, beq_iff_eq]
  refine ⟨⟨by omega, by omega⟩, ?_⟩
  decide +kernel
theorem kV_badV (c : Col) (hc : c.type = 1) {y : Int} (h1 : 0 ≤ y) (h2 : y ≤ 1000) : badV c (kV y) = false := by
  have := (kV_type y h1 h2).ok
  unfold badV
  rw [this, hc]
  rfl
theorem kV_inj {a b : Int} (ha : 0 ≤ a) (ha2 : a ≤ 1000) (hb : 0 ≤ b) (hb2 : b ≤ 1000) (h : textL [kV a] = textL [kV b]) : a = b := by
  have := textL_inj [kV a] [kV b] [1] rfl rfl (fun i hi => by
    obtain rfl : i = 0 := by simpa using hi
    exact kV_type a ha ha2) (fun i hi => by
    obtain rfl : i = 0 := by simpa using hi
    exact kV_type b hb hb2) h
  injection this with h1 _
  injection h1
theorem keepR_true (cols : List Int) (r : Row) : keepR cols true r = true := rfl
theorem keptT_true (cols : List Int) (t : Tab2) : keptT cols true t = t.map fun r => textL (partM r cols) := by
  unfold keptT
  rw [List.filter_eq_self.2 fun r _ => keepR_true cols r]
theorem partM_one (r : Row) (c : Int) : partM r [c] = [r.getD c.toNat default] := rfl
theorem valid_iff {s : Sch} (hv : validS s = 0) {i : Inst} (hl : i.length = s.length) : validI s i = true ↔ ∀ k, k < s.length → tabM s i (badsM s i) k = [] := by
  unfold validI vioM
  rw [if_neg (by rw [hv]; decide), if_neg (by rw [hl]; simp)]
  simp only [BEq.rfl, Bool.true_and, beq_iff_eq, List.length_eq_zero_iff]
  unfold allM
  rw [List.flatMap_eq_nil_iff]
  exact ⟨fun h k hk => h k (List.mem_range.2 hk), fun h k hk => h k (List.mem_range.1 hk)⟩
/-- The schema of RandomPrefix. -/
def tabP : Tbl := ⟨⟨#[116]⟩, [⟨⟨#[107]⟩, 1, false⟩, ⟨⟨#[99]⟩, 3, true⟩], [0], [], [], []⟩
theorem tabP_valid : validS [tabP] = 0 := by kernel_rfl
/-- Rows whose keys are counted. -/
def RowsP (t : Tab2) : Prop := t.length ≤ 100 ∧ ∀ n, n < t.length → ∃ v : Val, t.getD n default = [kV n, v] ∧ badV ⟨⟨#[99]⟩, 3, true⟩ v = false
theorem RowsP.ok {t : Tab2} (h : RowsP t) : ∀ r ∈ t, RowOk tabP r := by
  intro r hr
  obtain ⟨n, hn, rfl⟩ := mem_at hr
  obtain ⟨v, e, hv⟩ := h.2 n hn
  have hl := h.1
  rw [e]
  refine ⟨rfl, fun c hc => ?_⟩
  match c, hc with
  | 0, _ => exact ⟨kV_badV _ rfl (by omega) (by omega), fun q => by cases q⟩
  | 1, _ => exact ⟨hv, fun _ => ⟨rfl, by omega⟩⟩
theorem RowsP.valid {t : Tab2} (h : RowsP t) : validI [tabP] [t] = true := by
  rw [valid_iff tabP_valid rfl]
  intro k hk
  obtain rfl : k = 0 := by simpa using hk
  have hb : (badsM [tabP] [t]).getD 0 default = false := by
    rw [badsM_at [tabP] [t] (by simp)]
    exact bad1_false h.ok
  unfold tabM
  rw [hb, List.append_eq_nil_iff, rows_nil]
  refine ⟨fun r hr => (h.ok r hr).rowVio rfl _, ?_⟩
  rw [if_neg (by decide), consM]
  simp only [show ([tabP].getD 0 default : Tbl) = tabP from rfl, show ([t].getD 0 default : Tab2) = t from rfl, show tabP.uniques = [] from rfl, show tabP.foreigns = [] from rfl, show tabP.checks = [] from rfl, show tabP.primary = [0] from rfl, uniqsM, chksM, forsM, List.nil_append, List.append_nil]
  rw [keyM, key_nil]
  refine ⟨?_, fun t _ => rfl⟩
  show (keptT [0] true t).Nodup
  have hk : (keptT [0] true t) = (List.range t.length).map fun n : Nat => textL [kV n] := by
    rw [keptT_true]
    refine List.ext_getElem (by simp) fun n h1 h2 => ?_
    have hn : n < t.length := by simpa using h1
    obtain ⟨v, e, _⟩ := h.2 n hn
    have e2 : t.getD n default = t[n] := by simp [List.getD_eq_getElem?_getD, hn]
    rw [e2] at e
    simp only [List.getElem_map, List.getElem_range, partM_one, Int.toNat_zero]
    rw [e]
    rfl
  rw [hk]
  have hl := h.1
  have : ∀ m, m ≤ 100 → ((List.range m).map fun n : Nat => textL [kV n]).Nodup := by
    intro m
    induction m with
    | zero => intro _; exact List.Pairwise.nil
    | succ m ih =>
      intro hm
      rw [List.range_succ, List.map_append, List.nodup_append]
      refine ⟨ih (by omega), List.nodup_cons.2 ⟨by simp, List.Pairwise.nil⟩, ?_⟩
      intro a ha b hb e
      obtain ⟨x, hx, rfl⟩ := List.mem_map.1 ha
      have hx := List.mem_range.1 hx
      simp only [List.map_cons, List.map_nil, List.mem_singleton] at hb
      rw [hb] at e
      have := kV_inj (by omega) (by omega) (by omega) (by omega) e
      omega
  exact this _ hl
end Go.Proofs.YtampbaaiddbacaaGreatDoor
namespace Go.Proofs.YtampbaaiddbacaaGreatDoor
open Go.Am
set_option linter.unusedVariables false
set_option maxRecDepth 100000
/-! Instances that are built up table by table. -/
/-- A table as a cell. -/
def tabC (t : Tab2) : A := .d (.sl 1 (rowsOf rRow t))
theorem get_at {D E : List A} {a : A} {i : Nat} (h : D.length = i) : (D ++ a :: E)[i]? = some a := by subst h; simp
theorem set_at {D E : List A} {a b : A} {i : Nat} (h : D.length = i) : (D ++ a :: E).set i b = D ++ b :: E := by subst h; simp
theorem closedL_tabs {dom : Nat → Bool} : ∀ (ts : Inst), closedL dom (ts.map tabC) = true
  | [] => rfl
  | t :: ts => by rw [List.map_cons, closedL, closedL_tabs ts]; rfl
theorem get_tab {i : Inst} {n : Nat} (h : n < i.length) : (i.map tabC)[n]? = some (tabC (i.getD n default)) := by
  rw [List.getElem?_map, List.getD_eq_getElem?_getD, List.getElem?_eq_getElem h]; rfl
/-- What an instance looks like of which one table is under way. -/
theorem seen_set {h2 : Nat → Option Ob} {i : Inst} {k m e fz q o : Nat} {tab : Tab2} (hk : k < i.length) (e1 : h2 q = some (.var ((i.map tabC).set k (.vec o m)))) (e2 : h2 o = some (.vec e 1 (rowsOf rRow tab) fz)) (hm : m = tab.length) :
    Seen h2 (.vs q i.length) (.sl 1 (rowsOf rTab (i.set k tab))) := by
  have hx : rowsOf rTab (i.set k tab) = ((i.set k tab).map fun t => (.sl 1 (rowsOf rRow t) : D)).map fun x => [x] := by rw [List.map_map]; rfl
  rw [hx]
  refine seen_vs e1 (by simp) (by simp) fun j c x hc hx => ?_
  rw [List.getElem?_set] at hc
  rw [List.getElem?_map, List.getElem?_set] at hx
  by_cases hjk : k = j
  · subst hjk
    rw [if_pos rfl, if_pos (by simpa using hk)] at hc
    rw [if_pos rfl, if_pos hk] at hx
    obtain rfl := Option.some.inj hc
    obtain rfl := Option.some.inj hx
    exact seen_vec e2 (by rw [rowsOf_length]; exact hm)
  · rw [if_neg hjk, List.getElem?_map] at hc
    rw [if_neg hjk] at hx
    cases hi : i[j]? with
    | none => rw [hi] at hc; cases hc
    | some t =>
      rw [hi] at hc hx
      obtain rfl := Option.some.inj hc
      obtain rfl := Option.some.inj hx
      exact seen_d _ _
theorem seen_args {h2 : Nat → Option Ob} {s : Sch} {i : Inst} {k m e fz q o : Nat} {tab : Tab2} (hk : k < i.length) (e1 : h2 q = some (.var ((i.map tabC).set k (.vec o m)))) (e2 : h2 o = some (.vec e 1 (rowsOf rRow tab) fz)) (hm : m = tab.length) :
    SeenL h2 [aS s, .agg [.vs q i.length]] [aS s, aInst (i.set k tab)] :=
  seenL_agg (seenL_d (seen_d _ _) (seenL_nil _)) (seenL_agg (seenL_d (seen_set hk e1 e2 hm) (seenL_nil _)) (seenL_nil _))
end Go.Proofs.YtampbaaiddbacaaGreatDoor
