/- All violations of any instance of made and of any schemas: a proof over an abstract machine of our own (part Le) -/
import Derived.Test.YtodoeplhcmecjaaGreatDoorLd
import Derived.HandedShaped
import Derived.Handed
set_option linter.all false
namespace Go.Am
variable [T : Tab]
open Go.ChangeShapes Go.WideShapes Go.ChangeAt Go.RowKit
set_option linter.unusedVariables false
/-- Cells that read as data. -/
def crep (R : Rd) : List D → List Value → Prop
  | [], [] => True
  | x :: xs, v :: vs => (x.rep R v ∧ one v = true) ∧ crep R xs vs
  | _, _ => False
theorem crep_length {R : Rd} : ∀ {xs : List D} {vs : List Value}, crep R xs vs → xs.length = vs.length
  | [], [], _ => rfl
  | x :: xs, v :: vs, h => by simp only [crep] at h; simp [crep_length h.2]
  | [], _ :: _, h => h.elim
  | _ :: _, [], h => h.elim
theorem crep_repL {E : Env} : ∀ {xs : List D} {vs : List Value}, crep E.R xs vs → repL E (xs.map .d) vs ∧ ∀ u ∈ vs, one u = true
  | [], [], _ => ⟨by simp [repL], by simp⟩
  | x :: xs, v :: vs, h => by
    simp only [crep] at h
    obtain ⟨h1, h2⟩ := crep_repL h.2
    refine ⟨by simp only [List.map_cons, repL]; exact ⟨v, vs, rfl, by simpa only [A.rep] using h.1.1, h1⟩, fun u hu => ?_⟩
    rcases List.mem_cons.1 hu with rfl | hu
    · exact h.1.2
    · exact h2 u hu
  | [], _ :: _, h => h.elim
  | _ :: _, [], h => h.elim
theorem crep_agg {E : Env} {xs : List D} {cs : Array Value} (h : crep E.R xs cs.toList) : (A.agg (xs.map .d)).rep E (.agg cs) := by
  obtain ⟨h1, h2⟩ := crep_repL h
  simp only [A.rep]
  exact ⟨cs.toList, by simp, h1, h2⟩
theorem crep_rowAt {R : Rd} {C : Nat → Value → Prop} : ∀ {xs : List D} {vs : List Value} (k : Nat), crep R xs vs → (∀ j u, vs[j]? = some u → C (k + j) u) → rowAt R C k xs
  | [], [], _, _, _ => by simp [rowAt]
  | x :: xs, v :: vs, k, h, hc => by
    simp only [crep] at h
    simp only [rowAt]
    exact ⟨⟨v, hc 0 v rfl, h.1.1⟩, crep_rowAt (k + 1) h.2 fun j u hj => by have := hc (j + 1) u (by simpa using hj); rwa [show k + (j + 1) = k + 1 + j by omega] at this⟩
  | [], _ :: _, _, h, _ => h.elim
  | _ :: _, [], _, h, _ => h.elim
section
variable {H : Type} {enc : TypeId × Value → H} {P : Program} {w : World} {base b0 : Nat} {spare : Nat → Bool} {held : Bool} {t e : TypeId} {fuel : Nat} {cs : List Value} {x : DataW H × List MemPlace}
theorem rd_int {R : Rd} {k : IntKind} (ht : P.underlying t = some (.int k)) (h : DataW.trod enc P w base spare held fuel t cs = some x) : ∃ n : Int, (Lit.int k n).wf = true ∧ crep R [.lit (.int k n)] cs := by
  obtain ⟨n, rfl, _, hw⟩ := DataW.trod_int ht h
  exact ⟨n, hw, by simp [crep, D.rep, one]⟩
theorem rd_bool {R : Rd} (ht : P.underlying t = some .bool) (h : DataW.trod enc P w base spare held fuel t cs = some x) : ∃ b : Bool, crep R [.lit (.bool b)] cs := by
  obtain ⟨b, rfl, _⟩ := DataW.trod_bool ht h
  exact ⟨b, by simp [crep, D.rep, one]⟩
theorem rd_str {R : Rd} (ht : P.underlying t = some .string) (h : DataW.trod enc P w base spare held fuel t cs = some x) : ∃ s : ByteArray, crep R [.lit (.string s)] cs := by
  obtain ⟨s, rfl, _⟩ := DataW.trod_string ht h
  exact ⟨s, by simp [crep, D.rep, one]⟩
theorem rows_of_cells {α : Type} {f : α → List D} {wd b : Nat} : ∀ (l : List α) (k : Nat),
    (∀ i (hi : i < l.length), ∃ cs' : List Value, cs'.length = wd ∧ crep (E0 w).R (f l[i]) cs' ∧ ∀ j u, cs'[j]? = some u → w.cell? ⟨b, k + i * wd + j, none⟩ = some u) → rowsAt (E0 w).R ((E0 w).R b) wd k (rowsOf f l)
  | [], k, _ => by simp [rowsOf, rowsAt]
  | a :: l, k, h => by
    rw [rowsOf_cons]
    simp only [rowsAt]
    obtain ⟨cs', h1, h2, h3⟩ := h 0 (by simp)
    refine ⟨(crep_length h2).trans h1, crep_rowAt k h2 fun j u hj => E0_cell (by have := h3 j u hj; simpa using this), rows_of_cells l (k + wd) fun i hi => ?_⟩
    obtain ⟨cs2, g1, g2, g3⟩ := h (i + 1) (by simpa using hi)
    refine ⟨cs2, g1, g2, fun j u hj => ?_⟩
    have := g3 j u hj
    rwa [show k + (i + 1) * wd + j = k + wd + i * wd + j by rw [Nat.succ_mul]; omega] at this
theorem list_of {α : Type} {p : Nat → α → Prop} : ∀ n : Nat, (∀ i, i < n → ∃ a, p i a) → ∃ l : List α, l.length = n ∧ ∀ i (hi : i < l.length), p i l[i]
  | 0, _ => ⟨[], rfl, fun i hi => by simp at hi⟩
  | n + 1, h => by
    obtain ⟨l, h1, h2⟩ := list_of n fun i hi => h i (by omega)
    obtain ⟨a, ha⟩ := h n (by omega)
    refine ⟨l ++ [a], by simp [h1], fun i hi => ?_⟩
    by_cases hil : i < l.length
    · rw [List.getElem_append_left hil]; exact h2 i hil
    · have : i = l.length := by simp at hi; omega
      subst this
      simp only [List.getElem_concat_length]
      rw [h1]; exact ha
/-- A slice, read, whatever it holds. -/
theorem rd_slice {α : Type} (f : α → List D) {wd : Nat} (ht : P.underlying t = some (.slice e)) (hc : P.cellsOf e = wd) (hw0 : 0 < wd) (h : DataW.trod enc P w base spare held fuel t cs = some x)
    (he : ∀ n cs' y, n < fuel → DataW.trod enc P w base spare held n e cs' = some y → ∃ a : α, crep (E0 w).R (f a) cs') : ∃ l : List α, crep (E0 w).R [.sl wd (rowsOf f l)] cs := by
  rcases DataW.trod_slice ht h with ⟨rfl, _⟩ | ⟨a, len, cap, elems, rest, n, rfl, rfl, _, hb, hl, hm, hlen, hel, _, _⟩
  · refine ⟨[], ⟨?_, rfl⟩, trivial⟩
    simp only [D.rep]
    exact ⟨none, 0, rfl, Nat.le_refl _, fun _ => ⟨rfl, rfl⟩, fun a' h => by cases h⟩
  · rw [hc] at hel
    have key : ∀ i, i < len → ∃ (q : α), ∃ cs' : List Value, cs'.length = wd ∧ crep (E0 w).R (f q) cs' ∧ ∀ j, j < wd → w.cell? ((a.add (i * wd)).add j) = cs'[j]? := fun i hi => by
      have h1 := hel i hi
      rw [List.getElem?_eq_getElem (by omega)] at h1
      obtain ⟨cs', h2, h3⟩ := Option.bind_eq_some_iff.1 h1
      obtain ⟨q, hq⟩ := he n cs' _ (by omega) h3
      obtain ⟨_, h4, h5⟩ := World.cells?_some h2
      exact ⟨q, cs', h4, hq, h5⟩
    have hspot : 0 < len → a.spot = none := fun h0 => by
      obtain ⟨q, cs', h1, h2, h3⟩ := key 0 h0
      have := h3 0 hw0
      rw [List.getElem?_eq_getElem (by omega)] at this
      have := World.cell?_spot this
      simpa [Addr.add] using this
    obtain ⟨l, h1, h2⟩ := list_of len key
    refine ⟨l, ⟨?_, rfl⟩, trivial⟩
    simp only [D.rep]
    refine ⟨some a, cap, by rw [rowsOf_length, h1], by rw [rowsOf_length, h1]; exact hl, (fun h => by cases h), fun a' ha' => ?_⟩
    cases ha'
    refine ⟨fun hne => ?_, ?_⟩
    · refine hspot ?_
      cases l with
      | nil => exact absurd rfl hne
      | cons q l => rw [← h1]; simp
    · refine rows_of_cells l a.off fun i hi => ?_
      obtain ⟨cs', g1, g2, g3⟩ := h2 i hi
      refine ⟨cs', g1, g2, fun j u hj => ?_⟩
      have hjw : j < wd := by have := (List.getElem?_eq_some_iff.1 hj).1; omega
      have hs := hspot (by omega)
      have := g3 j hjw
      rw [hj] at this
      obtain ⟨ab, ao, asp⟩ := a
      simp only at hs
      subst hs
      have e1 : ((Addr.mk ab ao none).add (i * wd)).add j = ⟨ab, ao + i * wd + j, none⟩ := by
        unfold Addr.add
        by_cases hi0 : i * wd = 0 <;> by_cases hj0 : j = 0 <;> simp [hi0, hj0, Nat.add_assoc]
      rwa [e1] at this
/-- A struct whose fields fill one cell each. -/
theorem rd_struct {fs : Array Field} (ht : P.underlying t = some (.struct fs)) (hcs : P.cellsOf t = fs.size) (hoff : ((List.range fs.size).all fun i => match fs[i]? with | some f => f.offset == i && P.cellsOf f.type == 1 | none => true) = true)
    (h : DataW.trod enc P w base spare held fuel t cs = some x) : ∃ n, fuel = n + 1 ∧ cs.length = fs.size ∧ ∀ (i : Nat) (f : Field), fs[i]? = some f → ∃ c y, cs[i]? = some c ∧ DataW.trod enc P w base spare held n f.type [c] = some y := by
  obtain ⟨xs, n, hn, _, hl, hx, hf⟩ := DataW.trod_struct ht h
  rw [hcs] at hl
  refine ⟨n, hn, hl, fun i f hi => ?_⟩
  have hlt : i < fs.size := (Array.getElem?_eq_some_iff.1 hi).1
  have h1 := List.all_eq_true.1 hoff i (by simpa using hlt)
  rw [hi] at h1
  simp only [Bool.and_eq_true, beq_iff_eq] at h1
  have h2 := hf i f hi
  rw [h1.1, h1.2, List.drop_eq_getElem_cons (by omega), List.take_succ_cons, List.take_zero, List.getElem?_eq_getElem (by omega)] at h2
  exact ⟨cs[i], _, List.getElem?_eq_getElem (by omega), h2⟩
end
/-- Is it a struct of one-cell fields of these types? -/
def structOk (P : Program) (t : TypeId) (tys : List TypeId) : Bool := match P.underlying t with
  | some (.struct fs) => fs.toList.map (·.type) == tys && P.cellsOf t == fs.size && (List.range fs.size).all fun i => match fs[i]? with | some f => f.offset == i && P.cellsOf f.type == 1 | none => true
  | _ => false
theorem rd_structT {H : Type} {enc : TypeId × Value → H} {P : Program} {w : World} {base : Nat} {spare : Nat → Bool} {held : Bool} {t : TypeId} {fuel : Nat} {cs : List Value} {x : DataW H × List MemPlace} (tys : List TypeId)
    (hs : structOk P t tys = true) (h : DataW.trod enc P w base spare held fuel t cs = some x) : ∃ n, fuel = n + 1 ∧ cs.length = tys.length ∧ ∀ (i : Nat) (u : TypeId), tys[i]? = some u → ∃ c y, cs[i]? = some c ∧ DataW.trod enc P w base spare held n u [c] = some y := by
  unfold structOk at hs
  split at hs
  · rename_i fs hu
    simp only [Bool.and_eq_true, beq_iff_eq] at hs
    obtain ⟨⟨h1, h2⟩, h3⟩ := hs
    obtain ⟨n, hn, hl, hf⟩ := rd_struct hu h2 h3 h
    refine ⟨n, hn, by rw [hl, ← h1]; simp, fun i u hi => ?_⟩
    rw [← h1, List.getElem?_map, Option.map_eq_some_iff] at hi
    obtain ⟨f, hf1, rfl⟩ := hi
    exact hf i f (by simpa using hf1)
  · cases hs
theorem crep_1 {R : Rd} {a : D} {c0 : Value} {cs : List Value} (hl : cs.length = 1) (e0 : cs[0]? = some c0) (r0 : crep R [a] [c0]) : crep R [a] cs := by
  match cs, hl with
  | [b], _ => simp at e0; subst e0; exact r0
theorem crep_2 {R : Rd} {a b : D} {c0 c1 : Value} {cs : List Value} (hl : cs.length = 2) (e0 : cs[0]? = some c0) (e1 : cs[1]? = some c1) (r0 : crep R [a] [c0]) (r1 : crep R [b] [c1]) : crep R [a, b] cs := by
  match cs, hl with
  | [x, y], _ => simp at e0 e1; subst e0; subst e1; exact ⟨r0.1, r1.1, trivial⟩
theorem crep_3 {R : Rd} {a b c : D} {c0 c1 c2 : Value} {cs : List Value} (hl : cs.length = 3) (e0 : cs[0]? = some c0) (e1 : cs[1]? = some c1) (e2 : cs[2]? = some c2) (r0 : crep R [a] [c0]) (r1 : crep R [b] [c1]) (r2 : crep R [c] [c2]) : crep R [a, b, c] cs := by
  match cs, hl with
  | [x, y, z], _ => simp at e0 e1 e2; subst e0; subst e1; subst e2; exact ⟨r0.1, r1.1, r2.1, trivial⟩
theorem crep_6 {R : Rd} {a b c d e f : D} {c0 c1 c2 c3 c4 c5 : Value} {cs : List Value} (hl : cs.length = 6) (e0 : cs[0]? = some c0) (e1 : cs[1]? = some c1) (e2 : cs[2]? = some c2) (e3 : cs[3]? = some c3) (e4 : cs[4]? = some c4) (e5 : cs[5]? = some c5)
    (r0 : crep R [a] [c0]) (r1 : crep R [b] [c1]) (r2 : crep R [c] [c2]) (r3 : crep R [d] [c3]) (r4 : crep R [e] [c4]) (r5 : crep R [f] [c5]) : crep R [a, b, c, d, e, f] cs := by
  match cs, hl with
  | [x0, x1, x2, x3, x4, x5], _ =>
    simp at e0 e1 e2 e3 e4 e5; subst e0; subst e1; subst e2; subst e3; subst e4; subst e5
    exact ⟨r0.1, r1.1, r2.1, r3.1, r4.1, r5.1, trivial⟩
/-- A row that lists a variable, with the world's shape kept. -/
theorem returns_and_shaped {H : Type} {enc : TypeId × Value → H} {a : Assume} {C : Checked} {os : Os} {f : FuncId} {fn : Func} {s : ChangeSpec} {conds : List PathCond} {apart fresh handsOn again : Bool} {X : World → Array Value → Prop}
    (hX : ∀ (w w' : World) (args : Array Value), w.heap = w'.heap → X w args → X w' args)
    (own : ownKnob C.prog.godebug = none) (started : os.Started) (noInit : C.prog.inits.idxOf? f = none) (hfn : C.prog.funcs[f]? = some fn)
    (witness : ∃ (w : World) (tape : Tape) (i : Input), w.os = os ∧ (w.forCall tape i).Shaped C.prog ∧ i.vars = [] ∧ Input.okWide C.prog (w.forCall tape i) .any w.heap.size f i ∧
      ((s.pre enc C.prog fn conds apart (w.forCall tape i).memory i.args ∧ X (w.forCall tape i).memory i.args) ∧ sizedMet enc C.prog fn (OpenSpec.ofChange s) apart (w.forCall tape i).memory i.args) ∧ a.holds C.prog (lone (Frame.enter C.prog f i.args .normal) [] (w.forCall tape i)))
    (contract : ∀ (W : World) (base : Nat) (args : Array Value) (ds gs : List (DataW H)) (before : List MemPlace),
      (∀ (j : Nat) t v, fn.params[j]? = some t → args[j]? = some v → Value.okWide C.prog W .any base t v) →
      DataW.Whole enc C.prog fn.params.toList s.vars apart W args.toList ds gs before → X W args → W.ShapedOpen C.prog →
      Calls C.prog f args W fun e W' => ∃ v, e = .returned v ∧ s.post enc C.prog fn apart fresh handsOn again W args v W') :
    ReturnsInHanded a C os f .any (fun w args => (s.pre enc C.prog fn conds apart w args ∧ X w args) ∧ sizedMet enc C.prog fn (OpenSpec.ofChange s) apart w args) (s.post enc C.prog fn apart fresh handsOn again) := by
  refine returnsInHanded_of_calls own started noInit witness ?_
  intro w tape i _ hsh _ hok hpre hholds
  obtain ⟨_, _, _, fn', hfn', _, _, _, _, hval⟩ := hok
  have e : fn' = fn := Option.some.inj (hfn'.symm.trans hfn)
  subst e
  obtain ⟨⟨⟨ds, gs, before, hw, hc⟩, hx⟩, hz⟩ := hpre
  have hw' := DataW.Whole.of_heap (w' := w.forCall tape i) (by rfl) hw
  refine (contract (w.forCall tape i) w.heap.size i.args ds gs before hval hw' (hX _ _ _ (by rfl) hx) hsh).mono fun e W' ⟨v, he, hp⟩ => ?_
  subst he
  exact ChangeSpec.post_blind hp
end Go.Am
namespace Go.Am
variable [T : Tab]
set_option linter.unusedVariables false
/-- A slot's slice is shut. -/
theorem Weak.frzSlotL {t : List (Nat × A)} {o : List (Nat × Ob)} (k wd : Nat) {f : Frz} (hf : frz (lookO o) wd (lookT t k) = some f) (hs : f.side) : Weak (SL.mk t o).st (SL.mk ((k, .d f.x) :: t) (updO o f.upd)).st := by
  intro cx N a w ⟨β, h1, h2, h3, h4⟩
  obtain ⟨r1, L1, hx⟩ := frz_ok h1 hf hs (h2 k)
  simp only [SL.st] at r1 L1 hx ⊢
  rw [lookO_upd] at r1 L1 hx
  refine ⟨_, r1, fun j => ?_, h3, h4⟩
  show (lookT ((k, _) :: t) j).rep _ _
  simp only [lookT]
  by_cases hj : k = j
  · subst hj; rw [if_pos rfl]; simpa [A.rep] using hx
  · rw [if_neg hj]; exact A.rep_le L1 _ _ (h2 j)
end Go.Am
